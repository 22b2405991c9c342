/-
  Parts of the proofs, in the order in which they build: W1, W2, R0, T1, T2, F5, P2, P3, P4a.
-/
import Derived.Test.YtaelgbbnmjbjiaaGreatKa
import Derived.Test.YtaelgbbnmjbjiaaGreatKb
import Derived.Deep.RegionHeld3
set_option linter.unusedSimpArgs false
set_option linter.unusedVariables false
namespace Go.Proofs.YtaelgbbnmjbjiaaGreat
open Go.RowKit
def numB : Nat → Nat → List UInt8
  | 0, n => [UInt8.ofNat n]
  | f + 1, n => if 128 ≤ n then UInt8.ofNat (n % 128 + 128) :: numB f (n / 128) else [UInt8.ofNat n]
theorem u8_or128 {n : Nat} : bits .or .u8 ((n : Int) % 256) 128 = ((n % 128 + 128 : Nat) : Int) := by
  have h : ∀ x : Fin 256, bits .or .u8 (x.val : Int) 128 = ((x.val % 128 + 128 : Nat) : Int) := by decide +kernel
  have h2 := h ⟨n % 256, by omega⟩
  simp only at h2
  rw [show (n : Int) % 256 = ((n % 256 : Nat) : Int) by omega, h2]
  omega
theorem ownB_snoc {w : World} {base n c : Nat} {A : Option Addr} {l : List UInt8} {v : Int} {b : UInt8} (h : Own w base 5 A n c (l.map u8v ++ [.int .u8 v])) (hv : v = (b.toNat : Int)) : OwnB w base A n c (l ++ [b]) := by
  unfold OwnB; rw [List.map_append]; subst hv; exact h
set_option maxHeartbeats 2000000 in
set_option maxRecDepth 10000 in
theorem putNum (A : Option Addr) (n c : Nat) (l : List UInt8) (v : Nat) (w : World) (hl : l.length = n) (hr : Bs w A l) (hn : n ≤ 1000000000000) (hv : v ≤ 4294967295) :
    Calls Tryz.prog 9 #[.slice A n c, .int .i64 (v : Int)] w fun e w' => ∃ A' m c', e = .returned (.tuple #[.slice A' m c', .int .i64 0]) ∧ OwnB w' w.heap.size A' m c' (l ++ numB 5 v) ∧ Below w.heap.size w w' := by
  have HL := Lib.hid hl
  have HR := Lib.hid hr
  clear hl hr
  go_enter Tryz.func9, Tryz.ntmps9
  go_wp2_with (at_builtin; refine wpList_append_rd rfl _ _ elemB rfl w.heap.size none 0 0 [] rfl (Own.nil _ _ _) A n c (l.map u8v) rfl HR.out ?h1 (u8_one _) ?h2 ?h3 ?hb ?_)
  case h1 => rw [List.length_map]; exact HL.out
  case h2 => omega
  case h3 => omega
  case hb => exact Nat.le_refl _
  intro A' c' w1 hown hb hg hat
  have HO := Lib.hid (show OwnB w1 w.heap.size A' n c' l by
    exact hown)
  have HB := Lib.hid hb
  clear hown hb hg hat
  go_wp2
  go_loopg [1, 6] 5 (fun gg s1 s6 wr => ∃ (f x m co : Nat) (Ao : Option Addr) (out : List UInt8), f ≤ 5 ∧ f ≤ gg ∧ s1 = .int .i64 (x : Int) ∧ s6 = .slice Ao m co ∧ x < 128 * 2 ^ (7 * f) ∧ x ≤ 4294967295 ∧ OwnB wr w.heap.size Ao m co out ∧ m ≤ 1000000000010 ∧ m + f ≤ n + 5 ∧ out ++ numB f x = l ++ numB 5 v ∧ Below w.heap.size w wr)
  case atStart => exact ⟨5, v, n, c', A', l, by omega, by omega, rfl, by first | rfl | (rw [Nat.zero_add]), by omega, hv, HO.out, by omega, by omega, rfl, HB.out⟩
  case round =>
    obtain ⟨f, x, m, co, Ao, out, hf, hgg, rfl, rfl, hx, hx32, hown, hm, hmf, heq, hbel⟩ := hrel
    have HO := Lib.hid hown
    have HQ := Lib.hid heq
    have HBel := Lib.hid hbel
    have HX := Lib.hid hx
    clear hown heq hbel hx
    by_cases h128 : 128 ≤ x
    · obtain ⟨f', rfl⟩ : ∃ f', f = f' + 1 := by
        have hx := HX.out
        cases f with
        | zero => omega
        | succ f => exact ⟨f, rfl⟩
      have HE := Lib.hid (u8_or128 (n := x))
      have HX2 := Lib.hid (show x / 128 < 128 * 2 ^ (7 * f') by
        have h := HX.out
        rw [show 7 * (f' + 1) = 7 * f' + 7 by omega, Nat.pow_add] at h
        generalize 2 ^ (7 * f') = p at *
        omega)
      have HQ2 := Lib.hid (show (out ++ [UInt8.ofNat (x % 128 + 128)]) ++ numB f' (x / 128) = l ++ numB 5 v by
        have h := HQ.out
        rw [numB, if_pos h128] at h
        rw [List.append_assoc]
        exact h)
      go_wp2_with (at_builtin; refine wpList_append_one rfl _ _ elemB rfl w.heap.size Ao m co (out.map u8v) wr (.int .u8 (bits .or .u8 ((x : Int) % 256) 128)) rfl rfl HO.out rfl rfl ?d1 ?d2 ?d3 ?_)
      case d1 => omega
      case d2 => omega
      case d3 => exact HBel.out.size
      intro A3 c3 w3 hown3 hb3 hgr3 hat3
      have HO3 := Lib.hid (ownB_snoc (b := UInt8.ofNat (x % 128 + 128)) hown3 (by rw [HE.out, UInt8.toNat_ofNat']; omega))
      have HB3 := Lib.hid (HBel.out.trans hb3)
      clear hown3 hb3 hgr3 hat3
      go_wp2
      go_roundg f'
      case measure => omega
      case rel => exact ⟨f', x / 128, m + 1, c3, A3, out ++ [UInt8.ofNat (x % 128 + 128)], by omega, by omega, by go_num, rfl, HX2.out, by omega, HO3.out, by omega, by omega, HQ2.out, HB3.out⟩
    · have HQ2 := Lib.hid (show out ++ [UInt8.ofNat x] = l ++ numB 5 v by
        have h := HQ.out
        have : numB f x = [UInt8.ofNat x] := by
          cases f with
          | zero => rfl
          | succ f => rw [numB, if_neg h128]
        rw [this] at h
        exact h)
      go_wp2_with (at_builtin; refine wpList_append_one rfl _ _ elemB rfl w.heap.size Ao m co (out.map u8v) wr (.int .u8 (x : Int)) rfl rfl HO.out rfl rfl ?d1 ?d2 ?d3 ?_)
      case d1 => omega
      case d2 => omega
      case d3 => exact HBel.out.size
      intro A3 c3 w3 hown3 hb3 hgr3 hat3
      have HO3 := Lib.hid (ownB_snoc (b := UInt8.ofNat x) hown3 (by rw [UInt8.toNat_ofNat']; omega))
      have HB3 := Lib.hid (HBel.out.trans hb3)
      clear hown3 hb3 hgr3 hat3
      go_wp2
      go_ret2
      exact ⟨A3, m + 1, c3, rfl, by rw [← HQ2.out]; exact HO3.out, HB3.out⟩
end Go.Proofs.YtaelgbbnmjbjiaaGreat
namespace Go.Proofs.YtaelgbbnmjbjiaaGreat
open Go.RowKit
structure IsWr (w : World) (B g : Nat) (bs : List UInt8) (acc n : Nat) (A : Option Addr) (c : Nat) : Prop where
  blk : Blk w g 103 #[.slice A bs.length c, .int .u64 (acc : Int), .int .i64 (n : Int)]
  own : OwnB w B A bs.length c bs
  base : B ≤ g
  size : B ≤ w.heap.size
theorem IsWr.acc_ {w : World} {B g acc n c : Nat} {bs : List UInt8} {A : Option Addr} (h : IsWr w B g bs acc n A c) (x : Nat) : IsWr (w.setCell ⟨g, 1, none⟩ (.int .u64 (x : Int))) B g bs x n A c :=
  ⟨h.blk.set 1 _, Own.kept h.own (grown_set w ⟨g, 1, none⟩ _) (.inr (Own.ne_blk h.own h.blk (by decide))), h.base, by have := h.size; simpa [World.setCell] using this⟩
theorem IsWr.n_ {w : World} {B g acc n c : Nat} {bs : List UInt8} {A : Option Addr} (h : IsWr w B g bs acc n A c) (x : Nat) : IsWr (w.setCell ⟨g, 2, none⟩ (.int .i64 (x : Int))) B g bs acc x A c :=
  ⟨h.blk.set 2 _, Own.kept h.own (grown_set w ⟨g, 2, none⟩ _) (.inr (Own.ne_blk h.own h.blk (by decide))), h.base, by have := h.size; simpa [World.setCell] using this⟩
theorem IsWr.drew {w : World} {B g acc n c : Nat} {bs : List UInt8} {A : Option Addr} (h : IsWr w B g bs acc n A c) : IsWr w.drew B g bs acc n A c := ⟨h.blk, h.own, h.base, h.size⟩
theorem IsWr.later {w w' : World} {B g acc n c : Nat} {bs : List UInt8} {A : Option Addr} (h : IsWr w B g bs acc n A c) (hb : Below w.heap.size w w') : IsWr w' B g bs acc n A c :=
  ⟨h.blk.later hb, Own.later h.own hb, h.base, Nat.le_trans h.size hb.size⟩
theorem IsWr.app {w w' : World} {B g acc n c c' : Nat} {bs : List UInt8} {b : UInt8} {A A' : Option Addr} (h : IsWr w B g bs acc n A c) (hg : w.grownBy w' (bk A)) (ho : OwnB w' B A' (bs.length + 1) c' (bs ++ [b])) : IsWr (w'.setCell ⟨g, 0, none⟩ (.slice A' (bs.length + 1) c')) B g (bs ++ [b]) acc n A' c' := by
  have hb := h.blk.kept hg (Own.ne_blk h.own h.blk (by decide))
  have hl : (bs ++ [b]).length = bs.length + 1 := by simp
  have hs := hg.size
  have hz := h.size
  refine ⟨by rw [hl]; exact hb.set 0 _, by rw [hl]; exact Own.kept ho (grown_set w' ⟨g, 0, none⟩ _) (.inr (Own.ne_blk ho hb (by decide))), h.base, by simp [World.setCell]; omega⟩
structure Two (g : Nat) (A : Option Addr) (w w' : World) : Prop where
  os : w'.os = w.os
  tape : w'.tape = w.tape
  output : w'.output = w.output
  size : w.heap.size ≤ w'.heap.size
  block : ∀ k, k < w.heap.size → k ≠ g → bk A ≠ some k → w'.heap[k]? = w.heap[k]?
theorem Two.of_below {g : Nat} {A : Option Addr} {w w' : World} (h : Below w.heap.size w w') : Two g A w w' := ⟨h.os, h.tape, h.output, h.size, fun k hk _ _ => h.block k hk⟩
theorem Two.refl (g : Nat) (A : Option Addr) (w : World) : Two g A w w := ⟨rfl, rfl, rfl, Nat.le_refl _, fun _ _ _ _ => rfl⟩
theorem Two.trans {g : Nat} {A : Option Addr} {a b c : World} (h : Two g A a b) (k : Two g A b c) : Two g A a c :=
  ⟨k.os.trans h.os, k.tape.trans h.tape, k.output.trans h.output, Nat.le_trans h.size k.size, fun i hi h1 h2 => (k.block i (Nat.lt_of_lt_of_le hi h.size) h1 h2).trans (h.block i hi h1 h2)⟩
theorem Two.set_g {g i : Nat} {A : Option Addr} {w w' : World} (h : Two g A w w') (v : Value) : Two g A w (w'.setCell ⟨g, i, none⟩ v) :=
  ⟨h.os, h.tape, h.output, by have := h.size; simpa [World.setCell] using this, fun k hk h1 h2 => (Below.heap_setCell _ _ _ _ h1).trans (h.block k hk h1 h2)⟩
theorem Two.set_a {g i ga : Nat} {w w' : World} (h : Two g (some ⟨ga, 0, none⟩) w w') (v : Value) : Two g (some ⟨ga, 0, none⟩) w (w'.setCell ⟨ga, i, none⟩ v) :=
  ⟨h.os, h.tape, h.output, by have := h.size; simpa [World.setCell] using this, fun k hk h1 h2 => (Below.heap_setCell _ _ _ _ (fun e => h2 (by simp [bk, e]))).trans (h.block k hk h1 h2)⟩
theorem Two.drewN {g : Nat} {A : Option Addr} {w w' : World} (h : Two g A w w') (q : Nat) : Two g A w (w'.drewN q) := h.trans (.of_below (below_drewN w' q))
theorem Two.grown {g : Nat} {A : Option Addr} {w w1 w2 : World} {row : Option Nat} (h : Two g A w w1) (hg : w1.grownBy w2 row) (hr : ∀ k, row = some k → k < w.heap.size → k = g ∨ bk A = some k) : Two g A w w2 := by
  refine ⟨hg.os.trans h.os, hg.tape.trans h.tape, hg.output.trans h.output, Nat.le_trans h.size hg.size, fun k hk h1 h2 => ?_⟩
  rw [← h.block k hk h1 h2]
  refine hg.block k (Nat.lt_of_lt_of_le hk h.size) (fun e => ?_)
  rcases hr k e.symm hk with h3 | h3
  · exact h1 h3
  · exact h2 h3
def NewTo (w : World) (A A' : Option Addr) : Prop := bk A' = bk A ∨ ∃ k, bk A' = some k ∧ w.heap.size ≤ k
theorem NewTo.row {w : World} {A A' : Option Addr} (h : NewTo w A A') {g k : Nat} (hk : bk A' = some k) (hlt : k < w.heap.size) : k = g ∨ bk A = some k := by
  rcases h with h | ⟨k', h1, h2⟩
  · exact .inr (by rw [← h, hk])
  · rw [hk] at h1; injection h1 with h1; omega
theorem NewTo.app {w w1 : World} {A A' A6 : Option Addr} (h : NewTo w A A') (hs : w.heap.size ≤ w1.heap.size) (h6 : bk A6 = bk A' ∨ bk A6 = some w1.heap.size) : NewTo w A A6 := by
  rcases h6 with h6 | h6
  · rcases h with h | ⟨k', h1, h2⟩
    · exact .inl (h6.trans h)
    · exact .inr ⟨k', h6.trans h1, h2⟩
  · exact .inr ⟨_, h6, hs⟩
def flushW : Nat → List UInt8 → Nat → Nat → List UInt8 × Nat × Nat
  | 0, bs, acc, n => (bs, acc, n)
  | f + 1, bs, acc, n => if 8 ≤ n then flushW f (bs ++ [UInt8.ofNat acc]) (acc / 256) (n - 8) else (bs, acc, n)
theorem u64_or_nat (a b : Nat) (ha : a < 18446744073709551616) (hb : b < 18446744073709551616) : bits .or .u64 (a : Int) (b : Int) = ((a ||| b : Nat) : Int) := by
  unfold bits
  show IntKind.u64.wrap ((BitVec.ofInt 64 (a : Int) ||| BitVec.ofInt 64 (b : Int)).toNat : Int) = _
  rw [BitVec.toNat_or, ofInt64 (by omega), ofInt64 (by omega)]
  have : a ||| b < 18446744073709551616 := Nat.or_lt_two_pow (n := 64) ha hb
  rw [IntKind.wrap_u64]
  omega
theorem put_test {k v : Nat} (hk : k ≤ 32) (hv : v < 2 ^ k) : decide (IntKind.u64.wrap ((2 : Int) ^ k) ≤ IntKind.u64.wrap (v : Int)) = false ∧ IntKind.u64.wrap (v : Int) < IntKind.u64.wrap ((2 : Int) ^ k) ∧ IntKind.u64.wrap (v : Int) = (v : Int) ∧ v < 4294967296 := by
  have hp : 2 ^ k ≤ 2 ^ 32 := Nat.pow_le_pow_right (by omega) hk
  have e : (2 : Int) ^ k = ((2 ^ k : Nat) : Int) := by simp
  rw [e]
  generalize 2 ^ k = p at *
  rw [IntKind.wrap_u64, IntKind.wrap_u64]
  refine ⟨decide_eq_false (by omega), by omega, by omega, by omega⟩
theorem put_acc {acc n v : Nat} (hn : n < 8) (hacc : acc < 2 ^ n) (hv : v < 4294967296) : bits .or .u64 (acc : Int) (IntKind.u64.wrap ((v : Int) * 2 ^ n)) = ((acc + v * 2 ^ n : Nat) : Int) ∧ acc + v * 2 ^ n < 1099511627776 := by
  have hp : 2 ^ n ≤ 128 := (Nat.pow_le_pow_right (by omega) (by omega) : 2 ^ n ≤ 2 ^ 7)
  have h1 : v * 2 ^ n ≤ v * 128 := Nat.mul_le_mul_left _ hp
  have e : ((v : Int) * 2 ^ n) = ((v * 2 ^ n : Nat) : Int) := by simp
  have e2 : IntKind.u64.wrap ((v * 2 ^ n : Nat) : Int) = ((v * 2 ^ n : Nat) : Int) := by rw [IntKind.wrap_u64]; omega
  rw [e, e2, u64_or_nat _ _ (by omega) (by omega), or_add hacc]
  exact ⟨rfl, by omega⟩
set_option maxHeartbeats 2000000 in
set_option maxRecDepth 10000 in
theorem wrPut (B g : Nat) (bs : List UInt8) (acc n : Nat) (A : Option Addr) (c k v : Nat) (w : World) (h : IsWr w B g bs acc n A c) (hn : n < 8) (hacc : acc < 2 ^ n) (hk : k ≤ 32) (hv : v < 2 ^ k) (hlen : bs.length ≤ 1000000000000) :
    Calls Tryz.prog 32 #[.pointer (some ⟨g, 0, none⟩), .int .i64 (k : Int), .int .i64 (v : Int)] w fun e w' => e = .returned (.int .i64 0) ∧ Below B w w' ∧ Two g A w w' ∧
      ∃ A' c', IsWr w' B g (flushW 5 bs (acc + v * 2 ^ n) (n + k)).1 (flushW 5 bs (acc + v * 2 ^ n) (n + k)).2.1 (flushW 5 bs (acc + v * 2 ^ n) (n + k)).2.2 A' c' ∧ NewTo w A A' := by
  obtain ⟨ht1, ht2, ht3, hv32⟩ := put_test hk hv
  obtain ⟨ha1, ha2⟩ := put_acc hn hacc hv32
  have HA1 := Lib.hid ha1
  obtain ⟨T, hT⟩ : ∃ T, acc + v * 2 ^ n = T := ⟨_, rfl⟩
  rw [hT] at HA1 ha2 ⊢
  obtain ⟨R, hR⟩ : ∃ R, flushW 5 bs T (n + k) = R := ⟨_, rfl⟩
  rw [hR]
  have HR := Lib.hid hR
  have c0 := h.blk.cell 0
  have c1 := h.blk.cell 1
  have c2 := h.blk.cell 2
  simp only [List.getElem?_toArray, List.getElem?_cons_zero, List.getElem?_cons_succ] at c0 c1 c2
  have f1 := h.blk.frozen 1
  have HH := Lib.hid h
  clear h hv hacc ha1 hT hR
  go_enter Tryz.func32, Tryz.ntmps32
  go_wp2
  clear ht1 ht2
  go_region
  rw [HA1.out]
  have HW2 := Lib.hid (HH.out.acc_ T).drew
  have HB2 := Lib.hid (show Below B w (w.setCell ⟨g, 1, none⟩ (.int .u64 (T : Int))).drew from ((Below.refl B w).setCell HH.out.base _).drew)
  have HT2 := Lib.hid (show Two g A w (w.setCell ⟨g, 1, none⟩ (.int .u64 (T : Int))).drew from ((Two.refl g A w).set_g _).trans (.of_below (Below.refl _ _).drew))
  clear c0 c1 c2 f1 ht3
  generalize (w.setCell ⟨g, 1, none⟩ (.int .u64 (T : Int))).drew = w2 at *
  have c2 := HW2.out.blk.cell 2
  simp only [List.getElem?_toArray, List.getElem?_cons_zero, List.getElem?_cons_succ] at c2
  have f2 := HW2.out.blk.frozen 2
  have HW3 := Lib.hid (HW2.out.n_ (n + k))
  have HB3 := Lib.hid (show Below B w (w2.setCell ⟨g, 2, none⟩ (.int .i64 ((n + k : Nat) : Int))) from HB2.out.setCell HW2.out.base _)
  have HT3 := Lib.hid (show Two g A w (w2.setCell ⟨g, 2, none⟩ (.int .i64 ((n + k : Nat) : Int))) from HT2.out.set_g _)
  go_wp2
  clear c2 f2
  go_loopg [] 5 (fun gg wr => ∃ (f acc' n' c' : Nat) (bs' : List UInt8) (A' : Option Addr), f ≤ 5 ∧ f ≤ gg ∧ IsWr wr B g bs' acc' n' A' c' ∧ n' < 8 * (f + 1) ∧ acc' < 1099511627776 ∧ bs'.length + f ≤ bs.length + 5 ∧ flushW f bs' acc' n' = R ∧ Below B w wr ∧ Two g A w wr ∧ NewTo w A A')
  case atStart => exact ⟨5, T, n + k, c, bs, A, by omega, by omega, HW3.out, by omega, ha2, by omega, HR.out, HB3.out, HT3.out, .inl rfl⟩
  case round =>
    obtain ⟨f, acc', n', c', bs', A', hf, hgg, hwr, hn', hacc', hbl, hfl, hbel, htw, hnt⟩ := hrel
    have HTw := Lib.hid htw
    have HNt := Lib.hid hnt
    clear htw hnt
    have HW := Lib.hid hwr
    have HF := Lib.hid hfl
    have HB := Lib.hid hbel
    have hsz := hwr.size
    have c0 := hwr.blk.cell 0
    have c1 := hwr.blk.cell 1
    have c2 := hwr.blk.cell 2
    simp only [List.getElem?_toArray, List.getElem?_cons_zero, List.getElem?_cons_succ] at c0 c1 c2
    clear hwr hfl hbel
    by_cases h8 : 8 ≤ n'
    · obtain ⟨f', rfl⟩ : ∃ f', f = f' + 1 := ⟨f - 1, by omega⟩
      have HF2 := Lib.hid (by have h := HF.out; rw [flushW, if_pos h8] at h; exact h : flushW f' (bs' ++ [UInt8.ofNat acc']) (acc' / 256) (n' - 8) = R)
      have f0 := HW.out.blk.frozen 0
      have HLB := Lib.hid (rfl : bs'.length = bs'.length)
      obtain ⟨lb, hlb⟩ : ∃ lb, bs'.length = lb := ⟨_, rfl⟩
      rw [hlb] at c0 hbl
      have HOw := Lib.hid (show Own (wr.drew.alloc (.cells #[.int .u8 ((acc' : Int) % 256)] 5)) B 5 A' lb c' (bs'.map u8v) from by rw [← hlb]; exact Own.alloc (Own.drew HW.out.own) _)
      have hBk := HW.out.blk.later ((Below.refl wr.heap.size wr).drew.alloc (Nat.le_refl _) (.cells #[.int .u8 ((acc' : Int) % 256)] 5))
      have hne := Own.ne_blk HW.out.own HW.out.blk (by decide)
      have KC := Lib.hid (fun w' (hg : (wr.drew.alloc (.cells #[.int .u8 ((acc' : Int) % 256)] 5)).grownBy w' (bk A')) => (show w'.cell? ⟨g, 0, none⟩ = some (.slice A' lb c') ∧ w'.frozen? ⟨g, 0, none⟩ = false from
        ⟨by rw [(hBk.kept hg hne).cell 0, ← hlb]; rfl, (hBk.kept hg hne).frozen 0⟩))
      have HLbl := Lib.hid hlb
      have n0 := World.new_ne wr _ c0
      have n1 := World.new_ne wr _ c1
      have hglt := HW.out.blk.lt
      have a0 : (wr.alloc (.cells #[.int .u8 ((acc' : Int) % 256)] 5)).cell? ⟨g, 0, none⟩ = some (.slice A' lb c') := (((Below.refl wr.heap.size wr).alloc (Nat.le_refl _) _).cell hglt).trans c0
      have Hrd := Lib.hid (Rd.one wr.drew (.int .u8 ((acc' : Int) % 256)) 5)
      clear hlb HLB hBk hne
      go_wp2
      go_region_law (first | (refine step_append_rd rfl _ _ elemB rfl B A' lb c' (bs'.map u8v) rfl HOw.out (some ⟨wr.heap.size, 0, none⟩) 1 1 [.int .u8 ((acc' : Int) % 256)] rfl Hrd.out rfl (fun v hv => by simp at hv; subst hv; rfl) (by omega) (by omega) (by simp; omega) ?_; intro A6 c6 w6 hown6 hb6 hgr6 hat6; have c7 := (KC.out _ hgr6).1; have f7 := (KC.out _ hgr6).2))
      all_goals clear c7 f7 c0 c1 c2 f0 a0 n0 n1
      all_goals
        have HWa := Lib.hid (HW.out.later ((Below.refl wr.heap.size wr).drew.alloc (Nat.le_refl _) (.cells #[.int .u8 ((acc' : Int) % 256)] 5)))
        have HW6 := Lib.hid (show IsWr (w6.setCell ⟨g, 0, none⟩ (.slice A6 (lb + 1) c6)) B g (bs' ++ [UInt8.ofNat acc']) acc' n' A6 c6 from by
          have := HWa.out.app (c' := c6) (A' := A6) (b := UInt8.ofNat acc') ⟨hgr6.os, hgr6.tape, hgr6.output, hgr6.size, hgr6.block⟩ (by rw [HLbl.out]; exact ownB_snoc hown6 (by rw [UInt8.toNat_ofNat']; omega))
          rw [HLbl.out] at this
          exact this)
        have HB6 := Lib.hid (show Below B w (w6.setCell ⟨g, 0, none⟩ (.slice A6 (lb + 1) c6)) from (HB.out.trans (((Below.refl B wr).drew.alloc hsz (.cells #[.int .u8 ((acc' : Int) % 256)] 5)).trans ⟨hb6.os, hb6.tape, hb6.output, hb6.size, hb6.block⟩)).setCell HW.out.base _)
        have HT6 := Lib.hid (show Two g A w (w6.setCell ⟨g, 0, none⟩ (.slice A6 (lb + 1) c6)) from (((HTw.out.trans (.of_below ((Below.refl wr.heap.size wr).drew.alloc (Nat.le_refl _) (.cells #[.int .u8 ((acc' : Int) % 256)] 5)))).grown (w2 := w6) (row := bk A') ⟨hgr6.os, hgr6.tape, hgr6.output, hgr6.size, hgr6.block⟩ (fun k hk hlt => HNt.out.row hk hlt)).set_g _))
        have HN6 := Lib.hid (show NewTo w A A6 from HNt.out.app (w1 := wr.drew.alloc (.cells #[.int .u8 ((acc' : Int) % 256)] 5)) (Nat.le_trans HB.out.size ((Below.refl wr.heap.size wr).drew.alloc (Nat.le_refl _) (.cells #[.int .u8 ((acc' : Int) % 256)] 5)).size) hat6)
        clear hown6 hb6 hgr6 hat6
        generalize (w6.setCell ⟨g, 0, none⟩ (.slice A6 (lb + 1) c6)) = w7 at *
        have d1 := HW6.out.blk.cell 1
        have e1 := HW6.out.blk.frozen 1
        simp only [List.getElem?_toArray, List.getElem?_cons_zero, List.getElem?_cons_succ] at d1
        have HW7 := Lib.hid (HW6.out.acc_ (acc' / 256))
        have HB7 := Lib.hid (show Below B w (w7.setCell ⟨g, 1, none⟩ (.int .u64 ((acc' / 256 : Nat) : Int))) from HB6.out.setCell HW6.out.base _)
        have d2 := HW7.out.blk.cell 2
        have e2 := HW7.out.blk.frozen 2
        simp only [List.getElem?_toArray, List.getElem?_cons_zero, List.getElem?_cons_succ] at d2
        have HW8 := Lib.hid (HW7.out.n_ (n' - 8))
        have HB8 := Lib.hid (show Below B w ((w7.setCell ⟨g, 1, none⟩ (.int .u64 ((acc' / 256 : Nat) : Int))).setCell ⟨g, 2, none⟩ (.int .i64 ((n' - 8 : Nat) : Int))) from HB7.out.setCell HW7.out.base _)
        have HT8 := Lib.hid (show Two g A w ((w7.setCell ⟨g, 1, none⟩ (.int .u64 ((acc' / 256 : Nat) : Int))).setCell ⟨g, 2, none⟩ (.int .i64 ((n' - 8 : Nat) : Int))) from (HT6.out.set_g _).set_g _)
        have e256 : ((acc' / 256 : Nat) : Int) = (acc' : Int) / 256 := by omega
        have e8 : ((n' - 8 : Nat) : Int) = (n' : Int) - 8 := by omega
        rw [e256] at d2 e2
        rw [e256, e8] at HW8 HB8 HT8
        clear e256 e8 HW7 HB7
        go_wp2
        go_roundg f'
      all_goals first
        | omega
        | exact ⟨f', acc' / 256, n' - 8, c6, bs' ++ [UInt8.ofNat acc'], A6, by omega, by omega, HW8.out, by omega, by omega, by simp only [List.length_append, List.length_singleton]; rw [HLbl.out]; omega, HF2.out, HB8.out, HT8.out, HN6.out⟩
    · have HF2 := Lib.hid (show R = (bs', acc', n') by
        have h := HF.out
        cases f with
        | zero => exact h.symm
        | succ f => rw [flushW, if_neg h8] at h; exact h.symm)
      go_wp2
      go_ret
      refine ⟨rfl, HB.out, HTw.out, A', c', ?_, HNt.out⟩
      rw [HF2.out]
      exact HW.out
end Go.Proofs.YtaelgbbnmjbjiaaGreat
namespace Go.Proofs.YtaelgbbnmjbjiaaGreat
open Go.RowKit
theorem wpList_slice_hi {P : Program} {w : World} {ops : Array Oper} {rest : List Oper} {o : Oper} {a : Act} {Q : Exit → Act → World → Prop} (hgd : o.guard = none) (s hi : Operand) {t e : TypeId} {z : Value} {bytes : Nat} (E : Elem P t e z bytes)
    (ho : o.op = .slice t s none (some hi) none) (A : Option Addr) (n c k : Nat) (hs : a.eval s = .slice A n c) (hhi : a.eval hi = .int .i64 (k : Int)) (hk : k ≤ c)
    (h : wpList P ops Q rest (a.put o.dst (.slice A k c)) w) : wpList P ops Q (o :: rest) a w := by
  refine wpList_plain hgd fun K hK => ?_
  obtain ⟨i, hi', -, h1, -⟩ := info_parts E.hi
  have he : P.elem t = e := by simp [Program.elem, E.ht]
  have hrun : (Instr.sliceAt t (.slice A n c) none (some (.int .i64 (k : Int))) none).run P w = .ok (.slice A k c) w := by
    have ht' : P.underlying t = some (.slice (P.elem t)) := by rw [he]; exact E.ht
    rw [run_sliceAt_slice w t _ _ _ _ ht', run_slice_h w t A n c ht' .i64 (k : Int) (by omega) (by omega), he]
    simp [sizeOf, typeInfo, hi', h1, sliced, Result.andThen]
    cases A <;> simp [Addr.add]
  unfold Oper.wp execOp
  simp only [ho, hs, hhi, hrun, Option.map_some, Option.map_none, Sem.run_bind, Sem.run_pure, Result.andThen_ok]
  exact hK _ _ h
structure Sq where
  lits : Nat
  len : Nat
  dist : Nat
def sqC (x : Sq) : List Value := [natv x.lits, natv x.len, natv x.dist]
def flatS (l : List Sq) : List Value := l.flatMap sqC
theorem flatS_len : ∀ l : List Sq, (flatS l).length = 3 * l.length
  | [] => rfl
  | x :: r => by
    have := flatS_len r
    show (sqC x ++ flatS r).length = _
    rw [List.length_append, this, List.length_cons]; simp [sqC]; omega
theorem flatS_at : ∀ (l : List Sq) (k : Nat) (x : Sq), l[k]? = some x → (flatS l)[3 * k]? = some (natv x.lits) ∧ (flatS l)[3 * k + 1]? = some (natv x.len) ∧ (flatS l)[3 * k + 2]? = some (natv x.dist)
  | [], _, _, h => by simp at h
  | y :: r, 0, x, h => by
    obtain rfl : y = x := by simpa using h
    exact ⟨rfl, rfl, rfl⟩
  | y :: r, k + 1, x, h => by
    have := flatS_at r k x (by simpa using h)
    have e : ∀ j, (flatS (y :: r))[j + 3]? = (flatS r)[j]? := fun j => rfl
    rw [show 3 * (k + 1) = 3 * k + 3 by omega, show 3 * k + 3 + 1 = 3 * k + 1 + 3 by omega, show 3 * k + 3 + 2 = 3 * k + 2 + 3 by omega, e, e, e]
    exact this
def Ss (w : World) (A : Option Addr) (l : List Sq) : Prop := Rd w A (flatS l)
theorem Ss.later {w w' : World} {A : Option Addr} {l : List Sq} (h : Ss w A l) (hb : Below w.heap.size w w') : Ss w' A l := Rd.later h hb
theorem Ss.at_ {w : World} {A : Option Addr} {l : List Sq} (h : Ss w A l) {k : Nat} (hk : k < l.length) :
    ∃ b o x, A = some ⟨b, o, none⟩ ∧ l[k]? = some x ∧ w.cell? ⟨b, o + k * 3, none⟩ = some (.int .i64 (x.lits : Int)) ∧ w.cell? ⟨b, o + k * 3 + 1, none⟩ = some (.int .i64 (x.len : Int)) ∧ w.cell? ⟨b, o + k * 3 + 2, none⟩ = some (.int .i64 (x.dist : Int)) := by
  have hfl := flatS_len l
  obtain ⟨b, o, e, hc⟩ := h (by omega)
  obtain ⟨h1, h2, h3⟩ := flatS_at l k l[k] (List.getElem?_eq_getElem hk)
  refine ⟨b, o, l[k], e, List.getElem?_eq_getElem hk, ?_, ?_, ?_⟩
  · rw [show o + k * 3 = o + 3 * k by omega, hc _ (by omega), h1]; rfl
  · rw [show o + k * 3 + 1 = o + (3 * k + 1) by omega, hc _ (by omega), h2]; rfl
  · rw [show o + k * 3 + 2 = o + (3 * k + 2) by omega, hc _ (by omega), h3]; rfl
def OwnS (w : World) (base : Nat) (A : Option Addr) (n c : Nat) (l : List Sq) : Prop := w.ownsRow base 52 3 (.slice A n c) n (flatS l)
theorem OwnS.nil (w : World) (base : Nat) : OwnS w base none 0 0 [] := World.ownsRow_nil w base _ 3
theorem OwnS.length {w : World} {base n c : Nat} {A : Option Addr} {l : List Sq} (h : OwnS w base A n c l) : l.length = n := by
  have h1 := h.1
  rw [flatS_len] at h1
  omega
theorem OwnS.lt {w : World} {base n c : Nat} {A : Option Addr} {l : List Sq} (h : OwnS w base A n c l) {k : Nat} (hk : bk A = some k) : base ≤ k ∧ k < w.heap.size := by
  rcases h.2 with ⟨hv, -⟩ | ⟨g, cap, cur, hv, h1, h2, -⟩
  · simp only [Value.slice.injEq] at hv
    rw [hv.1] at hk; cases hk
  · simp only [Value.slice.injEq] at hv
    rw [hv.1] at hk
    cases hk
    exact ⟨h1, (Array.getElem?_eq_some_iff.1 h2).1⟩
theorem OwnS.kept {w w' : World} {row : Option Nat} {base n c : Nat} {A : Option Addr} {l : List Sq} (h : OwnS w base A n c l) (hg : w.grownBy w' row) (hne : bk A = none ∨ bk A ≠ row) : OwnS w' base A n c l :=
  World.ownsRow.kept h hg (by rw [ownBlock_eq]; exact hne)
theorem OwnS.later {w w' : World} {base n c : Nat} {A : Option Addr} {l : List Sq} (h : OwnS w base A n c l) (hb : Below w.heap.size w w') : OwnS w' base A n c l := by
  refine h.kept (grown_of_below hb) ?_
  cases A <;> simp [bk]
theorem OwnS.ss {w : World} {base n c : Nat} {A : Option Addr} {l : List Sq} (h : OwnS w base A n c l) : Ss w A l := fun h0 => by
  have hl := h.length
  have hfl := flatS_len l
  rcases h.2 with ⟨hv, h2⟩ | ⟨g, cap, cur, hv, -⟩
  · omega
  · simp only [Value.slice.injEq] at hv
    obtain ⟨rfl, -, rfl⟩ := hv
    refine ⟨g, 0, rfl, fun j hj => ?_⟩
    rw [Nat.zero_add]
    exact World.ownsRow.cellAt h j (by omega)
theorem OwnS.ne_blk {w : World} {base n c g : Nat} {t : TypeId} {A : Option Addr} {l : List Sq} {cs : Array Value} (h : OwnS w base A n c l) (hg : Blk w g t cs) (hne : 52 ≠ t) : bk A ≠ some g := by
  rcases h.2 with ⟨hv, _⟩ | ⟨g', cap, cur, hv, _, hh, _⟩
  · simp only [Value.slice.injEq] at hv
    rw [hv.1]; simp [bk]
  · simp only [Value.slice.injEq] at hv
    rw [hv.1]
    intro he
    have : g' = g := by simpa [bk] using he
    subst this
    unfold Blk at hg
    rw [hh] at hg
    injection hg with hg
    injection hg with _ ht
    exact hne ht
theorem OwnS.ne_own {w : World} {base n c base' n' c' : Nat} {e' : TypeId} {A A' : Option Addr} {l : List Sq} {xs' : List Value} (h : OwnS w base A n c l) (h' : Own w base' e' A' n' c' xs') (hne : 52 ≠ e') : bk A = none ∨ bk A ≠ bk A' := by
  rcases h'.2 with ⟨hv, _⟩ | ⟨g', cap, cur, hv, _, hh, _⟩
  · simp only [Value.slice.injEq] at hv
    rw [hv.1]
    cases A
    · exact .inl rfl
    · exact .inr (by simp [bk])
  · simp only [Value.slice.injEq] at hv
    rw [hv.1]
    exact .inr (h.ne_blk (g := g') (t := e') (cs := cur) hh hne)
end Go.Proofs.YtaelgbbnmjbjiaaGreat
namespace Go.Proofs.YtaelgbbnmjbjiaaGreat
open Go.RowKit
theorem m_gen (P : Program) (name : String) (f : FuncId) (fuel : Nat) (t e : TypeId) (a : Addr) (w : World)
    (hf : ((P.info? t).bind (fun i => i.methods.find? (·.name == name))).map (fun m => (m.path, m.func)) = some (#[], some (f, false))) (hu : P.underlying t = some (.pointer e)) :
    (method (fuel + 1) t (.pointer (some a)) name).run P w = ((loadVar e a).run P w).andThen (fun v w' => .ok (f, v) w') := by
  obtain ⟨m, hm, hmm⟩ := Option.map_eq_some_iff.1 hf
  obtain ⟨i, hi, hm2⟩ := Option.bind_eq_some_iff.1 hm
  simp only [Prod.mk.injEq] at hmm
  have hwn : ∀ s1 s2 : String, Builtin.ssaWrapNilChk_ #[t] t #[.pointer (some a), strVal s1, strVal s2] = pure (.pointer (some a)) := fun _ _ => rfl
  unfold method
  simp [typeInfo, hi, hm2, hmm.1, hmm.2, follow, receiverAt, run_underlying hu, Place.get, hwn, asAddr]
theorem load_things {hb n c : Nat} {A : Option Addr} {w : World} (h : w.cell? ⟨hb, 0, none⟩ = some (.slice A n c)) : (loadVar 159 ⟨hb, 0, none⟩).run Tryz.prog w = .ok (.slice A n c) w := by
  simp [loadVar, h, go_sem]
theorem m_Len {hb n c : Nat} {A : Option Addr} {w : World} (h : w.cell? ⟨hb, 0, none⟩ = some (.slice A n c)) : (method 297 163 (.pointer (some ⟨hb, 0, none⟩)) "Len").run Tryz.prog w = .ok (146, .slice A n c) w := by
  rw [m_gen _ _ 146 _ _ 159 _ _ (by kernel_rfl) (by kernel_rfl), load_things h]; rfl
theorem m_Less {hb n c : Nat} {A : Option Addr} {w : World} (h : w.cell? ⟨hb, 0, none⟩ = some (.slice A n c)) : (method 297 163 (.pointer (some ⟨hb, 0, none⟩)) "Less").run Tryz.prog w = .ok (147, .slice A n c) w := by
  rw [m_gen _ _ 147 _ _ 159 _ _ (by kernel_rfl) (by kernel_rfl), load_things h]; rfl
theorem m_Swap {hb n c : Nat} {A : Option Addr} {w : World} (h : w.cell? ⟨hb, 0, none⟩ = some (.slice A n c)) : (method 297 163 (.pointer (some ⟨hb, 0, none⟩)) "Swap").run Tryz.prog w = .ok (148, .slice A n c) w := by
  rw [m_gen _ _ 148 _ _ 159 _ _ (by kernel_rfl) (by kernel_rfl), load_things h]; rfl
theorem m_Pop (a : Addr) (w : World) : (method 297 163 (.pointer (some a)) "Pop").run Tryz.prog w = .ok (149, .pointer (some a)) w := by kernel_rfl
theorem m_Push (a : Addr) (w : World) : (method 297 163 (.pointer (some a)) "Push").run Tryz.prog w = .ok (150, .pointer (some a)) w := by kernel_rfl
structure Th where
  wt : Nat
  num : Nat
  pa : Option Addr
  pn : Nat
  pc : Nat
  ps : List Nat
  ht : Nat
def thC (x : Th) : List Value := [natv x.wt, natv x.num, .slice x.pa x.pn x.pc]
def flatT (l : List Th) : List Value := l.flatMap thC
theorem flatT_len : ∀ l : List Th, (flatT l).length = 3 * l.length
  | [] => rfl
  | x :: r => by
    have := flatT_len r
    show (thC x ++ flatT r).length = _
    rw [List.length_append, this, List.length_cons]; simp [thC]; omega
theorem flatT_at : ∀ (l : List Th) (k : Nat) (x : Th), l[k]? = some x → (flatT l)[3 * k]? = some (natv x.wt) ∧ (flatT l)[3 * k + 1]? = some (natv x.num) ∧ (flatT l)[3 * k + 2]? = some (.slice x.pa x.pn x.pc)
  | [], _, _, h => by simp at h
  | y :: r, 0, x, h => by
    obtain rfl : y = x := by simpa using h
    exact ⟨rfl, rfl, rfl⟩
  | y :: r, k + 1, x, h => by
    have := flatT_at r k x (by simpa using h)
    have e : ∀ j, (flatT (y :: r))[j + 3]? = (flatT r)[j]? := fun j => rfl
    rw [show 3 * (k + 1) = 3 * k + 3 by omega, show 3 * k + 3 + 1 = 3 * k + 1 + 3 by omega, show 3 * k + 3 + 2 = 3 * k + 2 + 3 by omega, e, e, e]
    exact this
theorem flatT_set : ∀ (l : List Th) (k : Nat) (x : Th), k < l.length → (((flatT l).set (3 * k) (natv x.wt)).set (3 * k + 1) (natv x.num)).set (3 * k + 2) (.slice x.pa x.pn x.pc) = flatT (l.set k x)
  | [], _, _, h => by simp at h
  | y :: r, 0, x, _ => rfl
  | y :: r, k + 1, x, h => by
    have := flatT_set r k x (by simpa using h)
    show (((flatT (y :: r)).set (3 * k + 1 + 1 + 1) _).set (3 * k + 1 + 1 + 1 + 1) _).set (3 * k + 1 + 1 + 1 + 1 + 1) _ = flatT (y :: r.set k x)
    show natv y.wt :: natv y.num :: .slice y.pa y.pn y.pc :: (((flatT r).set (3 * k) _).set (3 * k + 1) _).set (3 * k + 2) _ = natv y.wt :: natv y.num :: .slice y.pa y.pn y.pc :: flatT (r.set k x)
    rw [this]
def OwnT (w : World) (base : Nat) (A : Option Addr) (n c : Nat) (l : List Th) : Prop := w.ownsRow base 161 3 (.slice A n c) n (flatT l)
theorem OwnT.nil (w : World) (base : Nat) : OwnT w base none 0 0 [] := World.ownsRow_nil w base _ 3
theorem OwnT.length {w : World} {base n c : Nat} {A : Option Addr} {l : List Th} (h : OwnT w base A n c l) : l.length = n := by
  have h1 := h.1
  rw [flatT_len] at h1
  omega
theorem OwnT.lt {w : World} {base n c : Nat} {A : Option Addr} {l : List Th} (h : OwnT w base A n c l) {k : Nat} (hk : bk A = some k) : base ≤ k ∧ k < w.heap.size := by
  rcases h.2 with ⟨hv, -⟩ | ⟨g, cap, cur, hv, h1, h2, -⟩
  · simp only [Value.slice.injEq] at hv
    rw [hv.1] at hk; cases hk
  · simp only [Value.slice.injEq] at hv
    rw [hv.1] at hk
    cases hk
    exact ⟨h1, (Array.getElem?_eq_some_iff.1 h2).1⟩
theorem OwnT.kept {w w' : World} {row : Option Nat} {base n c : Nat} {A : Option Addr} {l : List Th} (h : OwnT w base A n c l) (hg : w.grownBy w' row) (hne : bk A = none ∨ bk A ≠ row) : OwnT w' base A n c l :=
  World.ownsRow.kept h hg (by rw [ownBlock_eq]; exact hne)
theorem OwnT.later {w w' : World} {base n c : Nat} {A : Option Addr} {l : List Th} (h : OwnT w base A n c l) (hb : Below w.heap.size w w') : OwnT w' base A n c l := by
  refine h.kept (grown_of_below hb) ?_
  cases A <;> simp [bk]
theorem OwnT.ne_blk {w : World} {base n c g : Nat} {t : TypeId} {A : Option Addr} {l : List Th} {cs : Array Value} (h : OwnT w base A n c l) (hg : Blk w g t cs) (hne : 161 ≠ t) : bk A ≠ some g := by
  rcases h.2 with ⟨hv, _⟩ | ⟨g', cap, cur, hv, _, hh, _⟩
  · simp only [Value.slice.injEq] at hv
    rw [hv.1]; simp [bk]
  · simp only [Value.slice.injEq] at hv
    rw [hv.1]
    intro he
    have : g' = g := by simpa [bk] using he
    subst this
    unfold Blk at hg
    rw [hh] at hg
    injection hg with hg
    injection hg with _ ht
    exact hne ht
theorem OwnT.ne_own {w : World} {base n c base' n' c' : Nat} {e' : TypeId} {A A' : Option Addr} {l : List Th} {xs' : List Value} (h : OwnT w base A n c l) (h' : Own w base' e' A' n' c' xs') (hne : 161 ≠ e') : bk A = none ∨ bk A ≠ bk A' := by
  rcases h'.2 with ⟨hv, _⟩ | ⟨g', cap, cur, hv, _, hh, _⟩
  · simp only [Value.slice.injEq] at hv
    rw [hv.1]
    cases A
    · exact .inl rfl
    · exact .inr (by simp [bk])
  · simp only [Value.slice.injEq] at hv
    rw [hv.1]
    exact .inr (h.ne_blk (g := g') (t := e') (cs := cur) hh hne)
theorem OwnT.at_ {w : World} {base n c : Nat} {A : Option Addr} {l : List Th} (h : OwnT w base A n c l) {k : Nat} (hk : k < n) :
    ∃ g x, A = some ⟨g, 0, none⟩ ∧ base ≤ g ∧ g < w.heap.size ∧ l[k]? = some x ∧ w.cell? ⟨g, k * 3, none⟩ = some (.int .i64 (x.wt : Int)) ∧ w.cell? ⟨g, k * 3 + 1, none⟩ = some (.int .i64 (x.num : Int)) ∧ w.cell? ⟨g, k * 3 + 2, none⟩ = some (.slice x.pa x.pn x.pc) ∧ ∀ j, w.frozen? ⟨g, j, none⟩ = false := by
  have hl := h.length
  have hfl := flatT_len l
  obtain ⟨h1, h2, h3⟩ := flatT_at l k l[k] (List.getElem?_eq_getElem (by omega))
  rcases h.2 with ⟨hv, h0⟩ | ⟨g, cap, cur, hv, hb, hh, hr⟩
  · omega
  · have hv' := hv
    simp only [Value.slice.injEq] at hv
    obtain ⟨rfl, -, rfl⟩ := hv
    have hcell : ∀ j, j < 3 * l.length → w.cell? ⟨g, j, none⟩ = (flatT l)[j]? := fun j hj => World.ownsRow.cellAt h j (by omega)
    refine ⟨g, l[k], rfl, hb, (Array.getElem?_eq_some_iff.1 hh).1, List.getElem?_eq_getElem (by omega), ?_, ?_, ?_, fun j => ?_⟩
    · rw [show k * 3 = 3 * k by omega, hcell _ (by omega), h1]; rfl
    · rw [show k * 3 + 1 = 3 * k + 1 by omega, hcell _ (by omega), h2]; rfl
    · rw [show k * 3 + 2 = 3 * k + 2 by omega, hcell _ (by omega), h3]
    · exact World.ownsRow.frozenAt h j
theorem OwnT.set {w : World} {base n c g : Nat} {l : List Th} (h : OwnT w base (some ⟨g, 0, none⟩) n c l) {k : Nat} (hk : k < n) (x : Th) :
    OwnT (((w.setCell ⟨g, k * 3, none⟩ (.int .i64 (x.wt : Int))).setCell ⟨g, k * 3 + 1, none⟩ (.int .i64 (x.num : Int))).setCell ⟨g, k * 3 + 2, none⟩ (.slice x.pa x.pn x.pc)) base (some ⟨g, 0, none⟩) n c (l.set k x) := by
  have h1 := (World.ownsRow.stored h (k * 3) (natv x.wt)).1
  have h2 := (World.ownsRow.stored h1 (k * 3 + 1) (natv x.num)).1
  have h3 := (World.ownsRow.stored h2 (k * 3 + 2) (.slice x.pa x.pn x.pc)).1
  unfold OwnT
  rw [← flatT_set l k x (by rw [h.length]; exact hk), show 3 * k = k * 3 by omega]
  exact h3
end Go.Proofs.YtaelgbbnmjbjiaaGreat
namespace Go.Proofs.YtaelgbbnmjbjiaaGreat
open Go.RowKit
set_option maxHeartbeats 400000 in
theorem thLen (A : Option Addr) (n c : Nat) (w : World) : Calls Tryz.prog 146 #[.slice A n c] w fun e w' => e = .returned (.int .i64 (n : Int)) ∧ w' = w := by
  go_enter Tryz.func146, Tryz.ntmps146
  go_wp2
  go_ret
  exact ⟨rfl, rfl⟩
def lessT (x y : Th) : Bool := decide (x.wt < y.wt) || (decide (x.wt = y.wt) && decide (x.num < y.num))
set_option maxHeartbeats 1000000 in
set_option maxRecDepth 10000 in
theorem thLessI (g n c i k : Nat) (X Y XN YN : Int) (w : World) (hi : i < n) (hk : k < n) (a0 : w.cell? ⟨g, i * 3, none⟩ = some (.int .i64 X)) (a1 : w.cell? ⟨g, i * 3 + 1, none⟩ = some (.int .i64 XN)) (b0 : w.cell? ⟨g, k * 3, none⟩ = some (.int .i64 Y)) (b1 : w.cell? ⟨g, k * 3 + 1, none⟩ = some (.int .i64 YN)) (h : ¬ X < Y) (hne : (X == Y) = false) :
    Calls Tryz.prog 147 #[.slice (some ⟨g, 0, none⟩) n c, .int .i64 (i : Int), .int .i64 (k : Int)] w fun e w' => e = .returned (.bool false) ∧ ∃ q, w' = w.drewN q := by
  have i1 : (0 : Int) ≤ (i : Int) := by omega
  have i2 : (i : Int) < (n : Int) := by omega
  have k1 : (0 : Int) ≤ (k : Int) := by omega
  have k2 : (k : Int) < (n : Int) := by omega
  have g1 : decide (X < Y) = false := decide_eq_false h
  clear h
  go_enter Tryz.func147, Tryz.ntmps147
  go_wp2
  go_quiet (fail)
  go_wp2
  go_ret
  exact ⟨by rfl, _, rfl⟩
set_option maxHeartbeats 1000000 in
set_option maxRecDepth 10000 in
theorem thLess (base : Nat) (A : Option Addr) (n c : Nat) (l : List Th) (i k : Nat) (x y : Th) (w : World) (h : OwnT w base A n c l) (hx : l[i]? = some x) (hy : l[k]? = some y) :
    Calls Tryz.prog 147 #[.slice A n c, .int .i64 (i : Int), .int .i64 (k : Int)] w fun e w' => e = .returned (.bool (lessT x y)) ∧ ∃ q, w' = w.drewN q := by
  have hl := h.length
  have hi : i < n := by rw [← hl]; exact (List.getElem?_eq_some_iff.1 hx).1
  have hk : k < n := by rw [← hl]; exact (List.getElem?_eq_some_iff.1 hy).1
  obtain ⟨g, x', rfl, -, -, hx', a0, a1, -, -⟩ := h.at_ hi
  obtain ⟨g', y', hg', -, -, hy', b0, b1, -, -⟩ := h.at_ hk
  cases hg'
  rw [hx] at hx'; cases hx'
  rw [hy] at hy'; cases hy'
  obtain ⟨xw, xn, xa, xpn, xpc, xps, xht⟩ := x
  obtain ⟨yw, yn, ya, ypn, ypc, yps, yht⟩ := y
  simp only at a0 a1 b0 b1
  have i1 : (0 : Int) ≤ (i : Int) := by omega
  have i2 : (i : Int) < (n : Int) := by omega
  have k1 : (0 : Int) ≤ (k : Int) := by omega
  have k2 : (k : Int) < (n : Int) := by omega
  clear h hx hy hl
  by_cases h1 : xw < yw
  · have g1 : decide ((xw : Int) < (yw : Int)) = true := decide_eq_true (by omega)
    have HL := Lib.hid (show lessT ⟨xw, xn, xa, xpn, xpc, xps, xht⟩ ⟨yw, yn, ya, ypn, ypc, yps, yht⟩ = true by unfold lessT; simp [h1])
    rw [HL.out]
    go_enter Tryz.func147, Tryz.ntmps147
    go_wp2
    go_quiet (fail)
    go_wp2
    go_ret
    exact ⟨by rfl, _, rfl⟩
  · by_cases h2 : xw = yw
    · subst h2
      have HL := Lib.hid (show lessT ⟨xw, xn, xa, xpn, xpc, xps, xht⟩ ⟨xw, yn, ya, ypn, ypc, yps, yht⟩ = decide (xn < yn) by unfold lessT; simp)
      rw [HL.out]
      clear h1
      go_enter Tryz.func147, Tryz.ntmps147
      go_wp2
      go_quiet (fail)
      go_wp2
      go_ret
      exact ⟨by rfl, _, rfl⟩
    · rw [show lessT ⟨xw, xn, xa, xpn, xpc, xps, xht⟩ ⟨yw, yn, ya, ypn, ypc, yps, yht⟩ = false by unfold lessT; simp [h1, h2]]
      exact thLessI g n c i k _ _ _ _ w hi hk a0 a1 b0 b1 (by omega) (beq_eq_false_iff_ne.2 (by omega))
theorem grown6 (w : World) (g a b c d e f : Nat) (u1 u2 u3 u4 u5 u6 : Value) : w.grownBy ((((((w.setCell ⟨g, a, none⟩ u1).setCell ⟨g, b, none⟩ u2).setCell ⟨g, c, none⟩ u3).setCell ⟨g, d, none⟩ u4).setCell ⟨g, e, none⟩ u5).setCell ⟨g, f, none⟩ u6).drew (bk (some ⟨g, 0, none⟩)) :=
  grown_trans (grown_trans (grown_trans (grown_trans (grown_trans (grown_trans (grown_set w ⟨g, a, none⟩ u1) (grown_set _ ⟨g, b, none⟩ u2)) (grown_set _ ⟨g, c, none⟩ u3)) (grown_set _ ⟨g, d, none⟩ u4)) (grown_set _ ⟨g, e, none⟩ u5)) (grown_set _ ⟨g, f, none⟩ u6)) (grown_below (Below.refl _ _).drew)
set_option maxHeartbeats 1000000 in
set_option maxRecDepth 10000 in
theorem thSwap (base : Nat) (A : Option Addr) (n c : Nat) (l : List Th) (i k : Nat) (x y : Th) (w : World) (h : OwnT w base A n c l) (hx : l[i]? = some x) (hy : l[k]? = some y) (hik : i ≠ k) :
    Calls Tryz.prog 148 #[.slice A n c, .int .i64 (i : Int), .int .i64 (k : Int)] w fun e w' => (∃ v, e = .returned v) ∧ OwnT w' base A n c ((l.set i y).set k x) ∧ w.grownBy w' (bk A) := by
  have hl := h.length
  have hi : i < n := by rw [← hl]; exact (List.getElem?_eq_some_iff.1 hx).1
  have hk : k < n := by rw [← hl]; exact (List.getElem?_eq_some_iff.1 hy).1
  obtain ⟨g, x', rfl, hg1, hg2, hx', a0, a1, a2, f0⟩ := h.at_ hi
  obtain ⟨g', y', hg', -, -, hy', b0, b1, b2, -⟩ := h.at_ hk
  cases hg'
  rw [hx] at hx'; cases hx'
  rw [hy] at hy'; cases hy'
  obtain ⟨xw, xn, xa, xpn, xpc, xps, xht⟩ := x
  obtain ⟨yw, yn, ya, ypn, ypc, yps, yht⟩ := y
  simp only at a0 a1 a2 b0 b1 b2
  have i1 : (0 : Int) ≤ (i : Int) := by omega
  have i2 : (i : Int) < (n : Int) := by omega
  have k1 : (0 : Int) ≤ (k : Int) := by omega
  have k2 : (k : Int) < (n : Int) := by omega
  have h3 := h.set hi ⟨yw, yn, ya, ypn, ypc, yps, yht⟩
  obtain ⟨g', y', hg', -, -, hy', d0, d1, d2, df⟩ := h3.at_ hk
  cases hg'
  rw [List.getElem?_set, if_neg hik, hy] at hy'
  cases hy'
  have h4 := h3.set hk ⟨xw, xn, xa, xpn, xpc, xps, xht⟩
  simp only at d0 d1 d2 h4
  have HO := Lib.hid h4
  have df0 := df (k * 3)
  have df1 := df (k * 3 + 1)
  have df2 := df (k * 3 + 2)
  have ff0 := f0 (i * 3)
  have ff1 := f0 (i * 3 + 1)
  have ff2 := f0 (i * 3 + 2)
  clear h hx hy hl h3 h4 df f0
  go_enter Tryz.func148, Tryz.ntmps148
  go_wp2
  go_region
  go_wp2
  go_end0
  exact ⟨⟨_, rfl⟩, HO.out.later ((Below.refl _ _).drew), grown6 _ _ _ _ _ _ _ _ _ _ _ _ _ _⟩
end Go.Proofs.YtaelgbbnmjbjiaaGreat
namespace Go.Proofs.YtaelgbbnmjbjiaaGreat
open Go.RowKit
theorem back_take_ok (g a c k : Nat) (l : List UInt8) (A : Option Addr) (w : World) (h : IsRow w 181 g l a A c) (hl : l.length ≤ 140737488351232) (ha : a ≤ 8 * l.length) (hk : k ≤ 32) (hak : k ≤ a) :
    Calls Tryz.prog 121 #[.pointer (some ⟨g, 0, none⟩), .int .i64 (k : Int)] w fun e w' => e = .returned (.tuple #[.int .i64 (numAt l (a - k) k : Nat), .int .i64 0]) ∧ IsRow w' 181 g l (a - k) A c ∧ w.grownBy w' (some g) := by
  have hm : mayE (k : Int) (a : Int) = 0 := by unfold mayE; rw [if_neg (by omega), if_neg (by omega)]
  have h1 : backV l a (k : Int) = .tuple #[.int .i64 (numAt l (a - k) k : Nat), .int .i64 0] := by unfold backV; rw [if_pos hm, Int.toNat_natCast]
  have h2 : backA a (k : Int) = a - k := by unfold backA; rw [if_pos hm, Int.toNat_natCast]
  have := back_take g a c l A (k : Int) w h hl ha (by omega) (by omega)
  rwa [h1, h2] at this
theorem back_take_bad (g a c k : Nat) (l : List UInt8) (A : Option Addr) (w : World) (h : IsRow w 181 g l a A c) (hl : l.length ≤ 140737488351232) (ha : a ≤ 8 * l.length) (hk : k ≤ 32) (hak : a < k) :
    Calls Tryz.prog 121 #[.pointer (some ⟨g, 0, none⟩), .int .i64 (k : Int)] w fun e w' => e = .returned (.tuple #[.int .i64 0, .int .i64 3]) ∧ IsRow w' 181 g l a A c ∧ w.grownBy w' (some g) := by
  have hm : mayE (k : Int) (a : Int) = 3 := by unfold mayE; rw [if_neg (by omega), if_pos (by omega)]
  have h1 : backV l a (k : Int) = .tuple #[.int .i64 0, .int .i64 3] := by unfold backV; rw [hm]; rfl
  have h2 : backA a (k : Int) = a := by unfold backA; rw [hm]; rfl
  have := back_take g a c l A (k : Int) w h hl ha (by omega) (by omega)
  rwa [h1, h2] at this
def fdGo (sh : List Nat) (s : List UInt8) : Nat → Nat → Nat → List Nat → Option (List Nat × Nat × Nat)
  | 0, q, a, out => some (out, q, a)
  | r + 1, q, a, out => if a < bitsOf sh q then none else fdGo sh s r (baseOf sh q + numAt s (a - bitsOf sh q) (bitsOf sh q)) (a - bitsOf sh q) (out ++ [symOf sh q])
def fdEnd : Option (List Nat × Nat × Nat) → Option (List Nat)
  | none => none
  | some (out, q, a) => if q ≠ 0 ∨ 0 < a then none else some out
def fdBits (s : List UInt8) : Nat := 8 * (s.length - 1) + Lib.bitLen (s.getD (s.length - 1) 0).toNat - 1
def fdecodeL (sh : List Nat) (s : List UInt8) (n : Nat) : Option (List Nat) :=
  if fmayL sh 6 = false ∨ s.length = 0 ∨ s.getD (s.length - 1) 0 = 0 ∨ fdBits s < 6 then none
  else fdEnd (fdGo sh s n (numAt s (fdBits s - 6) 6) (fdBits s - 6) [])
def fdPost (r : Option (List Nat)) (w : World) (e : Ending) (w' : World) : Prop :=
  Below w.heap.size w w' ∧ match r with
  | none => ∃ E : Int, E ≠ 0 ∧ e = .returned (.tuple #[.slice none 0 0, .int .i64 E])
  | some out => ∃ A' c', e = .returned (.tuple #[.slice A' out.length c', .int .i64 0]) ∧ OwnN w' w.heap.size A' out.length c' out
theorem fdPost_bad {r : Option (List Nat)} {w w' : World} {E : Int} (h : r = none) (hE : E ≠ 0) (hb : Below w.heap.size w w') : fdPost r w (.returned (.tuple #[.slice none 0 0, .int .i64 E])) w' := by
  subst h; exact ⟨hb, E, hE, rfl⟩
theorem fdPost_ok {r : Option (List Nat)} {w w' : World} {out : List Nat} {m co : Nat} {A : Option Addr} (h : r = some out) (hm : out.length = m) (ho : OwnN w' w.heap.size A m co out) (hb : Below w.heap.size w w') :
    fdPost r w (.returned (.tuple #[.slice A m co, .int .i64 0])) w' := by
  subst hm; subst h
  exact ⟨hb, A, co, rfl, ho⟩
theorem tab_cells {w : World} {g : Nat} {l : List Nat} {As : Nat → Option Addr} {cs : Nat → Nat} (h : Cells w g 97 1601 (G3 l 64 As cs)) {q : Nat} (hq : q < 64) :
    w.cell? ⟨g, q * 3, none⟩ = some (.int .i64 (symOf l q : Nat)) ∧ w.cell? ⟨g, q * 3 + 1, none⟩ = some (.int .i64 (bitsOf l q : Nat)) ∧ w.cell? ⟨g, q * 3 + 2, none⟩ = some (.int .i64 (baseOf l q : Nat)) := by
  refine ⟨?_, ?_, ?_⟩
  · rw [h.cell (by omega)]
    unfold G3
    rw [if_neg (by omega), if_neg (by omega), if_neg (by omega), if_pos (by omega), show q * 3 / 3 = q by omega]
  · rw [h.cell (by omega)]
    unfold G3
    rw [if_neg (by omega), if_neg (by omega), if_neg (by omega), if_neg (by omega), if_pos (by omega), show (q * 3 + 1) / 3 = q by omega, if_pos hq]
  · rw [h.cell (by omega)]
    unfold G3
    rw [if_neg (by omega), if_neg (by omega), if_neg (by omega), if_neg (by omega), if_neg (by omega), show (q * 3 + 2) / 3 = q by omega, if_pos hq]
set_option maxHeartbeats 2000000 in
set_option maxRecDepth 10000 in
theorem fseDecode (A : Option Addr) (m c : Nat) (sh : List Nat) (A2 : Option Addr) (m2 c2 : Nat) (s : List UInt8) (n : Nat) (w : World) (hl : sh.length = m) (hr : Ns w A sh) (hm : m ≤ 140737488351232) (hb : ∀ x ∈ sh, x ≤ 140737488351232)
    (hl2 : s.length = m2) (hr2 : Bs w A2 s) (hm2 : m2 ≤ 140737488351232) (hn : n ≤ 65536) :
    Calls Tryz.prog 113 #[.slice A m c, .int .i64 6, .slice A2 m2 c2, .int .i64 (n : Int)] w (fdPost (fdecodeL sh s n) w) := by
  have HMay := Lib.hid (show Calls Tryz.prog 70 #[.slice A m c, .int .i64 6] w fun e w' => e = .returned (.bool (fmayL sh 6)) ∧ w' = w from fseMay A m c sh 6 w hl hr hm hb (by omega) (by omega))
  cases hmay : fmayL sh 6 with
  | false =>
    rw [hmay] at HMay
    have HD := Lib.hid (by unfold fdecodeL; rw [if_pos (.inl hmay)] : fdecodeL sh s n = none)
    clear hl hr hb hl2 hr2 hmay
    go_enter Tryz.func113, Tryz.ntmps113
    go_wp2_with fail
    refine HMay.out.mono ?_
    rintro e w1 ⟨rfl, rfl⟩
    go_wp2
    go_ret2
    exact fdPost_bad HD.out (by omega) (Below.refl _ _)
  | true =>
    rw [hmay] at HMay
    by_cases hbad : m2 = 0 ∨ s.getD (m2 - 1) 0 = 0
    · have HD := Lib.hid (by unfold fdecodeL; rw [if_pos (.inr (by rw [hl2]; rcases hbad with h | h; exact .inl h; exact .inr (.inl h)))] : fdecodeL sh s n = none)
      have HNB := Lib.hid (newBack_bad A2 m2 c2 s w hl2 hr2 (by omega) hbad)
      clear hl hr hb hl2 hr2 hmay hbad
      go_enter Tryz.func113, Tryz.ntmps113
      go_wp2_with fail
      refine HMay.out.mono ?_
      rintro e w1 ⟨rfl, rfl⟩
      go_wp2_with fail
      refine HNB.out.mono ?_
      rintro e w1 ⟨rfl, rfl⟩
      go_wp2
      go_ret2
      exact fdPost_bad HD.out (by omega) (Below.refl _ _)
    · obtain ⟨M, rfl⟩ : ∃ M, m2 = M + 1 := ⟨m2 - 1, by omega⟩
      have hlast : (s.getD M 0).toNat ≠ 0 := fun e => hbad (.inr (by simpa using UInt8.toNat_inj.1 (e.trans (by rfl))))
      have hB : fdBits s = 8 * M + Lib.bitLen (s.getD M 0).toNat - 1 := by unfold fdBits; rw [hl2, Nat.add_sub_cancel]
      have HNB := Lib.hid (newBack A2 M c2 s w hl2 hr2 (by omega) hlast)
      have hbl := bitLen_le (s.getD M 0).toNat (UInt8.toNat_lt _)
      rw [← hB] at HNB
      have hB8 : fdBits s ≤ 8 * s.length := by omega
      obtain ⟨hf1, hf2, hf3, hf4, hf5⟩ := fmayL_facts hmay
      have HMade := Lib.hid (fun w0 hr => fseMade A m c sh w0 hl hr (by omega) (by omega) hf5)
      have HS := Lib.hid hf5
      have HD0 := Lib.hid (by unfold fdecodeL; rw [hmay, hl2, Nat.add_sub_cancel]; simp only [Nat.add_one_ne_zero, Bool.true_eq_false, false_or] : fdecodeL sh s n = if s.getD M 0 = 0 ∨ fdBits s < 6 then none else fdEnd (fdGo sh s n (numAt s (fdBits s - 6) 6) (fdBits s - 6) []))
      have hlast' : ¬ s.getD M 0 = 0 := fun e => hlast (by rw [e]; rfl)
      generalize fdBits s = B at *
      have HL := Lib.hid hl
      have HR := Lib.hid hr
      have HL2 := Lib.hid hl2
      have HB8 := Lib.hid hB8
      clear hl hr hb hl2 hr2 hmay hbad hlast hbl hf1 hf2 hf3 hf4 hf5 hB8 hB
      go_enter Tryz.func113, Tryz.ntmps113
      go_wp2_with fail
      refine HMay.out.mono ?_
      rintro e w1 ⟨rfl, rfl⟩
      go_wp2_with fail
      refine HNB.out.mono ?_
      rintro e w2 ⟨g, Ar, cr, rfl, hg, hAr, hrow, hb1⟩
      have HROW := Lib.hid hrow
      have HB2 := Lib.hid hb1
      have HG := Lib.hid hg
      have HR2' := Lib.hid (HR.out.later hb1)
      clear hrow hb1 hg hAr
      go_wp2_with fail
      refine (HMade.out w2 HR2'.out).mono ?_
      rintro e w3 ⟨rfl, ⟨As, cs, An, cn, htab⟩, hb3⟩
      have HROW3 := Lib.hid (HROW.out.later hb3)
      have HB3 := Lib.hid (HB2.out.trans (hb3.mono HB2.out.size))
      have HT := Lib.hid htab
      clear htab HROW HB2 HMade HR2' hb3
      by_cases h6 : B < 6
      · have HTk := Lib.hid (show Calls Tryz.prog 121 #[.pointer (some ⟨g, 0, none⟩), .int .i64 6] w3 _ from back_take_bad g B cr 6 s Ar w3 HROW3.out (by rw [HL2.out]; omega) HB8.out (by omega) h6)
        have HD := Lib.hid (HD0.out.trans (if_pos (.inr h6)))
        go_wp2_with fail
        refine HTk.out.mono ?_
        rintro e w4 ⟨rfl, -, hgr⟩
        go_wp2
        go_ret2
        exact fdPost_bad HD.out (by omega) (HB3.out.trans (below_grown hgr HB3.out.size (fun k hk => by cases hk; exact HG.out)))
      · have HTk := Lib.hid (show Calls Tryz.prog 121 #[.pointer (some ⟨g, 0, none⟩), .int .i64 6] w3 _ from back_take_ok g B cr 6 s Ar w3 HROW3.out (by rw [HL2.out]; omega) HB8.out (by omega) (by omega))
        have HD := Lib.hid (HD0.out.trans (if_neg (by rintro (h | h); exact hlast' h; exact h6 h)))
        have hq0 := numAt_lt s (B - 6) 6
        generalize hQ : numAt s (B - 6) 6 = q0 at *
        have ha8 : B - 6 ≤ 8 * s.length := by have := HB8.out; omega
        generalize B - 6 = a0 at *
        clear hlast' HD0 HB8 h6 hQ
        go_wp2_with fail
        refine HTk.out.mono ?_
        rintro e w4 ⟨rfl, hrow4, hgr⟩
        have HROW4 := Lib.hid hrow4
        have HT4 := Lib.hid (⟨HT.out.cells.kept hgr (by simpa using fun e => (HT.out.cells.ne_blk HROW3.out.blk (by decide)) e.symm), fun j hj => Own.kept (HT.out.rows j hj) hgr (.inr (Own.ne_blk (HT.out.rows j hj) HROW3.out.blk (by decide))), HT.out.sep,
          Own.kept HT.out.next hgr (.inr (Own.ne_blk HT.out.next HROW3.out.blk (by decide))), HT.out.sepn⟩ : TabR w4 _ _ _ _ _ _ _ _)
        have HB4 := Lib.hid (HB3.out.trans (below_grown hgr HB3.out.size (fun k hk => by cases hk; exact HG.out)))
        clear hrow4 hgr HT HROW3 HB3 HTk
        generalize w2.heap.size = tb at *
        go_wp2
        go_loopg [13, 14, 51] n (fun gg s13 s14 s51 wr => ∃ (q a k co : Nat) (Ao : Option Addr) (out : List Nat), k ≤ n ∧ n - k ≤ gg ∧ s13 = .int .i64 (q : Int) ∧ s14 = .slice Ao k co ∧ s51 = .int .i64 (k : Int) ∧ q < 64 ∧ OwnN wr w1.heap.size Ao k co out ∧
          IsRow wr 181 g s a Ar cr ∧ a ≤ 8 * s.length ∧ Cells wr tb 97 1601 (G3 sh 64 As cs) ∧ fdecodeL sh s n = fdEnd (fdGo sh s (n - k) q a out) ∧ Below w1.heap.size w1 wr)
        case atStart => exact ⟨q0, a0, 0, 0, none, [], by omega, by omega, rfl, rfl, rfl, by omega, OwnN.nil _ _, HROW4.out, ha8, HT4.out.cells, HD.out, HB4.out⟩
        case round =>
          obtain ⟨q, a, k, co, Ao, out, hk, hgg, rfl, rfl, rfl, hq, hown, hrow, ha, htab, hdec, hbel⟩ := hrel
          have HO := Lib.hid hown
          have HRw := Lib.hid hrow
          have HC := Lib.hid htab
          have HDc := Lib.hid hdec
          have HBl := Lib.hid hbel
          clear hown hrow htab hdec hbel
          by_cases hkn : k < n
          · obtain ⟨c0, c1, c2⟩ := tab_cells HC.out hq
            have hpf := (place_facts HS.out hq).2.2.1
            have hbf := Lib.hid (fun m h => base_facts (m := m) HS.out hq h)
            obtain ⟨sy, hsy⟩ : ∃ sy, symOf sh q = sy := ⟨_, rfl⟩
            obtain ⟨bt, hbt⟩ : ∃ bt, bitsOf sh q = bt := ⟨_, rfl⟩
            obtain ⟨ba, hba⟩ : ∃ ba, baseOf sh q = ba := ⟨_, rfl⟩
            rw [hsy] at c0
            rw [hbt] at c1 hpf
            rw [hba] at c2
            rw [hbt, hba] at hbf
            have HSy := Lib.hid hsy
            have HBt := Lib.hid hbt
            have HBa := Lib.hid hba
            clear hsy hbt hba
            have HA := Lib.hid ((Below.refl wr.heap.size wr).alloc (Nat.le_refl _) (.cells #[.int .i64 (sy : Int), .int .i64 (bt : Int), .int .i64 (ba : Int)] 93))
            have HP5 := Lib.hid (Blk.new wr 93 #[.int .i64 (sy : Int), .int .i64 (bt : Int), .int .i64 (ba : Int)])
            have HO5 := Lib.hid (Own.later HO.out HA.out)
            have HR5 := Lib.hid (HRw.out.later HA.out)
            have HC5 := Lib.hid (HC.out.later HA.out)
            have HB5 := Lib.hid (HBl.out.trans (HA.out.mono HBl.out.size))
            have hpg : g ≠ wr.heap.size := by have := HRw.out.blk.lt; omega
            go_wp2_with fail
            generalize (wr.alloc (.cells #[.int .i64 (sy : Int), .int .i64 (bt : Int), .int .i64 (ba : Int)] 93)) = w5 at *
            generalize wr.heap.size = pb at *
            clear c0 c1 c2 HA
            obtain ⟨r, hr⟩ : ∃ r, n - k = r + 1 := ⟨n - k - 1, by omega⟩
            have hD5 : fdecodeL sh s n = fdEnd (if a < bt then none else fdGo sh s r (ba + numAt s (a - bt) bt) (a - bt) (out ++ [sy])) := by rw [HDc.out, hr, fdGo, HBt.out, HBa.out, HSy.out]
            by_cases hbt : a < bt
            · have HTk := Lib.hid (back_take_bad g a cr bt s Ar w5 HR5.out (by rw [HL2.out]; omega) ha (by omega) hbt)
              have HD6 := Lib.hid (by rw [hD5, if_pos hbt]; rfl : fdecodeL sh s n = none)
              clear hD5 hr hbt
              refine HTk.out.mono ?_
              rintro e w6 ⟨rfl, -, hgr⟩
              go_wp2
              go_ret2
              exact fdPost_bad HD6.out (by omega) (HB5.out.trans (below_grown hgr HB5.out.size (fun k hk => by cases hk; exact HG.out)))
            · have HTk := Lib.hid (back_take_ok g a cr bt s Ar w5 HR5.out (by rw [HL2.out]; omega) ha (by omega) (by omega))
              have hnl := numAt_lt s (a - bt) bt
              have hbq := hbf.out _ hnl
              rw [if_neg hbt] at hD5
              generalize numAt s (a - bt) bt = mo at *
              have HD6 := Lib.hid hD5
              clear hD5 hbt hnl hbf
              refine HTk.out.mono ?_
              rintro e w6 ⟨rfl, hrow6, hgr⟩
              have HR6 := Lib.hid hrow6
              have HO6 := Lib.hid (Own.kept HO5.out hgr (.inr (Own.ne_blk HO5.out HR5.out.blk (by decide))))
              have HC6 := Lib.hid (HC5.out.kept hgr (by simpa using fun e => (HC5.out.ne_blk HR5.out.blk (by decide)) e.symm))
              have HP6 := Lib.hid (HP5.out.kept hgr (by simpa using hpg))
              have HB6 := Lib.hid (HB5.out.trans (below_grown hgr HB5.out.size (fun k hk => by cases hk; exact HG.out)))
              clear hrow6 hgr HR5 HO5 HC5 HP5 HB5 HTk
              have p0 := HP6.out.cell 0
              have p2 := HP6.out.cell 2
              simp only [List.getElem?_toArray, List.getElem?_cons_zero, List.getElem?_cons_succ] at p0 p2
              go_wp2_with (at_builtin; refine wpList_append_one rfl _ _ elemN rfl w1.heap.size Ao k co (out.map natv) w6 (.int .i64 (sy : Int)) rfl rfl HO6.out rfl rfl ?d1 ?d2 ?d3 ?_)
              case d1 => omega
              case d2 => omega
              case d3 => exact HB6.out.size
              intro A' c' w7 hown7 hb7 hgr7 hat7
              have HO7 := Lib.hid (ownN_snoc hown7)
              have HR7 := Lib.hid (HR6.out.keptN (by decide) HO6.out hgr7)
              have HC7 := Lib.hid (HC6.out.kept hgr7 (HC6.out.ne_own HO6.out (by decide)))
              have HB7 := Lib.hid (HB6.out.trans hb7)
              have q2 : w7.cell? ⟨pb, 2, none⟩ = some (.int .i64 (ba : Int)) := by
                rw [← p2]
                exact World.cell?_of_block (hgr7.block pb HP6.out.lt (fun e => (Own.ne_blk HO6.out HP6.out (by decide)) e.symm))
              clear p0 p2 hown7 hb7 hgr7 hat7
              go_wp2
              go_roundg (n - (k + 1))
              case measure => omega
              case rel => exact ⟨ba + mo, a - bt, k + 1, c', A', out ++ [sy], by omega, by omega, by go_num, rfl, by go_num, hbq, HO7.out, HR7.out, by omega, HC7.out, by rw [HD6.out, show r = n - (k + 1) by omega], HB7.out⟩
          · obtain rfl : k = n := by omega
            have hD5 : fdecodeL sh s k = fdEnd (some (out, q, a)) := by rw [HDc.out, Nat.sub_self, fdGo]
            have HLeft := Lib.hid (back_left g a cr s Ar wr HRw.out)
            have HLen := Lib.hid (OwnN.length HO.out)
            by_cases hq0' : q = 0
            · have e0 : ((q : Int) != 0) = false := by rw [hq0']; rfl
              by_cases ha0 : 0 < a
              · have HD6 := Lib.hid (by rw [hD5, fdEnd, if_pos (.inr ha0)] : fdecodeL sh s k = none)
                have ha0' : 0 < (a : Int) := by omega
                clear hD5 hq0'
                go_wp2_with fail
                refine HLeft.out.mono ?_
                rintro e w6 ⟨rfl, rfl⟩
                go_wp2
                go_ret2
                exact fdPost_bad HD6.out (by omega) HBl.out
              · have HD6 := Lib.hid (by rw [hD5, fdEnd, if_neg (by omega)] : fdecodeL sh s k = some out)
                have ha0' : (a : Int) ≤ 0 := by omega
                clear hD5 hq0'
                go_wp2_with fail
                refine HLeft.out.mono ?_
                rintro e w6 ⟨rfl, rfl⟩
                go_wp2
                go_ret2
                exact fdPost_ok HD6.out HLen.out HO.out HBl.out
            · have e0 : ((q : Int) != 0) = true := by simpa using hq0'
              have HD6 := Lib.hid (by rw [hD5, fdEnd, if_pos (.inl hq0')] : fdecodeL sh s k = none)
              clear hD5
              go_wp2
              go_ret2
              exact fdPost_bad HD6.out (by omega) HBl.out
end Go.Proofs.YtaelgbbnmjbjiaaGreat
namespace Go.Proofs.YtaelgbbnmjbjiaaGreat
open Go.RowKit
theorem tableL_facts {l : List UInt8} {out : List Nat} {k : Nat} (h : tableL l = some (out, k)) : k ≤ l.length ∧ out.length ≤ 256 ∧ ∀ x ∈ out, x ≤ 11 := by
  unfold tableL at h
  split at h
  · cases h
  · generalize tabGo l (numAt l 0 8 + 1) (numAt l 0 8 + 1) 8 [] false = R at h
    cases R with
    | none => cases h
    | some p =>
      obtain ⟨o, a⟩ := p
      unfold tabEnd at h
      split at h
      · rename_i he; cases he
      · rename_i o' a' he
        simp only [Option.some.injEq, Prod.mk.injEq] at he
        obtain ⟨rfl, rfl⟩ := he
        split at h
        · cases h
        · rename_i hn
          simp only [Option.some.injEq, Prod.mk.injEq] at h
          obtain ⟨rfl, rfl⟩ := h
          have hm : mayL o = true := by
            cases e : mayL o with
            | true => rfl
            | false => exact absurd (.inr e) hn
          obtain ⟨-, h2, h3⟩ := mayL_facts hm
          exact ⟨Nat.sub_le _ _, h2, h3⟩
theorem pkNum_facts {l : List UInt8} {most : Int} {n k : Nat} (h : pkNum l most = some (n, k)) : k ≤ l.length ∧ n ≤ 4294967295 ∧ (n : Int) ≤ most ∧ 0 < k := by
  unfold pkNum at h
  split at h
  · rename_i m j e
    split at h
    · cases h
    · simp only [Option.some.injEq, Prod.mk.injEq] at h
      obtain ⟨rfl, rfl⟩ := h
      have := numGo_le _ _ _ _ _ e
      omega
  · cases h
def litDec (rest : List UInt8) : Option (List UInt8) → Option (List UInt8 × List UInt8)
  | none => none
  | some out => some (out, rest)
def litNum (l3 : List UInt8) (lens : List Nat) (many : Nat) : Option (Nat × Nat) → Option (List UInt8 × List UInt8)
  | none => none
  | some (bn, kk) => if (l3.drop kk).length < bn then none else litDec ((l3.drop kk).drop bn) (decodeL lens ((l3.drop kk).take bn) many)
def litTab (h : UInt8) (l2 : List UInt8) (many : Nat) : Option (List Nat × Nat) → Option (List UInt8 × List UInt8)
  | none => none
  | some (lens, k) => if h ≠ 1 then none else litNum (l2.drop k) lens many (pkNum (l2.drop k) ((l2.drop k).length : Int))
def litHow (l1 : List UInt8) (many : Nat) : Option (List UInt8 × List UInt8) :=
  match l1 with
  | [] => none
  | h :: l2 => if h = 0 then (if l2.length < many then none else some (l2.take many, l2.drop many)) else litTab h l2 many (tableL l2)
def litMany (l : List UInt8) : Option (Nat × Nat) → Option (List UInt8 × List UInt8)
  | none => none
  | some (many, k) => litHow (l.drop k) many
def litL (l : List UInt8) (n : Nat) : Option (List UInt8 × List UInt8) := litMany l (pkNum l (n : Int))
def litPost (r : Option (List UInt8 × List UInt8)) (g : Nat) (A : Option Addr) (w : World) (e : Ending) (w' : World) : Prop :=
  w.grownBy w' (some g) ∧ match r with
  | none => (∃ A' n' c', e = .returned (.slice A' n' c')) ∧ ∃ l' A' c', bk A' = bk A ∧ IsPk w' g l' A' c' true
  | some (out, rest) => ∃ A1 c1 A' c', e = .returned (.slice A1 out.length c1) ∧ Bs w' A1 out ∧ (bk A1 = none ∨ bk A1 ≠ some g) ∧ out.length ≤ c1 ∧ c1 ≤ 9223372036854775807 ∧ bk A' = bk A ∧ IsPk w' g rest A' c' false
theorem litPost_bad {r : Option (List UInt8 × List UInt8)} {g c' n1 c1 : Nat} {w w' : World} {l' : List UInt8} {A A' A1 : Option Addr} (h : r = none) (hp : IsPk w' g l' A' c' true) (hA : bk A' = bk A) (hg : w.grownBy w' (some g)) : litPost r g A w (.returned (.slice A1 n1 c1)) w' := by
  subst h; exact ⟨hg, ⟨_, _, _, rfl⟩, _, _, _, hA, hp⟩
set_option maxHeartbeats 4000000 in
set_option maxRecDepth 10000 in
theorem pkLiterals (g c : Nat) (l : List UInt8) (A : Option Addr) (n : Nat) (w : World) (h : IsPk w g l A c false) (hl : l.length ≤ 140737488351232) (hn : n ≤ 65536) :
    Calls Tryz.prog 51 #[.pointer (some ⟨g, 0, none⟩), .int .i64 (n : Int)] w (litPost (litL l n) g A w) := by
  obtain ⟨R, hR⟩ : ∃ R, litL l n = R := ⟨_, rfl⟩
  rw [hR]
  unfold litL at hR
  cases hp : pkNum l (n : Int) with
  | none =>
    rw [hp] at hR
    have HD := Lib.hid (hR.symm : R = none)
    have HN := Lib.hid (pk_num_bad g c l A false n w h (.inr hp))
    clear hR hp h hl
    go_enter Tryz.func51, Tryz.ntmps51
    go_wp2_with fail
    refine HN.out.mono ?_
    rintro e w1 ⟨rfl, hp1, hg1⟩
    have HT := Lib.hid (pk_take_bad g c l A true 1 w1 hp1 (.inl rfl))
    have HG1 := Lib.hid hg1
    clear hp1 hg1
    go_wp2_with fail
    refine HT.out.mono ?_
    rintro e w2 ⟨rfl, hp2, hg2⟩
    have c1 := hp2.blk.cell 1
    simp only [List.getElem?_toArray, List.getElem?_cons_zero, List.getElem?_cons_succ] at c1
    have HP2 := Lib.hid hp2
    have HG2 := Lib.hid (grown_trans HG1.out hg2)
    clear hp2 hg2
    go_wp2
    go_ret
    exact litPost_bad HD.out HP2.out (by first | assumption | rfl | exact bk_cut _ _ _ | (rw [bk_cut]; assumption)) HG2.out
  | some p =>
    obtain ⟨many, k⟩ := p
    rw [hp] at hR
    obtain ⟨hk, -, hmany, -⟩ := pkNum_facts hp
    have HN := Lib.hid (pk_num_any g c l A n many k w h hp)
    have HD := Lib.hid (show litHow (l.drop k) many = R from hR)
    clear hR
    have hl1 : (l.drop k).length ≤ 140737488351232 := by rw [List.length_drop]; omega
    generalize l.drop k = l1 at *
    clear hp h hl hk
    cases l1 with
    | nil =>
      have HD1 := Lib.hid (HD.out.symm : R = none)
      go_enter Tryz.func51, Tryz.ntmps51
      go_wp2_with fail
      refine HN.out.mono ?_
      rintro e w1 ⟨rfl, hp1, hg1⟩
      have HT := Lib.hid (pk_take_bad g _ [] _ false 1 w1 hp1 (.inr (by simp)))
      have HG1 := Lib.hid hg1
      clear hp1 hg1
      go_wp2_with fail
      refine HT.out.mono ?_
      rintro e w2 ⟨rfl, hp2, hg2⟩
      have c1 := hp2.blk.cell 1
      simp only [List.getElem?_toArray, List.getElem?_cons_zero, List.getElem?_cons_succ] at c1
      have HP2 := Lib.hid hp2
      have HG2 := Lib.hid (grown_trans HG1.out hg2)
      clear hp2 hg2
      go_wp2
      go_ret
      exact litPost_bad HD1.out HP2.out (by first | assumption | rfl | exact bk_cut _ _ _ | (rw [bk_cut]; assumption)) HG2.out
    | cons hb l2 =>
      have hl2 : l2.length ≤ 140737488351232 := by simp at hl1; omega
      clear hl1
      have hA1 : bk (cutA A c k) = bk A := bk_cut A c k
      generalize cutA A c k = Ak at *
      generalize c - k = ck at *
      go_enter Tryz.func51, Tryz.ntmps51
      go_wp2_with fail
      refine HN.out.mono ?_
      rintro e w1 ⟨rfl, hp1, hg1⟩
      have HT := Lib.hid (pk_take_any g _ (hb :: l2) _ 1 w1 hp1 (by simp))
      have HG1 := Lib.hid hg1
      obtain ⟨b, o, x, hA, hx, hcx⟩ := hp1.data.at_ (k := 0) (by simp)
      obtain rfl : hb = x := by simpa using hx
      have hbg : b ≠ g := by have := hp1.ne; rw [hA] at this; simpa [bk] using this
      subst hA
      clear hx hp1 hg1 HN
      go_wp2_with fail
      refine HT.out.mono ?_
      rintro e w2 ⟨rfl, hp2, hg2⟩
      have hcx2 : w2.cell? ⟨b, o, none⟩ = some (.int .u8 (hb.toNat : Int)) := by
        rw [← hcx]; exact World.cell?_of_block (hg2.block b (block_lt hcx) (by simpa using hbg))
      rw [List.drop_one, List.tail_cons] at hp2
      have c1 := hp2.blk.cell 1
      simp only [List.getElem?_toArray, List.getElem?_cons_zero, List.getElem?_cons_succ] at c1
      have HP2 := Lib.hid hp2
      have HG2 := Lib.hid (grown_trans HG1.out hg2)
      clear hp2 hg2 hcx HG1 HT
      have hA2 : bk (cutA (some ⟨b, o, none⟩) ck 1) = bk A := (bk_cut _ _ _).trans hA1
      generalize cutA (some ⟨b, o, none⟩) ck 1 = A2 at *
      generalize hck : ck - 1 = c2 at *
      by_cases h0 : hb = 0
      · have e0 : ((hb.toNat : Int) == 0) = true := by rw [h0]; rfl
        have HD2 := Lib.hid (HD.out.symm.trans (by simp only [litHow]; rw [if_pos h0]) : R = if l2.length < many then none else some (l2.take many, l2.drop many))
        clear h0
        by_cases hml : l2.length < many
        · have HT2 := Lib.hid (pk_take_bad g _ l2 _ false many w2 HP2.out (.inr (by omega)))
          have HD3 := Lib.hid (HD2.out.trans (if_pos hml))
          clear hml
          go_wp2_with fail
          refine HT2.out.mono ?_
          rintro e w3 ⟨rfl, hp3, hg3⟩
          go_wp2
          go_ret
          exact litPost_bad HD3.out hp3 (by first | assumption | rfl | exact bk_cut _ _ _ | (rw [bk_cut]; assumption)) (grown_trans HG2.out hg3)
        · have HT2 := Lib.hid (pk_take_any g _ l2 _ many w2 HP2.out (by omega))
          have HD3 := Lib.hid (HD2.out.trans (if_neg hml))
          go_wp2_with fail
          refine HT2.out.mono ?_
          rintro e w3 ⟨rfl, hp3, hg3⟩
          go_wp2
          go_ret
          rw [HD3.out]
          have hlen : (l2.take many).length = many := by rw [List.length_take]; omega
          have hcap := HP2.out.cap
          refine ⟨grown_trans HG2.out hg3, A2, c2, _, _, by rw [hlen]; rfl, ?_, .inr HP2.out.ne, by rw [hlen]; omega, hcap.2, (by first | assumption | rfl | exact bk_cut _ _ _ | (rw [bk_cut]; assumption)), hp3⟩
          exact Rd.keptB (Bs.take many HP2.out.data) hg3 (.inr HP2.out.ne)
      · have e0 : ((hb.toNat : Int) == 0) = false := beq_eq_false_iff_ne.2 (fun e => h0 (by apply UInt8.toNat_inj.1; simpa using e))
        have HD2 := Lib.hid (HD.out.symm.trans (by simp only [litHow]; rw [if_neg h0]) : R = litTab hb l2 many (tableL l2))
        have q0 := HP2.out.blk.cell 0
        simp only [List.getElem?_toArray, List.getElem?_cons_zero, List.getElem?_cons_succ] at q0
        have hP1 := Lib.hid HP2.out.blk.lt
        have HTab := Lib.hid (huffTable A2 l2.length c2 l2 w2 rfl HP2.out.data hl2)
        clear h0
        go_wp2_with fail
        refine HTab.out.mono ?_
        rintro e w3 ⟨hb3, hpost⟩
        have HG3 := Lib.hid (grown_trans HG2.out (grown_below hb3))
        have HP3 := Lib.hid (HP2.out.later hb3)
        have hcx3 : w3.cell? ⟨b, o, none⟩ = some (.int .u8 (hb.toNat : Int)) := by rw [hb3.cell (by simpa using block_lt hcx2)]; exact hcx2
        clear hb3 HTab c1 hcx2 q0
        have f1 := HP3.out.blk.frozen 1
        have d1 := HP3.out.blk.cell 1
        simp only [List.getElem?_toArray, List.getElem?_cons_zero, List.getElem?_cons_succ] at d1
        cases ht : tableL l2 with
        | none =>
          rw [ht] at hpost
          obtain ⟨E, hE, rfl⟩ := hpost
          have HD3 := Lib.hid (HD2.out.trans (by rw [ht]; rfl) : R = none)
          have hE' : (E != 0) = true := by simpa using hE
          have HP4 := Lib.hid (HP3.out.setBad true)
          have HG4 := Lib.hid (grown_trans HG3.out (grown_set w3 ⟨g, 1, none⟩ (.bool true)))
          clear ht
          by_cases h1 : hb = 1
          · have e1 : ((hb.toNat : Int) != 1) = false := by rw [h1]; rfl
            clear h1
            go_wp2
            go_ret
            exact litPost_bad HD3.out HP4.out (by first | assumption | rfl | exact bk_cut _ _ _ | (rw [bk_cut]; assumption)) HG4.out
          · have e1 : ((hb.toNat : Int) != 1) = true := by
              simp only [bne_iff_ne, ne_eq]
              exact fun e => h1 (UInt8.toNat_inj.1 (show hb.toNat = 1 by omega))
            clear h1
            go_wp2
            go_ret
            exact litPost_bad HD3.out HP4.out (by first | assumption | rfl | exact bk_cut _ _ _ | (rw [bk_cut]; assumption)) HG4.out
        | some p =>
          obtain ⟨lens, k3⟩ := p
          rw [ht] at hpost
          obtain ⟨A3, c3, rfl, hown⟩ := hpost
          obtain ⟨hk3, hln, hlx⟩ := tableL_facts ht
          have HD3 := Lib.hid (HD2.out.trans (by rw [ht, litTab]))
          clear ht
          by_cases h1 : hb = 1
          · have e1 : ((hb.toNat : Int) != 1) = false := by rw [h1]; rfl
            have HD4 := Lib.hid (HD3.out.trans (if_neg (by simpa using h1)))
            clear h1
            have HP4 := Lib.hid (HP3.out.setBad false)
            have HG4 := Lib.hid (grown_trans HG3.out (grown_set w3 ⟨g, 1, none⟩ (.bool false)))
            have HL3 := Lib.hid (Own.kept hown (grown_set w3 ⟨g, 1, none⟩ (.bool false)) (.inr (Own.ne_blk hown HP3.out.blk (by decide))))
            have q0 := HP4.out.blk.cell 0
            have g0 := HP4.out.blk.frozen 0
            simp only [List.getElem?_toArray, List.getElem?_cons_zero, List.getElem?_cons_succ] at q0
            clear hown
            go_wp2_with (first | (with_reducible refine wpList_slice_lo ?g ?s ?h elemB ?ho A2 l2.length c2 k3 ?hs ?hh ?hk ?_; (case ho => exact rfl); (case g => exact rfl); (case hs => simp [Act.eval]); (case hh => simp [Act.eval]); (case hk => omega)) | fail)
            have HP5 := Lib.hid (HP3.out.cutD k3 hk3)
            have HG5 := Lib.hid (grown_trans HG4.out (grown_set (w3.setCell ⟨g, 1, none⟩ (.bool false)) ⟨g, 0, none⟩ (.slice (cutA A2 c2 k3) (l2.length - k3) (c2 - k3))))
            have HL5 := Lib.hid (Own.kept HL3.out (grown_set (w3.setCell ⟨g, 1, none⟩ (.bool false)) ⟨g, 0, none⟩ (.slice (cutA A2 c2 k3) (l2.length - k3) (c2 - k3))) (.inr (Own.ne_blk HL3.out HP4.out.blk (by decide))))
            have hl3 : (l2.drop k3).length = l2.length - k3 := List.length_drop
            have hAne : bk A3 ≠ some g := Own.ne_blk HL3.out HP4.out.blk (by decide)
            generalize ((w3.setCell ⟨g, 1, none⟩ (.bool false)).setCell ⟨g, 0, none⟩ (.slice (cutA A2 c2 k3) (l2.length - k3) (c2 - k3))) = w5 at *
            rw [← hl3]
            have hl3' : (l2.drop k3).length ≤ 140737488351232 := by omega
            generalize l2.drop k3 = l3 at *
            have hA5 : bk (cutA A2 c2 k3) = bk A := (bk_cut _ _ _).trans hA2
            generalize cutA A2 c2 k3 = A5 at *
            generalize c2 - k3 = c5 at *
            clear q0 g0 d1 f1 hcx3 HP4 HG4 HL3 HP3 HG3 HD3 HD2 HD hl3 hk3 HP2 HG2
            cases hp : pkNum l3 (l3.length : Int) with
            | none =>
              have HD5 := Lib.hid (HD4.out.trans (by rw [hp, litNum]) : R = none)
              refine (pk_num_bad g c5 l3 A5 false _ w5 HP5.out (.inr hp)).mono ?_
              rintro e w6 ⟨rfl, hp6, hg6⟩
              have HT := Lib.hid (pk_take_bad g c5 l3 A5 true 0 w6 hp6 (.inl rfl))
              have HG6 := Lib.hid (grown_trans HG5.out hg6)
              clear hp6 hg6 hp
              go_wp2_with fail
              refine HT.out.mono ?_
              rintro e w7 ⟨rfl, hp7, hg7⟩
              have d1 := hp7.blk.cell 1
              simp only [List.getElem?_toArray, List.getElem?_cons_zero, List.getElem?_cons_succ] at d1
              have HP7 := Lib.hid hp7
              have HG7 := Lib.hid (grown_trans HG6.out hg7)
              clear hp7 hg7
              go_wp2
              go_ret
              exact litPost_bad HD5.out HP7.out (by first | assumption | rfl | exact bk_cut _ _ _ | (rw [bk_cut]; assumption)) HG7.out
            | some p =>
              obtain ⟨bn, kk⟩ := p
              obtain ⟨hkk, hbn, -, -⟩ := pkNum_facts hp
              have HD5 := Lib.hid (HD4.out.trans (by rw [hp, litNum]))
              refine (pk_num_any g c5 l3 A5 _ bn kk w5 HP5.out hp).mono ?_
              rintro e w6 ⟨rfl, hp6, hg6⟩
              have HP6 := Lib.hid hp6
              have HG6 := Lib.hid (grown_trans HG5.out hg6)
              have HL6 := Lib.hid (Own.kept HL5.out hg6 (.inr hAne))
              have hl4 : (l3.drop kk).length ≤ 140737488351232 := by rw [List.length_drop]; omega
              clear hp6 hg6 hp
              generalize l3.drop kk = l4 at *
              have hA6 : bk (cutA A5 c5 kk) = bk A := (bk_cut _ _ _).trans hA5
              generalize cutA A5 c5 kk = A6 at *
              generalize c5 - kk = c6 at *
              by_cases hbl : l4.length < bn
              · have HD6 := Lib.hid (HD5.out.trans (if_pos hbl))
                have HT := Lib.hid (pk_take_bad g c6 l4 A6 false bn w6 HP6.out (.inr (by omega)))
                clear hbl
                go_wp2_with fail
                refine HT.out.mono ?_
                rintro e w7 ⟨rfl, hp7, hg7⟩
                have d1 := hp7.blk.cell 1
                simp only [List.getElem?_toArray, List.getElem?_cons_zero, List.getElem?_cons_succ] at d1
                have HP7 := Lib.hid hp7
                have HG7 := Lib.hid (grown_trans HG6.out hg7)
                clear hp7 hg7
                go_wp2
                go_ret
                exact litPost_bad HD6.out HP7.out (by first | assumption | rfl | exact bk_cut _ _ _ | (rw [bk_cut]; assumption)) HG7.out
              · have HD6 := Lib.hid (HD5.out.trans (if_neg hbl))
                have HT := Lib.hid (pk_take_any g c6 l4 A6 bn w6 HP6.out (by omega))
                go_wp2_with fail
                refine HT.out.mono ?_
                rintro e w7 ⟨rfl, hp7, hg7⟩
                have d1 := hp7.blk.cell 1
                simp only [List.getElem?_toArray, List.getElem?_cons_zero, List.getElem?_cons_succ] at d1
                have HP7 := Lib.hid hp7
                have HG7 := Lib.hid (grown_trans HG6.out hg7)
                have HL7 := Lib.hid (Own.kept HL6.out hg7 (.inr hAne))
                have HB7 := Lib.hid (Rd.keptB (Bs.take bn HP6.out.data) hg7 (.inr HP6.out.ne) : Bs w7 A6 (l4.take bn))
                have hlb : (l4.take bn).length = bn := by rw [List.length_take]; omega
                have hg7lt := HP7.out.blk.lt
                have HDec := Lib.hid (huffDecode A3 lens.length c3 lens A6 bn c6 (l4.take bn) many w7 rfl (OwnN.ns HL7.out) (by omega) (fun x hx => by have := hlx x hx; omega) hlb HB7.out (by omega) (by omega))
                clear hp7 hg7 HT hlx hbl hlb
                generalize l4.take bn = body at *
                generalize l4.drop bn = l5 at *
                go_wp2_with fail
                refine HDec.out.mono ?_
                rintro e w8 ⟨hb8, hpost⟩
                have HP8 := Lib.hid (HP7.out.later hb8)
                have HG8 := Lib.hid (grown_trans HG7.out (grown_below hb8))
                have f8 := HP8.out.blk.frozen 1
                have d8 := HP8.out.blk.cell 1
                simp only [List.getElem?_toArray, List.getElem?_cons_zero, List.getElem?_cons_succ] at d8
                clear d1 hb8
                cases hdec : decodeL lens body many with
                | none =>
                  rw [hdec] at hpost
                  obtain ⟨E, hE, rfl⟩ := hpost
                  have HD7 := Lib.hid (HD6.out.trans (by rw [hdec, litDec]) : R = none)
                  have hE' : (E != 0) = true := by simpa using hE
                  have HP9 := Lib.hid (HP8.out.setBad true)
                  have HG9 := Lib.hid (grown_trans HG8.out (grown_set w8 ⟨g, 1, none⟩ (.bool true)))
                  clear hdec HDec
                  go_wp2
                  go_ret
                  exact litPost_bad HD7.out HP9.out (by first | assumption | rfl | exact bk_cut _ _ _ | (rw [bk_cut]; assumption)) HG9.out
                | some out =>
                  rw [hdec] at hpost
                  obtain ⟨A8, c8, rfl, hown⟩ := hpost
                  have HD7 := Lib.hid (HD6.out.trans (by rw [hdec, litDec]) : R = some (out, l5))
                  have HP9 := Lib.hid (HP8.out.setBad false)
                  have HG9 := Lib.hid (grown_trans HG8.out (grown_set w8 ⟨g, 1, none⟩ (.bool false)))
                  have hne8 : bk A8 ≠ some g := Own.ne_blk hown HP8.out.blk (by decide)
                  have HO9 := Lib.hid (Own.kept hown (grown_set w8 ⟨g, 1, none⟩ (.bool false)) (.inr hne8))
                  have hcap := Own.cap hown
                  clear hdec HDec hown
                  go_wp2
                  go_ret
                  rw [HD7.out]
                  exact ⟨HG9.out, A8, c8, _, _, rfl, OwnB.bs HO9.out, .inr hne8, hcap.1, hcap.2, (by first | assumption | rfl | exact bk_cut _ _ _ | (rw [bk_cut]; assumption)), HP9.out⟩
          · have e1 : ((hb.toNat : Int) != 1) = true := by
              simp only [bne_iff_ne, ne_eq]
              exact fun e => h1 (UInt8.toNat_inj.1 (show hb.toNat = 1 by omega))
            have HD4 := Lib.hid (HD3.out.trans (if_pos h1))
            have HP4 := Lib.hid (HP3.out.setBad true)
            have HG4 := Lib.hid (grown_trans HG3.out (grown_set w3 ⟨g, 1, none⟩ (.bool true)))
            clear h1
            go_wp2
            go_ret
            exact litPost_bad HD4.out HP4.out (by first | assumption | rfl | exact bk_cut _ _ _ | (rw [bk_cut]; assumption)) HG4.out
end Go.Proofs.YtaelgbbnmjbjiaaGreat
namespace Go.Proofs.YtaelgbbnmjbjiaaGreat
open Go.RowKit
theorem getGo_le {l : List UInt8} : ∀ (n at_ : Nat) (sh0 : List Nat) {sh : List Nat} {k : Nat}, getGo l n at_ sh0 = some (sh, k) → at_ ≤ l.length → k ≤ l.length
  | 0, at_, sh0, sh, k, h, ha => by
    simp only [getGo, Option.some.injEq, Prod.mk.injEq] at h
    omega
  | n + 1, at_, sh0, sh, k, h, ha => by
    rw [getGo] at h
    split at h
    · cases h
    · rename_i x j e
      have := numGo_le _ _ _ _ _ e
      rw [List.length_drop] at this
      exact getGo_le n _ _ h (by omega)
theorem shareL_facts {l : List UInt8} {sh : List Nat} {lg k : Nat} (h : shareL l = some (sh, lg, k)) : k ≤ l.length ∧ sh.length ≤ 64 ∧ ∀ x ∈ sh, x ≤ 512 := by
  cases l with
  | nil => cases h
  | cons b r =>
    rw [shareL_cons] at h
    cases hn : numGo r 0 0 with
    | none => rw [hn] at h; cases h
    | some p =>
      obtain ⟨n, j⟩ := p
      rw [hn, getMid] at h
      have h1 := numGo_le _ _ _ _ _ hn
      split at h
      · cases h
      · rename_i hlg
        generalize hG : getGo (b :: r) n (1 + j) [] = G at h
        cases G with
        | none => cases h
        | some q =>
          obtain ⟨s2, a2⟩ := q
          rw [getEnd] at h
          split at h
          · rename_i hm
            simp only [Option.some.injEq, Prod.mk.injEq] at h
            obtain ⟨rfl, rfl, rfl⟩ := h
            obtain ⟨-, h2, -, h3, -⟩ := fmayL_facts hm
            refine ⟨getGo_le n _ _ hG (by rw [List.length_cons]; omega), h2, fun x hx => ?_⟩
            have := h3 x hx
            have h5 : 2 ^ b.toNat ≤ 2 ^ 9 := Nat.pow_le_pow_right (by omega) (by omega)
            omega
          · cases h
def strDec (rest : List UInt8) : Option (List Nat) → Option (List Nat × List UInt8)
  | none => none
  | some out => some (out, rest)
def strNum (l3 : List UInt8) (sh : List Nat) (n : Nat) : Option (Nat × Nat) → Option (List Nat × List UInt8)
  | none => none
  | some (bn, kk) => if (l3.drop kk).length < bn then none else strDec ((l3.drop kk).drop bn) (fdecodeL sh ((l3.drop kk).take bn) n)
def strShare (l : List UInt8) (n : Nat) : Option (List Nat × Nat × Nat) → Option (List Nat × List UInt8)
  | none => none
  | some (sh, lg, k) => if lg ≠ 6 ∨ 17 < sh.length then none else strNum (l.drop k) sh n (pkNum (l.drop k) ((l.drop k).length : Int))
def streamL (l : List UInt8) (n : Nat) : Option (List Nat × List UInt8) := strShare l n (shareL l)
def strPost (r : Option (List Nat × List UInt8)) (g : Nat) (A : Option Addr) (w : World) (e : Ending) (w' : World) : Prop :=
  w.grownBy w' (some g) ∧ match r with
  | none => (∃ A' n' c', e = .returned (.slice A' n' c')) ∧ ∃ l' A' c', bk A' = bk A ∧ IsPk w' g l' A' c' true
  | some (out, rest) => ∃ A1 c1 A' c', e = .returned (.slice A1 out.length c1) ∧ OwnN w' w.heap.size A1 out.length c1 out ∧ bk A' = bk A ∧ IsPk w' g rest A' c' false
theorem strPost_bad {r : Option (List Nat × List UInt8)} {g c' n1 c1 : Nat} {w w' : World} {l' : List UInt8} {A A' A1 : Option Addr} (h : r = none) (hp : IsPk w' g l' A' c' true) (hA : bk A' = bk A) (hg : w.grownBy w' (some g)) : strPost r g A w (.returned (.slice A1 n1 c1)) w' := by
  subst h; exact ⟨hg, ⟨_, _, _, rfl⟩, _, _, _, hA, hp⟩
set_option maxHeartbeats 400000 in
theorem pkStreamBad (g c : Nat) (l : List UInt8) (A : Option Addr) (n : Nat) (w : World) (h : IsPk w g l A c true) :
    Calls Tryz.prog 93 #[.pointer (some ⟨g, 0, none⟩), .int .i64 (n : Int)] w (strPost none g A w) := by
  have c1 := h.blk.cell 1
  simp only [List.getElem?_toArray, List.getElem?_cons_zero, List.getElem?_cons_succ] at c1
  have HP := Lib.hid h
  clear h
  go_enter Tryz.func93, Tryz.ntmps93
  go_wp2
  go_ret
  exact strPost_bad rfl HP.out (by first | assumption | rfl | exact bk_cut _ _ _ | (rw [bk_cut]; assumption)) (grown_refl _ _)
set_option maxHeartbeats 4000000 in
set_option maxRecDepth 10000 in
theorem pkStream (g c : Nat) (l : List UInt8) (A : Option Addr) (n : Nat) (w : World) (h : IsPk w g l A c false) (hl : l.length ≤ 140737488351232) (hn : n ≤ 65536) :
    Calls Tryz.prog 93 #[.pointer (some ⟨g, 0, none⟩), .int .i64 (n : Int)] w (strPost (streamL l n) g A w) := by
  obtain ⟨R, hR⟩ : ∃ R, streamL l n = R := ⟨_, rfl⟩
  rw [hR]
  have HD2 := Lib.hid (show R = strShare l n (shareL l) from hR.symm)
  have c1 := h.blk.cell 1
  have c0 := h.blk.cell 0
  simp only [List.getElem?_toArray, List.getElem?_cons_zero, List.getElem?_cons_succ] at c1 c0
  have HP := Lib.hid h
  have hcap := h.cap
  have HSh := Lib.hid (fseGetShare A l.length c l w rfl h.data hl hcap.1)
  have hglt := h.blk.lt
  clear h hR
  go_enter Tryz.func93, Tryz.ntmps93
  go_wp2_with fail
  refine HSh.out.mono ?_
  rintro e w3 ⟨hb3, hpost⟩
  have HG3 := Lib.hid (grown_below (row := some g) hb3)
  have HP3 := Lib.hid (HP.out.later hb3)
  clear hb3 HSh c1 c0
  have f1 := HP3.out.blk.frozen 1
  have d1 := HP3.out.blk.cell 1
  simp only [List.getElem?_toArray, List.getElem?_cons_zero, List.getElem?_cons_succ] at d1
  have HP4 := Lib.hid (HP3.out.setBad true)
  have HG4 := Lib.hid (grown_trans HG3.out (grown_set w3 ⟨g, 1, none⟩ (.bool true)))
  cases ht : shareL l with
  | none =>
    rw [ht] at hpost
    obtain ⟨E, hE, rfl⟩ := hpost
    have HD3 := Lib.hid (HD2.out.trans (by rw [ht]; rfl) : R = none)
    have hE' : (E != 0) = true := by simpa using hE
    clear ht
    go_wp2
    go_ret
    exact strPost_bad HD3.out HP4.out (by first | assumption | rfl | exact bk_cut _ _ _ | (rw [bk_cut]; assumption)) HG4.out
  | some p =>
    obtain ⟨sh, lg, k⟩ := p
    rw [ht] at hpost
    obtain ⟨A3, c3, rfl, hown⟩ := hpost
    obtain ⟨hk, hln, hlx⟩ := shareL_facts ht
    have HD3 := Lib.hid (HD2.out.trans (by rw [ht, strShare]))
    clear ht
    by_cases h6 : lg = 6
    · by_cases h17 : 17 < sh.length
      · have HD4 := Lib.hid (HD3.out.trans (if_pos (.inr h17)))
        have e6 : ((lg : Int) != 6) = false := by rw [h6]; rfl
        have hB : decide (17 < (sh.length : Int)) = true := decide_eq_true (by omega)
        clear h6
        go_wp2
        go_ret
        exact strPost_bad HD4.out HP4.out (by first | assumption | rfl | exact bk_cut _ _ _ | (rw [bk_cut]; assumption)) HG4.out
      · have HD4 := Lib.hid (HD3.out.trans (if_neg (by rintro (h | h); exact h h6; exact h17 h)))
        have e6 : ((lg : Int) != 6) = false := by rw [h6]; rfl
        clear h6 HP4 HG4
        have HP4 := Lib.hid (HP3.out.setBad false)
        have HG4 := Lib.hid (grown_trans HG3.out (grown_set w3 ⟨g, 1, none⟩ (.bool false)))
        have HL3 := Lib.hid (Own.kept hown (grown_set w3 ⟨g, 1, none⟩ (.bool false)) (.inr (Own.ne_blk hown HP3.out.blk (by decide))))
        have hB : decide (17 < (sh.length : Int)) = false := decide_eq_false (by omega)
        have q0 := HP4.out.blk.cell 0
        have g0 := HP4.out.blk.frozen 0
        simp only [List.getElem?_toArray, List.getElem?_cons_zero, List.getElem?_cons_succ] at q0
        clear hown
        go_wp2_with (first | (with_reducible refine wpList_slice_lo ?g ?s ?h elemB ?ho A l.length c k ?hs ?hh ?hk ?_; (case ho => exact rfl); (case g => exact rfl); (case hs => simp [Act.eval]); (case hh => simp [Act.eval]); (case hk => omega)) | fail)
        have HP5 := Lib.hid (HP3.out.cutD k hk)
        have HG5 := Lib.hid (grown_trans HG4.out (grown_set (w3.setCell ⟨g, 1, none⟩ (.bool false)) ⟨g, 0, none⟩ (.slice (cutA A c k) (l.length - k) (c - k))))
        have HL5 := Lib.hid (Own.kept HL3.out (grown_set (w3.setCell ⟨g, 1, none⟩ (.bool false)) ⟨g, 0, none⟩ (.slice (cutA A c k) (l.length - k) (c - k))) (.inr (Own.ne_blk HL3.out HP4.out.blk (by decide))))
        have hl3 : (l.drop k).length = l.length - k := List.length_drop
        have hAne : bk A3 ≠ some g := Own.ne_blk HL3.out HP4.out.blk (by decide)
        generalize ((w3.setCell ⟨g, 1, none⟩ (.bool false)).setCell ⟨g, 0, none⟩ (.slice (cutA A c k) (l.length - k) (c - k))) = w5 at *
        rw [← hl3]
        have hl3' : (l.drop k).length ≤ 140737488351232 := by omega
        generalize l.drop k = l3 at *
        have hA5 : bk (cutA A c k) = bk A := bk_cut _ _ _
        generalize cutA A c k = A5 at *
        generalize c - k = c5 at *
        clear q0 g0 hB d1 f1 HP4 HG4 HL3 HP3 HG3 HD3 HD2 hl3 hk HP
        cases hp : pkNum l3 (l3.length : Int) with
        | none =>
          have HD5 := Lib.hid (HD4.out.trans (by rw [hp, strNum]) : R = none)
          refine (pk_num_bad g c5 l3 A5 false _ w5 HP5.out (.inr hp)).mono ?_
          rintro e w6 ⟨rfl, hp6, hg6⟩
          have HT := Lib.hid (pk_take_bad g c5 l3 A5 true 0 w6 hp6 (.inl rfl))
          have HG6 := Lib.hid (grown_trans HG5.out hg6)
          clear hp6 hg6 hp
          go_wp2_with fail
          refine HT.out.mono ?_
          rintro e w7 ⟨rfl, hp7, hg7⟩
          have d1 := hp7.blk.cell 1
          simp only [List.getElem?_toArray, List.getElem?_cons_zero, List.getElem?_cons_succ] at d1
          have HP7 := Lib.hid hp7
          have HG7 := Lib.hid (grown_trans HG6.out hg7)
          clear hp7 hg7
          go_wp2
          go_ret
          exact strPost_bad HD5.out HP7.out (by first | assumption | rfl | exact bk_cut _ _ _ | (rw [bk_cut]; assumption)) HG7.out
        | some p =>
          obtain ⟨bn, kk⟩ := p
          obtain ⟨hkk, hbn, -, -⟩ := pkNum_facts hp
          have HD5 := Lib.hid (HD4.out.trans (by rw [hp, strNum]))
          refine (pk_num_any g c5 l3 A5 _ bn kk w5 HP5.out hp).mono ?_
          rintro e w6 ⟨rfl, hp6, hg6⟩
          have HP6 := Lib.hid hp6
          have HG6 := Lib.hid (grown_trans HG5.out hg6)
          have HL6 := Lib.hid (Own.kept HL5.out hg6 (.inr hAne))
          have hl4 : (l3.drop kk).length ≤ 140737488351232 := by rw [List.length_drop]; omega
          clear hp6 hg6 hp
          generalize l3.drop kk = l4 at *
          have hA6 : bk (cutA A5 c5 kk) = bk A := (bk_cut _ _ _).trans hA5
          generalize cutA A5 c5 kk = A6 at *
          generalize c5 - kk = c6 at *
          by_cases hbl : l4.length < bn
          · have HD6 := Lib.hid (HD5.out.trans (if_pos hbl))
            have HT := Lib.hid (pk_take_bad g c6 l4 A6 false bn w6 HP6.out (.inr (by omega)))
            clear hbl
            go_wp2_with fail
            refine HT.out.mono ?_
            rintro e w7 ⟨rfl, hp7, hg7⟩
            have d1 := hp7.blk.cell 1
            simp only [List.getElem?_toArray, List.getElem?_cons_zero, List.getElem?_cons_succ] at d1
            have HP7 := Lib.hid hp7
            have HG7 := Lib.hid (grown_trans HG6.out hg7)
            clear hp7 hg7
            go_wp2
            go_ret
            exact strPost_bad HD6.out HP7.out (by first | assumption | rfl | exact bk_cut _ _ _ | (rw [bk_cut]; assumption)) HG7.out
          · have HD6 := Lib.hid (HD5.out.trans (if_neg hbl))
            have HT := Lib.hid (pk_take_any g c6 l4 A6 bn w6 HP6.out (by omega))
            go_wp2_with fail
            refine HT.out.mono ?_
            rintro e w7 ⟨rfl, hp7, hg7⟩
            have d1 := hp7.blk.cell 1
            simp only [List.getElem?_toArray, List.getElem?_cons_zero, List.getElem?_cons_succ] at d1
            have HP7 := Lib.hid hp7
            have HG7 := Lib.hid (grown_trans HG6.out hg7)
            have HL7 := Lib.hid (Own.kept HL6.out hg7 (.inr hAne))
            have HB7 := Lib.hid (Rd.keptB (Bs.take bn HP6.out.data) hg7 (.inr HP6.out.ne) : Bs w7 A6 (l4.take bn))
            have hlb : (l4.take bn).length = bn := by rw [List.length_take]; omega
            have hg7lt := HP7.out.blk.lt
            have HDec := Lib.hid (fseDecode A3 sh.length c3 sh A6 bn c6 (l4.take bn) n w7 rfl (OwnN.ns HL7.out) (by omega) (fun x hx => by have := hlx x hx; omega) hlb HB7.out (by omega) (by omega))
            clear hp7 hg7 HT hlx hbl hlb
            generalize l4.take bn = body at *
            generalize l4.drop bn = l5 at *
            go_wp2_with fail
            refine HDec.out.mono ?_
            rintro e w8 ⟨hb8, hpost⟩
            have HP8 := Lib.hid (HP7.out.later hb8)
            have HG8 := Lib.hid (grown_trans HG7.out (grown_below hb8))
            have f8 := HP8.out.blk.frozen 1
            have d8 := HP8.out.blk.cell 1
            simp only [List.getElem?_toArray, List.getElem?_cons_zero, List.getElem?_cons_succ] at d8
            clear d1 hb8
            cases hdec : fdecodeL sh body n with
            | none =>
              rw [hdec] at hpost
              obtain ⟨E, hE, rfl⟩ := hpost
              have HD7 := Lib.hid (HD6.out.trans (by rw [hdec, strDec]) : R = none)
              have hE' : (E != 0) = true := by simpa using hE
              have HP9 := Lib.hid (HP8.out.setBad true)
              have HG9 := Lib.hid (grown_trans HG8.out (grown_set w8 ⟨g, 1, none⟩ (.bool true)))
              clear hdec HDec
              go_wp2
              go_ret
              exact strPost_bad HD7.out HP9.out (by first | assumption | rfl | exact bk_cut _ _ _ | (rw [bk_cut]; assumption)) HG9.out
            | some out =>
              rw [hdec] at hpost
              obtain ⟨A8, c8, rfl, hown⟩ := hpost
              have HD7 := Lib.hid (HD6.out.trans (by rw [hdec, strDec]) : R = some (out, l5))
              have HP9 := Lib.hid (HP8.out.setBad false)
              have HG9 := Lib.hid (grown_trans HG8.out (grown_set w8 ⟨g, 1, none⟩ (.bool false)))
              have hne8 : bk A8 ≠ some g := Own.ne_blk hown HP8.out.blk (by decide)
              have HO9 := Lib.hid (Own.kept hown (grown_set w8 ⟨g, 1, none⟩ (.bool false)) (.inr hne8))
              have hcap := Own.cap hown
              clear hdec HDec hown
              go_wp2
              go_ret
              rw [HD7.out]
              exact ⟨HG9.out, A8, c8, _, _, rfl, Own.mono HO9.out (HG7.out.size), (by first | assumption | rfl | exact bk_cut _ _ _ | (rw [bk_cut]; assumption)), HP9.out⟩
    · have HD4 := Lib.hid (HD3.out.trans (if_pos (.inl h6)))
      have e6 : ((lg : Int) != 6) = true := by simpa using (by omega : ¬ (lg : Int) = 6)
      clear h6
      go_wp2
      go_ret
      exact strPost_bad HD4.out HP4.out (by first | assumption | rfl | exact bk_cut _ _ _ | (rw [bk_cut]; assumption)) HG4.out
end Go.Proofs.YtaelgbbnmjbjiaaGreat
namespace Go.Proofs.YtaelgbbnmjbjiaaGreat
open Go.RowKit
theorem symOf_lt2 {l : List Nat} (h : sumL l = 64) (q : Nat) : symOf l q < l.length := by
  have h1 : (3 * q) % 64 < (symL l 0).length := by rw [symL_len, h]; omega
  have hm : symOf l q ∈ symL l 0 := by
    unfold symOf
    simp [List.getD, List.getElem?_eq_getElem h1]
  obtain ⟨-, h2, -⟩ := symL_mem l 0 _ hm
  omega
theorem fdGo_facts {sh : List Nat} {s : List UInt8} (h : sumL sh = 64) : ∀ (n q a : Nat) (out : List Nat) {r : List Nat × Nat × Nat}, fdGo sh s n q a out = some r → (∀ x ∈ out, x < sh.length) → r.1.length = out.length + n ∧ ∀ x ∈ r.1, x < sh.length
  | 0, q, a, out, r, hr, ho => by
    simp only [fdGo, Option.some.injEq] at hr
    subst hr
    exact ⟨rfl, ho⟩
  | n + 1, q, a, out, r, hr, ho => by
    rw [fdGo] at hr
    split at hr
    · cases hr
    · have := fdGo_facts h n _ _ _ hr (fun x hx => by
        rcases List.mem_append.1 hx with h1 | h1
        · exact ho x h1
        · rw [List.mem_singleton.1 h1]; exact symOf_lt2 h q)
      rw [List.length_append, List.length_singleton] at this
      exact ⟨by omega, this.2⟩
theorem fdecodeL_facts {sh : List Nat} {s : List UInt8} {n : Nat} {out : List Nat} (h : fdecodeL sh s n = some out) : out.length = n ∧ ∀ x ∈ out, x < sh.length := by
  unfold fdecodeL at h
  split at h
  · cases h
  · rename_i hb
    have hm : fmayL sh 6 = true := by
      cases e : fmayL sh 6 with
      | true => rfl
      | false => exact absurd (.inl e) hb
    have hs : sumL sh = 64 := (fmayL_facts hm).2.2.2.2
    generalize hG : fdGo sh s n (numAt s (fdBits s - 6) 6) (fdBits s - 6) [] = G at h
    cases G with
    | none => cases h
    | some r =>
      obtain ⟨o, q, a⟩ := r
      rw [fdEnd] at h
      split at h
      · cases h
      · injection h with h
        subst h
        have := fdGo_facts hs n _ _ _ hG (by simp)
        simpa using this
theorem streamL_facts {l : List UInt8} {n : Nat} {c : List Nat} {rest : List UInt8} (h : streamL l n = some (c, rest)) : c.length = n ∧ (∀ x ∈ c, x ≤ 16) ∧ rest.length ≤ l.length := by
  unfold streamL at h
  generalize shareL l = S at h
  cases S with
  | none => cases h
  | some p =>
    obtain ⟨sh, lg, k⟩ := p
    rw [strShare] at h
    split at h
    · cases h
    · rename_i hb
      generalize pkNum (l.drop k) ((l.drop k).length : Int) = N at h
      cases N with
      | none => cases h
      | some q =>
        obtain ⟨bn, kk⟩ := q
        rw [strNum] at h
        split at h
        · cases h
        · generalize hD : fdecodeL sh (((l.drop k).drop kk).take bn) n = D at h
          cases D with
          | none => cases h
          | some out =>
            simp only [strDec, Option.some.injEq, Prod.mk.injEq] at h
            obtain ⟨rfl, rfl⟩ := h
            obtain ⟨h1, h2⟩ := fdecodeL_facts hD
            refine ⟨h1, fun x hx => ?_, ?_⟩
            · have := h2 x hx
              omega
            · simp only [List.length_drop]; omega
def str3 (n : Nat) : Nat → List UInt8 → List (List Nat) → Option (List (List Nat) × List UInt8)
  | 0, l, cs => some (cs, l)
  | f + 1, l, cs => (streamL l n).bind fun p => str3 n f p.2 (cs ++ [p.1])
def numT (s : List UInt8) (a c : Nat) : Nat × Nat × Bool :=
  if c = 0 then (0, a, false) else if 8 * s.length < a + (c - 1) then (2 ^ (c - 1), a, true) else (2 ^ (c - 1) + numAt s a (c - 1), a + (c - 1), false)
def rd3 (s : List UInt8) : List Nat → Nat → Bool → List Nat → Nat × Bool × List Nat
  | [], a, b, vs => (a, b, vs)
  | c :: cs, a, b, vs => rd3 s cs (numT s a c).2.1 (b || (numT s a c).2.2) (vs ++ [(numT s a c).1])
def sqOf (vs : List Nat) : Sq := ⟨vs.getD 0 0, vs.getD 1 0 + 4, vs.getD 2 0 + 1⟩
def stepGo (s : List UInt8) (cs : Nat → List Nat) : Nat → Nat → Nat → Bool → List Sq → Nat × Bool × List Sq
  | 0, _, a, b, out => (a, b, out)
  | r + 1, i, a, b, out =>
    stepGo s cs r (i + 1) (rd3 s [(cs 0).getD i 0, (cs 1).getD i 0, (cs 2).getD i 0] a b []).1 (rd3 s [(cs 0).getD i 0, (cs 1).getD i 0, (cs 2).getD i 0] a b []).2.1
      (out ++ [sqOf (rd3 s [(cs 0).getD i 0, (cs 1).getD i 0, (cs 2).getD i 0] a b []).2.2])
def stepsEnd (s rest : List UInt8) (r : Nat × Bool × List Sq) : Option (List Sq × List UInt8) :=
  if r.2.1 = true ∨ numAt s r.1 ((8 * s.length - r.1) % 8) ≠ 0 ∨ 0 < 8 * s.length - (r.1 + (8 * s.length - r.1) % 8) then none else some (r.2.2, rest)
def stepsNum (many : Nat) (cs : List (List Nat)) (l : List UInt8) : Option (Nat × Nat) → Option (List Sq × List UInt8)
  | none => none
  | some (bn, kk) => if (l.drop kk).length < bn then none else stepsEnd ((l.drop kk).take bn) ((l.drop kk).drop bn) (stepGo ((l.drop kk).take bn) (fun k => cs.getD k []) many 0 0 false [])
def stepsCodes (many : Nat) : Option (List (List Nat) × List UInt8) → Option (List Sq × List UInt8)
  | none => none
  | some (cs, l) => stepsNum many cs l (pkNum l (l.length : Int))
def stepsMany (l : List UInt8) : Option (Nat × Nat) → Option (List Sq × List UInt8)
  | none => none
  | some (many, k) => if many = 0 then some ([], l.drop k) else stepsCodes many (str3 many 3 (l.drop k) [])
def stepsL (l : List UInt8) (n : Nat) : Option (List Sq × List UInt8) := stepsMany l (pkNum l ((n / 4 : Nat) : Int))
theorem numT_le {s : List UInt8} {a c : Nat} (hc : c ≤ 16) : (numT s a c).1 ≤ 65536 ∧ ((a ≤ 8 * s.length) → (numT s a c).2.1 ≤ 8 * s.length) := by
  unfold numT
  split
  · exact ⟨by simp, fun h => h⟩
  · have hp : 2 ^ (c - 1) ≤ 2 ^ 15 := Nat.pow_le_pow_right (by omega) (by omega)
    split
    · exact ⟨by simp only; omega, fun h => h⟩
    · have := numAt_lt s a (c - 1)
      exact ⟨by simp only; omega, fun h => by simp only; omega⟩
theorem rd3_le {s : List UInt8} : ∀ (cs : List Nat) (a : Nat) (b : Bool) (vs : List Nat), (∀ c ∈ cs, c ≤ 16) → (∀ v ∈ vs, v ≤ 65536) → (∀ v ∈ (rd3 s cs a b vs).2.2, v ≤ 65536) ∧ (a ≤ 8 * s.length → (rd3 s cs a b vs).1 ≤ 8 * s.length)
  | [], a, b, vs, _, hv => ⟨hv, fun h => h⟩
  | c :: cs, a, b, vs, hc, hv => by
    have h1 := numT_le (s := s) (a := a) (hc c (List.mem_cons_self ..))
    have := rd3_le (s := s) cs (numT s a c).2.1 (b || (numT s a c).2.2) (vs ++ [(numT s a c).1]) (fun x hx => hc x (List.mem_cons_of_mem _ hx)) (fun v hv' => by
      rcases List.mem_append.1 hv' with h | h
      · exact hv v h
      · rw [List.mem_singleton.1 h]; exact h1.1)
    exact ⟨this.1, fun h => this.2 (h1.2 h)⟩
def SqB (x : Sq) : Prop := x.lits ≤ 65536 ∧ x.len ≤ 65540 ∧ x.dist ≤ 65537
theorem getD_le {l : List Nat} {B k : Nat} (h : ∀ x ∈ l, x ≤ B) : l.getD k 0 ≤ B := by
  simp only [List.getD]
  cases e : l[k]? with
  | none => simp
  | some x => simpa using h x (List.mem_of_getElem? e)
theorem sqOf_le {vs : List Nat} (h : ∀ v ∈ vs, v ≤ 65536) : SqB (sqOf vs) := by
  refine ⟨getD_le h, ?_, ?_⟩
  · have := getD_le (k := 1) h; show _ + 4 ≤ _; omega
  · have := getD_le (k := 2) h; show _ + 1 ≤ _; omega
theorem stepGo_le {s : List UInt8} {cs : Nat → List Nat} (hc : ∀ k, ∀ x ∈ cs k, x ≤ 16) : ∀ (r i a : Nat) (b : Bool) (out : List Sq), (∀ x ∈ out, SqB x) → ∀ x ∈ (stepGo s cs r i a b out).2.2, SqB x
  | 0, i, a, b, out, ho => ho
  | r + 1, i, a, b, out, ho => by
    rw [stepGo]
    refine stepGo_le hc r _ _ _ _ (fun x hx => ?_)
    rcases List.mem_append.1 hx with h | h
    · exact ho x h
    · rw [List.mem_singleton.1 h]
      refine sqOf_le (rd3_le _ _ _ _ (fun c hcm => ?_) (by simp)).1
      simp only [List.mem_cons, List.not_mem_nil, or_false] at hcm
      rcases hcm with rfl | rfl | rfl
      · exact getD_le (hc 0)
      · exact getD_le (hc 1)
      · exact getD_le (hc 2)
theorem str3_le {n : Nat} : ∀ (f : Nat) (l : List UInt8) (cs : List (List Nat)) {r : List (List Nat) × List UInt8}, str3 n f l cs = some r → (∀ c ∈ cs, ∀ x ∈ c, x ≤ 16) → (∀ c ∈ r.1, ∀ x ∈ c, x ≤ 16)
  | 0, l, cs, r, h, hc => by
    simp only [str3, Option.some.injEq] at h
    subst h; exact hc
  | f + 1, l, cs, r, h, hc => by
    rw [str3] at h
    cases hs : streamL l n with
    | none => rw [hs] at h; cases h
    | some p =>
      obtain ⟨c, rest⟩ := p
      rw [hs] at h
      refine str3_le f _ _ h (fun c' hc' => ?_)
      rcases List.mem_append.1 hc' with h1 | h1
      · exact hc c' h1
      · rw [List.mem_singleton.1 h1]; exact (streamL_facts hs).2.1
theorem stepsL_le {l : List UInt8} {n : Nat} {sq : List Sq} {rest : List UInt8} (h : stepsL l n = some (sq, rest)) : ∀ x ∈ sq, SqB x := by
  unfold stepsL at h
  generalize pkNum l ((n / 4 : Nat) : Int) = N at h
  cases N with
  | none => cases h
  | some p =>
    obtain ⟨many, k⟩ := p
    rw [stepsMany] at h
    split at h
    · simp only [Option.some.injEq, Prod.mk.injEq] at h
      obtain ⟨rfl, -⟩ := h
      simp
    · generalize hS : str3 many 3 (l.drop k) [] = S at h
      cases S with
      | none => cases h
      | some q =>
        obtain ⟨cs, l2⟩ := q
        rw [stepsCodes] at h
        generalize pkNum l2 (l2.length : Int) = N2 at h
        cases N2 with
        | none => cases h
        | some p2 =>
          obtain ⟨bn, kk⟩ := p2
          rw [stepsNum] at h
          split at h
          · cases h
          · unfold stepsEnd at h
            split at h
            · cases h
            · simp only [Option.some.injEq, Prod.mk.injEq] at h
              obtain ⟨rfl, -⟩ := h
              have hcs := str3_le 3 _ _ hS (by simp)
              refine stepGo_le (fun k x hx => ?_) _ _ _ _ _ (by simp)
              simp only [List.getD] at hx
              cases e : cs[k]? with
              | none => rw [e] at hx; simp at hx
              | some c =>
                rw [e] at hx
                exact hcs c (List.mem_of_getElem? e) x (by simpa using hx)
theorem num_or {c low : Nat} (hc : c ≤ 16) (hlow : low < 2 ^ (c - 1)) : bits .or .i64 (wrap64 ((1 : Int) * 2 ^ (c - 1))) (low : Int) = ((2 ^ (c - 1) + low : Nat) : Int) := by
  have hp : 2 ^ (c - 1) ≤ 32768 := (Nat.pow_le_pow_right (by omega) (by omega) : 2 ^ (c - 1) ≤ 2 ^ 15)
  have h := or_shl (y := low) (x := 1) (j := c - 1) hlow (by omega)
  have e2 : (1 : Int) * 2 ^ (c - 1) = ((2 ^ (c - 1) : Nat) : Int) := by simp
  have e3 : ((1 : Nat) : Int) * 2 ^ (c - 1) = ((2 ^ (c - 1) : Nat) : Int) := by simp
  rw [e3] at h
  rw [e2]
  rw [Nat.one_mul] at h
  generalize 2 ^ (c - 1) = p at *
  have e1 : wrap64 (p : Int) = (p : Int) := wrap64_nat (by omega)
  rw [e1] at h ⊢
  rw [i64_or_nat _ _ (by omega) (by omega)] at h ⊢
  rw [Nat.or_comm, h]
  omega
theorem OwnN.cell_at {w : World} {base n c i : Nat} {A : Option Addr} {l : List Nat} (h : OwnN w base A n c l) (hi : i < n) : ∃ g, A = some ⟨g, 0, none⟩ ∧ w.cell? ⟨g, i, none⟩ = some (.int .i64 (l.getD i 0 : Nat)) := by
  have hlen := OwnN.length h
  obtain ⟨g, v, hA, -, -, hv, hc, -⟩ := Own.at_ h hi
  refine ⟨g, hA, ?_⟩
  rw [hc]
  rw [List.getElem?_map, List.getElem?_eq_getElem (by omega)] at hv
  simp only [List.getD, List.getElem?_eq_getElem (show i < l.length by omega), Option.getD_some]
  simpa [natv] using hv.symm
theorem Cells.ne_ownS {w : World} {base m c g n : Nat} {t : TypeId} {A : Option Addr} {l : List Sq} {F : Nat → Value} (h : Cells w g t n F) (ho : OwnS w base A m c l) (hne : 52 ≠ t) : bk A ≠ some g := by
  obtain ⟨cs, h1, -⟩ := h
  exact OwnS.ne_blk ho h1 hne
theorem grown_own {w w3 w4 : World} {r row : Option Nat} (h : w.grownBy w3 r) (h2 : w3.grownBy w4 row) (hr : ∀ k, row = some k → w.heap.size ≤ k) : w.grownBy w4 r :=
  ⟨h2.os.trans h.os, h2.tape.trans h.tape, h2.output.trans h.output, Nat.le_trans h.size h2.size, fun i hi hne => (h2.block i (Nat.lt_of_lt_of_le hi h.size) (fun e => by have := hr i e.symm; omega)).trans (h.block i hi hne)⟩
structure StpR (w wr : World) (s : List UInt8) (gr : Nat) (Ar : Option Addr) (cr g : Nat) (l : List UInt8) (A : Option Addr) (c cb : Nat) (F : Nat → Value) (many : Nat) (As : Nat → Option Addr) (cc : Nat → Nat) (cs : Nat → List Nat) (a : Nat) (b : Bool) (Ao : Option Addr) (no co : Nat) (out : List Sq) : Prop where
  row : IsRow wr 156 gr s a Ar cr
  pk : IsPk wr g l A c b
  codes : Cells wr cb 122 3 F
  rows : ∀ j, j < 3 → OwnN wr w.heap.size (As j) many (cc j) (cs j)
  own : OwnS wr w.heap.size Ao no co out
  grown : w.grownBy wr (some g)
  base : w.heap.size ≤ gr
  low : ∀ b, bk A = some b → b < w.heap.size
  rlow : ∀ b, bk Ar = some b → w.heap.size ≤ b
section
variable {w wr w' : World} {s : List UInt8} {gr : Nat} {Ar : Option Addr} {cr g : Nat} {l : List UInt8} {A : Option Addr} {c cb : Nat} {F : Nat → Value} {many : Nat} {As : Nat → Option Addr} {cc : Nat → Nat} {cs : Nat → List Nat} {a : Nat} {b : Bool} {Ao : Option Addr} {no co : Nat} {out : List Sq}
theorem StpR.later (h : StpR w wr s gr Ar cr g l A c cb F many As cc cs a b Ao no co out) (hb : Below wr.heap.size wr w') : StpR w w' s gr Ar cr g l A c cb F many As cc cs a b Ao no co out :=
  ⟨h.row.later hb, h.pk.later hb, h.codes.later hb, fun j hj => Own.later (h.rows j hj) hb, h.own.later hb, grown_own h.grown (grown_of_below hb) (by intro k hk; cases hk), h.base, h.low, h.rlow⟩
theorem StpR.take (h : StpR w wr s gr Ar cr g l A c cb F many As cc cs a b Ao no co out) {a' : Nat} (hr : IsRow w' 156 gr s a' Ar cr) (hg : wr.grownBy w' (some gr)) : StpR w w' s gr Ar cr g l A c cb F many As cc cs a' b Ao no co out := by
  refine ⟨hr, h.pk.kept hg (by simpa using Blk.ne h.row.blk h.pk.blk (by decide)) ?_, h.codes.kept hg (by simpa using fun e => (h.codes.ne_blk h.row.blk (by decide)) e.symm), fun j hj => Own.kept (h.rows j hj) hg (.inr (Own.ne_blk (h.rows j hj) h.row.blk (by decide))), h.own.kept hg (.inr (h.own.ne_blk h.row.blk (by decide))),
    grown_own h.grown hg (by intro k hk; cases hk; exact h.base), h.base, h.low, h.rlow⟩
  right
  intro e
  have := h.low gr e
  have := h.base
  omega
theorem StpR.setBad (h : StpR w wr s gr Ar cr g l A c cb F many As cc cs a b Ao no co out) (b' : Bool) : StpR w (wr.setCell ⟨g, 1, none⟩ (.bool b')) s gr Ar cr g l A c cb F many As cc cs a b' Ao no co out := by
  have hg := grown_set wr ⟨g, 1, none⟩ (.bool b')
  refine ⟨h.row.kept hg (by simpa using fun e => (Blk.ne h.row.blk h.pk.blk (by decide)) e.symm) (.inr (Own.ne_blk h.row.own h.pk.blk (by decide))), h.pk.setBad b', h.codes.kept hg (by simpa using fun e => (h.codes.ne_blk h.pk.blk (by decide)) e.symm), fun j hj => Own.kept (h.rows j hj) hg (.inr (Own.ne_blk (h.rows j hj) h.pk.blk (by decide))), h.own.kept hg (.inr (h.own.ne_blk h.pk.blk (by decide))), grown_trans h.grown hg, h.base, h.low, h.rlow⟩
theorem StpR.cell (h : StpR w wr s gr Ar cr g l A c cb F many As cc cs a b Ao no co out) {vb n : Nat} {G : Nat → Value} (hv : Cells wr vb 126 n G) (hvb : w.heap.size ≤ vb) (k : Nat) (v : Value) : StpR w (wr.setCell ⟨vb, k, none⟩ v) s gr Ar cr g l A c cb F many As cc cs a b Ao no co out := by
  have hg := grown_set wr ⟨vb, k, none⟩ v
  refine ⟨h.row.kept hg (by simpa using fun e => (hv.ne_blk h.row.blk (by decide)) e) (.inr (hv.ne_own h.row.own (by decide))), h.pk.kept hg (by simpa using fun e => (hv.ne_blk h.pk.blk (by decide)) e) ?_, h.codes.kept hg ?_, fun j hj => Own.kept (h.rows j hj) hg (.inr (hv.ne_own (h.rows j hj) (by decide))), h.own.kept hg (.inr (hv.ne_ownS h.own (by decide))),
    grown_own h.grown hg (by intro k hk; cases hk; exact hvb), h.base, h.low, h.rlow⟩
  · right
    intro e
    have := h.low vb e
    omega
  · obtain ⟨x, hx, -⟩ := h.codes
    simpa using fun e => (hv.ne_blk hx (by decide)) e
theorem StpR.append (h : StpR w wr s gr Ar cr g l A c cb F many As cc cs a b Ao no co out) {A' : Option Addr} {n' c' : Nat} {out' : List Sq} (ho : OwnS w' w.heap.size A' n' c' out') (hg : wr.grownBy w' (bk Ao)) : StpR w w' s gr Ar cr g l A c cb F many As cc cs a b A' n' c' out' := by
  refine ⟨h.row.kept hg (h.own.ne_blk h.row.blk (by decide)) ?_, h.pk.kept hg (h.own.ne_blk h.pk.blk (by decide)) ?_, h.codes.kept hg (h.codes.ne_ownS h.own (by decide)), fun j hj => Own.kept (h.rows j hj) hg (sep_symm (h.own.ne_own (h.rows j hj) (by decide))), ho, grown_own h.grown hg (fun k hk => (h.own.lt hk).1), h.base, h.low, h.rlow⟩
  · exact sep_symm (h.own.ne_own h.row.own (by decide))
  · cases hA : bk A with
    | none => exact .inl rfl
    | some q =>
      right
      intro e
      have h1 := h.low q hA
      have h2 := (h.own.lt e.symm).1
      omega
end
theorem info_Seq : (Tryz.prog.info? 52).map (fun i => (i.zero, i.size, i.bytes)) = some (some (.agg #[.int .i64 0, .int .i64 0, .int .i64 0]), 3, 24) := by kernel_rfl
theorem wpList_append_sq {w : World} {ops : Array Oper} {rest : List Oper} {o : Oper} {a : Act} {Q : Exit → Act → World → Prop} (hgd : o.guard = none) (s x : Operand)
    (ho : o.op = .call { callee := .builtin .append, args := #[s, x], argTypes := #[32, 32] })
    (base : Nat) (A : Option Addr) (n c : Nat) (l : List Sq) (w0 : World) (u : Sq) (hw : w = w0.alloc (.cells #[natv u.lits, natv u.len, natv u.dist] 52)) (hs : a.eval s = .slice A n c) (hown : OwnS w0 base A n c l)
    (hx : a.eval x = .slice (some ⟨w0.heap.size, 0, none⟩) 1 1) (hb : n ≤ 1000000000) (hbase : base ≤ w0.heap.size)
    (h : ∀ A' c' w', OwnS w' base A' (n + 1) c' (l ++ [u]) → w0.grownBy w' (bk A) → wpList Tryz.prog ops Q rest (a.put o.dst (.slice A' (n + 1) c')) w') : wpList Tryz.prog ops Q (o :: rest) a w := by
  subst hw
  refine wpList_plain hgd fun K hK => ?_
  obtain ⟨i, hi, hz0, hz1, hz2⟩ := info_parts info_Seq
  have hg0 : w0.grownBy (w0.alloc (.cells #[natv u.lits, natv u.len, natv u.dist] 52)) none := World.grownBy_alloc w0 _ none
  have hnews : ∀ j v, (sqC u)[j]? = some v → (w0.alloc (.cells #[natv u.lits, natv u.len, natv u.dist] 52)).cell? ((⟨w0.heap.size, 0, none⟩ : Addr).add j) = some v := by
    intro j v hv
    rw [add_none, Nat.zero_add, World.cell?_alloc_at _ _ _ _ rfl]
    simpa [sqC] using hv
  obtain ⟨v', w', hrun, h2, h3, -, -⟩ := run_append_own_at (P := Tryz.prog) (w0.alloc (.cells #[natv u.lits, natv u.len, natv u.dist] 52)) base 32 o.type 52 i _ 3 24 Tryz.underlying32 hi hz0 hz1 hz2 rfl (by omega) (.slice A n c) n (flatS l) (hown.later ((Below.refl _ _).alloc (Nat.le_refl _) _)) ⟨w0.heap.size, 0, none⟩ 1 1 (sqC u) rfl hnews
    (by intro v hv; simp only [sqC, List.mem_cons, List.not_mem_nil, or_false] at hv; rcases hv with rfl | rfl | rfl <;> rfl) (by unfold maxLen; omega) (by omega) (by simp; omega)
  have hform : ∃ A' c', v' = .slice A' (n + 1) c' := by
    rcases h2.2 with ⟨rfl, h0⟩ | ⟨g, cap, cur, rfl, -⟩
    · exact ⟨none, 0, by rw [h0]⟩
    · exact ⟨_, cap, rfl⟩
  obtain ⟨A', c', rfl⟩ := hform
  rw [ownBlock_eq] at h3
  have e : flatS l ++ sqC u = flatS (l ++ [u]) := by simp [flatS]
  rw [e] at h2
  unfold Oper.wp execOp
  simp only [ho, resolve, invoke, builtin, Sem.run_bind, Sem.run_pure, Result.andThen_ok, List.map_toArray, List.map_cons, List.map_nil, hs, hx, hrun]
  refine hK _ _ (h A' c' w' h2 ⟨h3.os, h3.tape, h3.output, Nat.le_trans hg0.size h3.size, fun k hk hne => (h3.block k (by simp; omega) hne).trans (hg0.block k hk (by simp))⟩)
theorem num_or2 {y low : Nat} (hy : y ≤ 15) (hlow : low < 2 ^ y) : bits .or .i64 (wrap64 ((2 : Int) ^ y)) (low : Int) = ((2 ^ y + low : Nat) : Int) := by
  have h := num_or (c := y + 1) (low := low) (by omega) (by simpa using hlow)
  rw [Nat.add_sub_cancel, Int.one_mul] at h
  exact h
theorem num_or0 {y : Nat} (hy : y ≤ 15) : bits .or .i64 (wrap64 ((2 : Int) ^ y)) 0 = ((2 ^ y : Nat) : Int) := by
  have h := num_or2 (low := 0) hy (Nat.pos_of_ne_zero (by simp))
  rw [Nat.add_zero] at h
  exact h
theorem vs_ext (vs : List Nat) (z j : Nat) : (if j = vs.length then Value.int .i64 (z : Int) else natv (vs.getD j 0)) = natv ((vs ++ [z]).getD j 0) := by
  by_cases e : j = vs.length
  · subst e
    rw [if_pos rfl]
    simp [natv]
  · rw [if_neg e]
    simp only [List.getD]
    by_cases h : j < vs.length
    · rw [List.getElem?_append_left h]
    · rw [List.getElem?_eq_none (by omega), List.getElem?_eq_none (by simp; omega)]
end Go.Proofs.YtaelgbbnmjbjiaaGreat
