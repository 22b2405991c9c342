/-
  Parts of the proofs, in the order in which they build: X1, Y13, M6, C1, Y14, V1, Y5, Y16, V3a, V3b, V3c, G5, V2a, V2b.
-/
import Derived.Test.YtaelgbbnmjbjiaaGreatKa
import Derived.Test.YtaelgbbnmjbjiaaGreatKb
import Derived.Test.YtaelgbbnmjbjiaaGreatKc
import Derived.Test.YtaelgbbnmjbjiaaGreatKe
import Derived.Test.YtaelgbbnmjbjiaaGreatKf
import Derived.Lib.ItoaNum
import Derived.DeepKeys3
import Derived.Maps.OwnSet
import Derived.Maps.AppendAt
import Derived.Deep.MidRow
set_option linter.unusedSimpArgs false
set_option linter.unusedVariables false
namespace Go.Proofs.YtaelgbbnmjbjiaaGreat
open Go.RowKit
def leN : List UInt8 → Nat
  | [] => 0
  | b :: r => b.toNat + 256 * leN r
theorem pow8 (k : Nat) : 2 ^ (8 * (k + 1)) = 256 * 2 ^ (8 * k) := by
  rw [show 8 * (k + 1) = 8 * k + 8 by omega, Nat.pow_add]; omega
theorem leN_append : ∀ (a b : List UInt8), leN (a ++ b) = leN a + 2 ^ (8 * a.length) * leN b
  | [], b => by simp [leN]
  | x :: a, b => by
    rw [List.cons_append, leN, leN_append a b, leN, List.length_cons, pow8, Nat.mul_add, Nat.mul_assoc]; omega
theorem leN_lt : ∀ (a : List UInt8), leN a < 2 ^ (8 * a.length)
  | [] => by simp [leN]
  | x :: a => by
    have h := leN_lt a
    have hx := x.toNat_lt
    rw [leN, List.length_cons, pow8]
    generalize 2 ^ (8 * a.length) = p at *
    omega
theorem bitAt_leN : ∀ (l : List UInt8) (i : Nat), bitAt l i = leN l / 2 ^ i % 2
  | [], i => by simp [bitAt, leN]
  | b :: r, i => by
    by_cases h : i < 8
    · unfold bitAt leN
      rw [Nat.div_eq_of_lt h, Nat.mod_eq_of_lt h, List.getD_cons_zero]
      obtain ⟨j, hj⟩ : ∃ j, 8 = i + (j + 1) := ⟨7 - i, by omega⟩
      have e : 256 * leN r = 2 ^ i * (2 * (2 ^ j * leN r)) := by
        rw [show (256 : Nat) = 2 ^ 8 from rfl, hj, Nat.pow_add, Nat.pow_succ]
        simp only [Nat.mul_assoc, Nat.mul_comm, Nat.mul_left_comm]
      rw [e, Nat.add_mul_div_left _ _ (Nat.two_pow_pos i), Nat.add_mul_mod_self_left]
    · obtain ⟨j, rfl⟩ : ∃ j, i = j + 8 := ⟨i - 8, by omega⟩
      have h1 := bitAt_leN r j
      have e1 : bitAt (b :: r) (j + 8) = bitAt r j := by
        unfold bitAt
        rw [show (j + 8) / 8 = j / 8 + 1 by omega, show (j + 8) % 8 = j % 8 by omega, List.getD_cons_succ]
      rw [e1, h1, leN, Nat.pow_add, show 2 ^ j * 2 ^ 8 = 256 * 2 ^ j by rw [Nat.mul_comm], ← Nat.div_div_eq_div_mul]
      have hb := b.toNat_lt
      rw [show (b.toNat + 256 * leN r) / 256 = leN r by omega]
theorem numAt_leN (l : List UInt8) (a : Nat) : ∀ n, numAt l a n = leN l / 2 ^ a % 2 ^ n
  | 0 => by rw [numAt, Nat.pow_zero, Nat.mod_one]
  | n + 1 => by
    rw [numAt, numAt_leN l a n, bitAt_leN, Nat.pow_add, ← Nat.div_div_eq_div_mul, Nat.pow_succ, Nat.mod_mul]
    rw [Nat.mul_comm (2 ^ n)]
def valS (S : WSt) : Nat := leN S.1 + 2 ^ (8 * S.1.length) * S.2.1
theorem u8_ofNat (n : Nat) : (UInt8.ofNat n).toNat = n % 256 := UInt8.toNat_ofNat' ..
theorem valS_flush : ∀ (f : Nat) (bs : List UInt8) (acc n : Nat), valS (flushW f bs acc n) = leN bs + 2 ^ (8 * bs.length) * acc
  | 0, bs, acc, n => rfl
  | f + 1, bs, acc, n => by
    rw [flushW]
    by_cases h : 8 ≤ n
    · rw [if_pos h, valS_flush f, leN_append, List.length_append, List.length_singleton, pow8]
      have e : leN [UInt8.ofNat acc] = acc % 256 := by show (UInt8.ofNat acc).toNat + 256 * 0 = _; rw [u8_ofNat]; omega
      rw [e]
      have e2 : 256 * 2 ^ (8 * bs.length) * (acc / 256) = 2 ^ (8 * bs.length) * (256 * (acc / 256)) := by rw [Nat.mul_comm 256, Nat.mul_assoc]
      rw [e2, Nat.add_assoc, ← Nat.mul_add, Nat.mod_add_div]
    · rw [if_neg h]; rfl
theorem valS_put (S : WSt) (k v : Nat) : valS (putS S k v) = valS S + 2 ^ wLen S * v := by
  unfold putS
  rw [valS_flush]
  unfold valS wLen
  rw [Nat.pow_add, Nat.mul_add, Nat.mul_comm v, Nat.mul_assoc]; omega
theorem leN_bytes {S : WSt} (h : wOk S) : leN (bytesS S) = valS S := by
  obtain ⟨h1, h2⟩ := h
  unfold bytesS bytesW valS
  by_cases h0 : 0 < S.2.2
  · rw [if_pos h0, leN_append]
    have h3 : S.2.1 < 256 := by
      have : 2 ^ S.2.2 ≤ 2 ^ 8 := Nat.pow_le_pow_right (by omega) (by omega)
      omega
    have e : leN [UInt8.ofNat S.2.1] = S.2.1 := by show (UInt8.ofNat S.2.1).toNat + 256 * 0 = _; rw [u8_ofNat]; omega
    rw [e]
  · rw [if_neg h0]
    have e0 : S.2.2 = 0 := by omega
    rw [e0, Nat.pow_zero] at h2
    have e1 : S.2.1 = 0 := by omega
    rw [e1, Nat.mul_zero, Nat.add_zero]
theorem bytesS_length {S : WSt} (h : wOk S) : (bytesS S).length = (wLen S + 7) / 8 := by
  obtain ⟨h1, -⟩ := h
  unfold bytesS bytesW wLen
  split
  · rw [List.length_append, List.length_singleton]; omega
  · omega
def pvalP : List (Nat × Nat) → Nat
  | [] => 0
  | p :: r => p.2 + 2 ^ p.1 * pvalP r
theorem valS_puts : ∀ (l : List (Nat × Nat)) (S : WSt), wOk S → putsOk l → valS (putsS S l) = valS S + 2 ^ wLen S * pvalP l
  | [], S, _, _ => by rw [pvalP, Nat.mul_zero, Nat.add_zero]; rfl
  | p :: l, S, h, hl => by
    obtain ⟨h1, h2⟩ := putS_facts h (hl p (List.mem_cons_self)).1 (hl p (List.mem_cons_self)).2
    rw [putsS_cons, valS_puts l _ h1 (fun q hq => hl q (List.mem_cons_of_mem _ hq)), valS_put, h2, pvalP, Nat.pow_add, Nat.mul_add, Nat.mul_assoc]; omega
theorem pvalP_append : ∀ (a b : List (Nat × Nat)), pvalP (a ++ b) = pvalP a + 2 ^ putsLen a * pvalP b
  | [], b => by show pvalP b = 0 + 2 ^ 0 * pvalP b; omega
  | p :: a, b => by
    rw [List.cons_append, pvalP, pvalP_append a b, pvalP, putsLen_cons, Nat.pow_add, Nat.mul_add, Nat.mul_assoc]; omega
theorem pvalP_lt : ∀ (l : List (Nat × Nat)), putsOk l → pvalP l < 2 ^ putsLen l
  | [], _ => by show 0 < 2 ^ 0; decide
  | p :: l, h => by
    have h1 := pvalP_lt l (fun q hq => h q (List.mem_cons_of_mem _ hq))
    have h2 := (h p (List.mem_cons_self)).2
    rw [pvalP, putsLen_cons, Nat.pow_add]
    have h3 : 2 ^ p.1 * (pvalP l + 1) ≤ 2 ^ p.1 * 2 ^ putsLen l := Nat.mul_le_mul_left _ (by omega)
    rw [Nat.mul_add] at h3
    omega
theorem leN_puts {l : List (Nat × Nat)} (h : putsOk l) : leN (bytesS (putsS w0 l)) = pvalP l := by
  rw [leN_bytes (putsS_facts l w0 w0_ok h).1, valS_puts l w0 w0_ok h]
  show 0 + 2 ^ (8 * 0) * 0 + 2 ^ (8 * 0 + 0) * pvalP l = _
  omega
theorem puts_length {l : List (Nat × Nat)} (h : putsOk l) : (bytesS (putsS w0 l)).length = (putsLen l + 7) / 8 := by
  obtain ⟨h1, h2⟩ := putsS_facts l w0 w0_ok h
  rw [bytesS_length h1, h2]
  show (8 * 0 + 0 + putsLen l + 7) / 8 = _
  rw [show 8 * 0 + 0 + putsLen l + 7 = putsLen l + 7 by omega]
theorem putsOk_left {a b : List (Nat × Nat)} (h : putsOk (a ++ b)) : putsOk a := fun p hp => h p (List.mem_append_left _ hp)
theorem putsOk_right {a b : List (Nat × Nat)} (h : putsOk (a ++ b)) : putsOk b := fun p hp => h p (List.mem_append_right _ hp)
theorem num_puts {a b : List (Nat × Nat)} {k v : Nat} (tail : List UInt8) (h : putsOk (a ++ (k, v) :: b)) : numAt (bytesS (putsS w0 (a ++ (k, v) :: b)) ++ tail) (putsLen a) k = v := by
  have h1 := pvalP_lt a (putsOk_left h)
  have h2 := (putsOk_right h (k, v) (List.mem_cons_self)).2
  have hlen := puts_length h
  rw [numAt_leN, leN_append, leN_puts h, hlen, pvalP_append, pvalP]
  have hle : putsLen a + k ≤ 8 * ((putsLen (a ++ (k, v) :: b) + 7) / 8) := by
    rw [putsLen_append, putsLen_cons]; show putsLen a + k ≤ 8 * ((putsLen a + (k + putsLen b) + 7) / 8); omega
  obtain ⟨j, hj⟩ : ∃ j, 8 * ((putsLen (a ++ (k, v) :: b) + 7) / 8) = putsLen a + k + j := ⟨_, (Nat.add_sub_of_le hle).symm⟩
  rw [hj]
  show (pvalP a + 2 ^ putsLen a * (v + 2 ^ k * pvalP b) + 2 ^ (putsLen a + k + j) * leN tail) / 2 ^ putsLen a % 2 ^ k = v
  rw [Nat.pow_add, Nat.pow_add, Nat.mul_assoc, Nat.mul_assoc, Nat.add_assoc, ← Nat.mul_add, Nat.add_mul_div_left _ _ (Nat.two_pow_pos _), Nat.div_eq_of_lt h1, Nat.zero_add, Nat.add_assoc, ← Nat.mul_add, Nat.add_mul_mod_self_left]
  exact Nat.mod_eq_of_lt h2
theorem bit_puts {a b : List (Nat × Nat)} {v : Nat} (tail : List UInt8) (h : putsOk (a ++ (1, v) :: b)) : bitAt (bytesS (putsS w0 (a ++ (1, v) :: b)) ++ tail) (putsLen a) = v := by
  have := num_puts tail h
  rw [num1] at this
  exact this
theorem rest_puts {l : List (Nat × Nat)} (h : putsOk l) (k : Nat) : numAt (bytesS (putsS w0 l)) (putsLen l) k = 0 := by
  rw [numAt_leN, leN_puts h, Nat.div_eq_of_lt (pvalP_lt l h), Nat.zero_mod]
end Go.Proofs.YtaelgbbnmjbjiaaGreat
namespace Go.Proofs.YtaelgbbnmjbjiaaGreat
open Go.RowKit
def valR : List Nat → Nat
  | [] => 0
  | b :: r => b + 2 * valR r
theorem valR_append : ∀ (a b : List Nat), valR (a ++ b) = valR a + 2 ^ a.length * valR b
  | [], b => by simp [valR]
  | x :: a, b => by
    rw [List.cons_append, valR, valR_append a b, valR, List.length_cons, Nat.pow_succ, Nat.mul_add, Nat.mul_comm (2 ^ a.length) 2, Nat.mul_assoc]; omega
def Bits01 (l : List Nat) : Prop := ∀ x ∈ l, x ≤ 1
theorem valR_lt : ∀ {l : List Nat}, Bits01 l → valR l < 2 ^ l.length
  | [], _ => by simp [valR]
  | x :: a, h => by
    have h1 := valR_lt (l := a) (fun y hy => h y (List.mem_cons_of_mem _ hy))
    have h2 := h x List.mem_cons_self
    rw [valR, List.length_cons, Nat.pow_succ]; omega
def bitR : Nat → Nat → List Nat
  | 0, _ => []
  | k + 1, v => v % 2 :: bitR k (v / 2)
theorem bitR_len : ∀ (k v : Nat), (bitR k v).length = k
  | 0, _ => rfl
  | k + 1, v => by rw [bitR, List.length_cons, bitR_len]
theorem bitR_01 : ∀ (k v : Nat), Bits01 (bitR k v)
  | 0, _ => fun x h => by cases h
  | k + 1, v => fun x h => by
    rcases List.mem_cons.1 h with rfl | h
    · omega
    · exact bitR_01 k _ x h
theorem valR_bitR : ∀ (k v : Nat), v < 2 ^ k → valR (bitR k v) = v
  | 0, v, h => by rw [Nat.pow_zero] at h; show 0 = v; omega
  | k + 1, v, h => by
    rw [Nat.pow_succ] at h
    rw [bitR, valR, valR_bitR k (v / 2) (by omega)]; omega
theorem bitR_snoc : ∀ (k v : Nat), bitR (k + 1) v = bitR k v ++ [v / 2 ^ k % 2]
  | 0, v => by simp [bitR]
  | k + 1, v => by
    rw [bitR, bitR_snoc k (v / 2), Nat.div_div_eq_div_mul, ← Nat.pow_succ', bitR]; rfl
def chunkR (row : List Nat) (j : Nat) : UInt8 := UInt8.ofNat (valR ((row.drop (8 * j)).take 8))
def packR (row : List Nat) : List UInt8 := (List.range ((row.length + 7) / 8)).map (chunkR row)
theorem packR_len (row : List Nat) : (packR row).length = (row.length + 7) / 8 := by unfold packR; simp
theorem leN_chunks {row : List Nat} (h : Bits01 row) : ∀ m, m ≤ (row.length + 7) / 8 → leN ((List.range m).map (chunkR row)) = valR (row.take (8 * m))
  | 0, _ => rfl
  | m + 1, hm => by
    have h8 : 8 * m ≤ row.length := by omega
    have hb : Bits01 ((row.drop (8 * m)).take 8) := fun x hx => h x (List.mem_of_mem_drop (List.mem_of_mem_take hx))
    have h1 := valR_lt hb
    have h2 : ((row.drop (8 * m)).take 8).length ≤ 8 := by rw [List.length_take]; omega
    have h3 : 2 ^ ((row.drop (8 * m)).take 8).length ≤ 2 ^ 8 := Nat.pow_le_pow_right (by omega) h2
    have h4 : (UInt8.ofNat (valR ((row.drop (8 * m)).take 8))).toNat = valR ((row.drop (8 * m)).take 8) := by
      rw [u8_ofNat]; exact Nat.mod_eq_of_lt (by omega)
    rw [List.range_succ, List.map_append, leN_append, leN_chunks h m (by omega), List.length_map, List.length_range, Nat.mul_succ, List.take_add, valR_append, List.length_take, Nat.min_eq_left h8]
    show _ + _ * ((chunkR row m).toNat + 256 * 0) = _
    unfold chunkR
    rw [h4, Nat.mul_zero, Nat.add_zero]
theorem leN_pack {row : List Nat} (h : Bits01 row) : leN (packR row) = valR row := by
  unfold packR
  rw [leN_chunks h _ (Nat.le_refl _), List.take_of_length_le (by omega)]
theorem leN_inj : ∀ {a b : List UInt8}, a.length = b.length → leN a = leN b → a = b
  | [], [], _, _ => rfl
  | [], _ :: _, h, _ => by simp at h
  | _ :: _, [], h, _ => by simp at h
  | x :: a, y :: b, h, e => by
    have hx := x.toNat_lt
    have hy := y.toNat_lt
    rw [leN, leN] at e
    have e1 : x.toNat = y.toNat := by omega
    have e2 : leN a = leN b := by omega
    rw [UInt8.toNat_inj.1 e1, leN_inj (by simpa using h) e2]
structure RowS (row : List Nat) (S : WSt) : Prop where
  ok : wOk S
  bits : Bits01 row
  len : row.length = wLen S
  val : valR row = valS S
theorem RowS.nil : RowS [] w0 := ⟨w0_ok, (fun x h => by cases h), rfl, rfl⟩
theorem RowS.pack {row : List Nat} {S : WSt} (h : RowS row S) : packR row = bytesS S := by
  refine leN_inj ?_ ?_
  · rw [packR_len, bytesS_length h.ok, h.len]
  · rw [leN_pack h.bits, leN_bytes h.ok, h.val]
theorem Bits01.append {a b : List Nat} (h : Bits01 a) (h' : Bits01 b) : Bits01 (a ++ b) := fun x hx => by
  rcases List.mem_append.1 hx with hx | hx
  · exact h x hx
  · exact h' x hx
theorem RowS.put {row : List Nat} {S : WSt} (h : RowS row S) {k v : Nat} (hk : k ≤ 32) (hv : v < 2 ^ k) : RowS (row ++ bitR k v) (putS S k v) := by
  obtain ⟨h1, h2⟩ := putS_facts h.ok hk hv
  refine ⟨h1, h.bits.append (bitR_01 k v), ?_, ?_⟩
  · rw [List.length_append, bitR_len, h2, h.len]
  · rw [valR_append, valR_bitR k v hv, valS_put, h.val, h.len]
def rowP (l : List (Nat × Nat)) : List Nat := l.flatMap (fun p => bitR p.1 p.2)
theorem RowS.puts : ∀ {l : List (Nat × Nat)} {row : List Nat} {S : WSt}, RowS row S → putsOk l → RowS (row ++ rowP l) (putsS S l)
  | [], row, S, h, _ => by
    have e : row ++ rowP [] = row := by unfold rowP; simp
    rw [e]; exact h
  | p :: l, row, S, h, hl => by
    have h1 := RowS.puts (h.put (hl p List.mem_cons_self).1 (hl p List.mem_cons_self).2) (fun q hq => hl q (List.mem_cons_of_mem _ hq))
    have e : row ++ rowP (p :: l) = row ++ bitR p.1 p.2 ++ rowP l := by unfold rowP; simp
    rw [e, putsS_cons]; exact h1
theorem pack_puts {l : List (Nat × Nat)} (h : putsOk l) : packR (rowP l) = bytesS (putsS w0 l) := by
  have h1 := (RowS.nil.puts h).pack
  rwa [List.nil_append] at h1
theorem marked_put (S : WSt) : markedW S.1 S.2.1 S.2.2 = bytesS (putS S 1 1) := rfl
end Go.Proofs.YtaelgbbnmjbjiaaGreat
namespace Go.Proofs.YtaelgbbnmjbjiaaGreat
open Go.RowKit
def litsL : List UInt8 → List Sq → List UInt8
  | rest, [] => rest
  | rest, x :: r => rest.take x.lits ++ litsL (rest.drop (x.lits + x.len)) r
def fitsN : Nat → List Sq → Prop
  | _, [] => True
  | n, x :: r => x.lits + x.len ≤ n ∧ fitsN (n - (x.lits + x.len)) r
theorem FitL.fits {l : List UInt8} : ∀ {L : List Sq} {p n : Nat}, FitL l p L → p + n = l.length → fitsN n L
  | [], _, _, _, _ => trivial
  | x :: r, p, n, h, e => ⟨by have := h.2.2.1; omega, FitL.fits (p := p + x.lits + x.len) h.2.2.2.2.2.2 (by have := h.2.2.1; omega)⟩
theorem drop_step {α : Type} {l : List α} {k : Nat} {x : α} (h : l[k]? = some x) : l.drop k = x :: l.drop (k + 1) := by
  have hk : k < l.length := by
    rcases Nat.lt_or_ge k l.length with h' | h'
    · exact h'
    · rw [List.getElem?_eq_none h'] at h; cases h
  rw [List.drop_eq_getElem_cons hk]
  rw [List.getElem?_eq_getElem hk] at h
  injection h with h
  rw [h]
theorem litsL_len : ∀ (L : List Sq) (rest : List UInt8), (litsL rest L).length ≤ rest.length
  | [], _ => Nat.le_refl _
  | x :: r, rest => by
    have := litsL_len r (rest.drop (x.lits + x.len))
    rw [List.length_drop] at this
    rw [litsL, List.length_append, List.length_take]
    omega
set_option maxHeartbeats 8000000 in
set_option maxRecDepth 10000 in
theorem matchLits (A : Option Addr) (n c : Nat) (data : List UInt8) (A2 : Option Addr) (n2 c2 : Nat) (l : List Sq) (w : World) (hl : data.length = n) (hr : Bs w A data) (hn : n ≤ 65536) (hc : n ≤ c) (hc2 : c ≤ 9223372036854775807)
    (hl2 : l.length = n2) (hr2 : Ss w A2 l) (hn2 : n2 ≤ 1000000000) (hfit : fitsN n l) :
    Calls Tryz.prog 12 #[.slice A n c, .slice A2 n2 c2] w fun e w' => ∃ S m cs, e = .returned (.tuple #[.slice S m cs, .int .i64 0]) ∧ OwnB w' w.heap.size S m cs (litsL data l) ∧ Below w.heap.size w w' := by
  have HR2 := Lib.hid hr2
  have HL2 := Lib.hid hl2
  have HR0 := Lib.hid hr
  have HL0 := Lib.hid hl
  clear hr2 hl2 hr hl
  go_enter Tryz.func12, Tryz.ntmps12
  go_wp2
  go_loopg [6, 7, 13] n2 (fun gg s6 s7 s13 wr => ∃ (k no co nr cr : Nat) (Ao Ar : Option Addr) (out rest : List UInt8), k ≤ n2 ∧ n2 - k ≤ gg ∧ s6 = .slice Ao no co ∧ s7 = .slice Ar nr cr ∧ s13 = .int .i64 (k : Int) ∧ OwnB wr w.heap.size Ao no co out ∧ no + nr ≤ n ∧
    Bs w Ar rest ∧ rest.length = nr ∧ nr ≤ cr ∧ cr ≤ 9223372036854775807 ∧ fitsN nr (l.drop k) ∧ litsL data l = out ++ litsL rest (l.drop k) ∧ Below w.heap.size w wr)
  case atStart => exact ⟨0, 0, 0, n, c, none, A, [], data, by omega, by omega, rfl, rfl, rfl, OwnB.nil _ _, by omega, HR0.out, HL0.out, hc, hc2, hfit, rfl, Below.refl _ _⟩
  case round =>
    clear hfit
    obtain ⟨k, no, co, nr, cr, Ao, Ar, out, rest, hk, hgg, rfl, rfl, rfl, hown, hno, hrr, hrl, hcr, hcr2, hfit, hrun, hbel⟩ := hrel
    have HO := Lib.hid hown
    have HR := Lib.hid hrr
    have HL := Lib.hid hrl
    have HRun := Lib.hid hrun
    have HBel := Lib.hid hbel
    have HOl := Lib.hid (OwnB.length hown)
    have HFit := Lib.hid hfit
    clear hown hrr hrl hrun hbel hfit
    by_cases hkn : k < n2
    · obtain ⟨b, o, x, hA, hx, c0, c1, c2⟩ := (HR2.out.later HBel.out).at_ (by rw [HL2.out]; exact hkn : k < l.length)
      subst hA
      have hds := drop_step hx
      have hfx := HFit.out
      rw [hds] at hfx
      have hrx := HRun.out
      rw [hds, litsL, ← List.append_assoc] at hrx
      obtain ⟨x1, x2, x3⟩ := x
      simp only at c0 c1 c2 hfx hrx
      have hx12 : x1 + x2 ≤ nr := hfx.1
      have HFx := Lib.hid hfx.2
      have HRx := Lib.hid hrx
      clear hx hds hfx hrx HFit HRun
      have hP5 := Lib.hid (Blk.new wr 52 #[.int .i64 (x1 : Int), .int .i64 (x2 : Int), .int .i64 (x3 : Int)])
      have HBA := Lib.hid (HBel.out.alloc HBel.out.size (.cells #[.int .i64 (x1 : Int), .int .i64 (x2 : Int), .int .i64 (x3 : Int)] 52))
      have HOA := Lib.hid (Own.alloc HO.out (.cells #[.int .i64 (x1 : Int), .int .i64 (x2 : Int), .int .i64 (x3 : Int)] 52))
      have HT := Lib.hid (Bs.take x1 HR.out)
      have HTl : (rest.take x1).length = x1 := by rw [List.length_take, HL.out]; omega
      have HTL := Lib.hid HTl
      have HC := Lib.hid (Bs.cut (c := cr) HR.out (n := x1 + x2) (by rw [HL.out]; exact hx12) (by rw [HL.out]; exact hcr))
      have HCl := Lib.hid (by rw [List.length_drop, HL.out] : (rest.drop (x1 + x2)).length = nr - (x1 + x2))
      have i1 : (x1 : Int) ≤ (nr : Int) := by omega
      have i2 : (x2 : Int) ≤ (nr : Int) - x1 := by omega
      clear HTl
      obtain ⟨tk, htk⟩ : ∃ tk, tk = rest.take x1 := ⟨_, rfl⟩
      rw [← htk] at HT HTL HRx
      clear htk
      go_wp2_with (first | (at_builtin; refine wpList_append_rd rfl _ _ elemB rfl w.heap.size Ao no co (out.map u8v) rfl HOA.out Ar x1 cr (tk.map u8v) rfl ?a1 ?a2 (u8_one _) ?a3 ?a4 ?a5 ?_) | (with_reducible refine wpList_slice_hi ?g ?s ?h elemB ?ho Ar nr cr x1 ?hs ?hh ?hk ?_; (case ho => exact rfl); (case g => exact rfl); (case hs => exact rfl); (case hh => exact rfl); (case hk => omega)))
      case a1 => exact HT.out.later HBA.out
      case a2 => exact HTL.out
      case a3 => omega
      case a4 => omega
      case a5 => have := HBel.out.size; omega
      intro A' c' w2 hown2 hb2 hgr2 hat2
      have HO2 := Lib.hid (by unfold OwnB; rw [List.map_append]; exact hown2 : OwnB w2 w.heap.size A' (no + x1) c' (out ++ tk))
      have HP2 := Lib.hid (hP5.out.kept hgr2 (Own.ne_blk HOA.out hP5.out (by decide)))
      have HB2 := Lib.hid (HBA.out.trans hb2)
      clear hown2 hb2 hgr2 hat2 HOA hP5 HBA c0 c1 c2
      obtain ⟨pb, hpb⟩ : ∃ pb, pb = wr.heap.size := ⟨_, rfl⟩
      rw [← hpb] at HP2 ⊢
      clear hpb
      have p0 := HP2.out.cell 0
      have p1 := HP2.out.cell 1
      simp only [List.getElem?_toArray, List.getElem?_cons_zero, List.getElem?_cons_succ] at p0 p1
      have e1 : IntKind.i64.wrap ((x1 : Int) + x2) = ((x1 + x2 : Nat) : Int) := by rw [wrapi64 (by omega) (by omega)]; rfl
      go_wp2_with (with_reducible refine wpList_slice_lo ?g ?s ?h elemB ?ho Ar nr cr (x1 + x2) ?hs ?hh ?hk ?_; (case ho => exact rfl); (case g => exact rfl); (case hs => simp [Act.eval]); (case hh => simp [Act.eval]); (case hk => omega))
      go_roundg (n2 - (k + 1))
      case measure => omega
      case rel => exact ⟨k + 1, no + x1, c', nr - (x1 + x2), cr - (x1 + x2), A', cutA Ar cr (x1 + x2), out ++ tk, rest.drop (x1 + x2), by omega, by omega, rfl, rfl, by go_num, HO2.out, by omega, HC.out, HCl.out, by omega, by omega, HFx.out, HRx.out, HB2.out⟩
    · have hkk : k = n2 := by omega
      subst hkk
      have HD := Lib.hid (by rw [HRun.out, List.drop_of_length_le (by rw [HL2.out]; exact Nat.le_refl _), litsL] : litsL data l = out ++ rest)
      go_wp2_with (at_builtin; go_loud (refine wpList_append_rd rfl _ _ elemB rfl w.heap.size Ao no co (out.map u8v) ?hs HO.out Ar nr cr (rest.map u8v) ?hh ?a1 ?a2 (u8_one _) ?a3 ?a4 ?a5 ?_; (case hs => simp [Act.eval]); (case hh => simp [Act.eval])))
      case a1 => exact HR.out.later HBel.out
      case a2 => rw [List.length_map]; exact HL.out
      case a3 => omega
      case a4 => omega
      case a5 => exact HBel.out.size
      intro A' c' w2 hown2 hb2 hgr2 hat2
      have HO2 := Lib.hid (by unfold OwnB; rw [HD.out, List.map_append]; exact hown2 : OwnB w2 w.heap.size A' (no + nr) c' (litsL data l))
      have HB2 := Lib.hid (HBel.out.trans hb2)
      clear hown2 hb2 hgr2 hat2
      go_wp2
      go_ret2
      exact ⟨A', no + nr, c', rfl, HO2.out, HB2.out⟩
end Go.Proofs.YtaelgbbnmjbjiaaGreat
namespace Go.Proofs.YtaelgbbnmjbjiaaGreat
open Go.RowKit
def LitsB (l B : List UInt8) : Prop :=
  B = numB 5 l.length ++ 0 :: l ∨ ∃ lens, LensOk (cntB l) lens ∧ B = numB 5 l.length ++ (1 :: tableB lens ++ numB 5 (bodyB lens l).length ++ bodyB lens l)
def numQ (k : Nat) (x : Sq) : Nat := if k = 0 then x.lits else if k = 1 then x.len - 4 else x.dist - 1
def symQ (k : Nat) (x : Sq) : Nat := Lib.bitLen (numQ k x)
def StrB (k : Nat) (L : List Sq) (B : List UInt8) : Prop :=
  ∃ sh, ShareOk (incT (List.replicate 17 0) (L.map (symQ k))) sh ∧ B = shareB sh ++ (numB 5 (encodeL sh (L.map (symQ k))).length ++ encodeL sh (L.map (symQ k)))
def lowP (v : Nat) : List (Nat × Nat) := if 1 < v then [(Lib.bitLen v - 1, v - 2 ^ (Lib.bitLen v - 1))] else []
def lowsP (x : Sq) : List (Nat × Nat) := lowP (numQ 0 x) ++ (lowP (numQ 1 x) ++ lowP (numQ 2 x))
def restB (L : List Sq) : List UInt8 := bytesS (putsS ([], 0, 0) (L.flatMap lowsP))
def StepsB (L : List Sq) (B : List UInt8) : Prop :=
  (L = [] ∧ B = numB 5 0) ∨ (L ≠ [] ∧ ∃ b0 b1 b2, StrB 0 L b0 ∧ StrB 1 L b1 ∧ StrB 2 L b2 ∧ B = numB 5 L.length ++ (b0 ++ (b1 ++ (b2 ++ (numB 5 (restB L).length ++ restB L)))))
def SmallQ (x : Sq) : Prop := x.lits ≤ 65535 ∧ 4 ≤ x.len ∧ x.len ≤ 65535 ∧ 1 ≤ x.dist ∧ x.dist ≤ 65535
theorem FitL.small {l : List UInt8} (hl : l.length ≤ 65536) : ∀ {L : List Sq} {p : Nat}, FitL l p L → ∀ x ∈ L, SmallQ x
  | [], _, _, _, h => by cases h
  | y :: r, p, h, x, hx => by
    rcases List.mem_cons.1 hx with e | hx
    · subst e
      obtain ⟨h1, h2, h3, h4, h5, -⟩ := h
      exact ⟨by omega, h1, by omega, h4, by omega⟩
    · exact FitL.small hl h.2.2.2.2.2.2 x hx
theorem FitL.many {l : List UInt8} : ∀ {L : List Sq} {p : Nat}, FitL l p L → p + 4 * L.length ≤ l.length
  | [], _, h => h
  | y :: r, p, h => by
    have h1 := FitL.many h.2.2.2.2.2.2
    have h2 := h.1
    rw [List.length_cons]; omega
theorem numQ_le {x : Sq} (h : SmallQ x) (k : Nat) : numQ k x ≤ 65535 := by
  obtain ⟨h1, h2, h3, h4, h5⟩ := h
  unfold numQ
  split
  · exact h1
  · split <;> omega
inductive BestB (d : List UInt8) : List UInt8 → Prop
  | raw (h : ∀ x, 1 < d.length → d ≠ List.replicate d.length x) : BestB d (0 :: numB 5 d.length ++ d)
  | run (x : UInt8) (h : 1 < d.length) (hd : d = List.replicate d.length x) : BestB d (1 :: numB 5 d.length ++ [x])
  | packed (L : List Sq) (b c : List UInt8) (h0 : d ≠ []) (hL : FitL d 0 L) (hb : LitsB (litsL d L) b) (hc : StepsB L c) (hlt : (2 :: numB 5 d.length ++ b ++ c).length < 1 + (numB 5 d.length).length + d.length)
      (hrun : ∀ x, 1 < d.length → d = List.replicate d.length x → (2 :: numB 5 d.length ++ b ++ c).length < 2 + (numB 5 d.length).length) :
      BestB d (2 :: numB 5 d.length ++ b ++ c)
end Go.Proofs.YtaelgbbnmjbjiaaGreat
namespace Go.Proofs.YtaelgbbnmjbjiaaGreat
open Go.RowKit
theorem rowP_nil : rowP [] = [] := rfl
theorem rowP_cons (p : Nat × Nat) (l : List (Nat × Nat)) : rowP (p :: l) = bitR p.1 p.2 ++ rowP l := by unfold rowP; simp
theorem rowP_append (a b : List (Nat × Nat)) : rowP (a ++ b) = rowP a ++ rowP b := by unfold rowP; simp
def codeR (c : Nat) : Nat → List Nat
  | 0 => []
  | k + 1 => c / 2 ^ k % 2 :: codeR c k
theorem codeR_len (c : Nat) : ∀ k, (codeR c k).length = k
  | 0 => rfl
  | k + 1 => by rw [codeR, List.length_cons, codeR_len]
theorem rowP_bitsP (c : Nat) : ∀ k, rowP (bitsP c k) = codeR c k
  | 0 => rfl
  | k + 1 => by
    rw [bitsP, rowP_cons, rowP_bitsP c k, codeR]
    show [c / 2 ^ k % 2 % 2] ++ _ = _
    rw [Nat.mod_mod]; rfl
def NxR (k nx code had : Nat) : Prop := (had = 0 ∧ nx = 0) ∨ (0 < had ∧ had ≤ k ∧ nx = (code + 1) * 2 ^ (k - had))
theorem NxR.level {k nx code had : Nat} (h : NxR k nx code had) : NxR (k + 1) (2 * nx) code had := by
  rcases h with ⟨h1, h2⟩ | ⟨h1, h2, h3⟩
  · exact .inl ⟨h1, by omega⟩
  · refine .inr ⟨h1, by omega, ?_⟩
    rw [h3, show k + 1 - had = (k - had) + 1 by omega, Nat.pow_succ, Nat.mul_left_comm, Nat.mul_comm 2]
theorem NxR.next {k nx : Nat} (hk : 0 < k) : NxR k (nx + 1) nx k := .inr ⟨hk, Nat.le_refl _, by rw [Nat.sub_self]; omega⟩
theorem bitR_mod : ∀ (k v m : Nat), bitR k (v % 2 ^ (k + m)) = bitR k v
  | 0, _, _ => rfl
  | k + 1, v, m => by
    have e1 : v % 2 ^ (k + 1 + m) % 2 = v % 2 := Nat.mod_mod_of_dvd _ ⟨2 ^ (k + m), by rw [show k + 1 + m = (k + m) + 1 by omega, Nat.pow_succ, Nat.mul_comm]⟩
    have e2 : v % 2 ^ (k + 1 + m) / 2 = v / 2 % 2 ^ (k + m) := by
      rw [show k + 1 + m = 1 + (k + m) by omega, Nat.pow_add, Nat.pow_one, Nat.mod_mul_right_div_self]
    rw [bitR, bitR, e1, e2, bitR_mod k (v / 2) m]
theorem bitR_mod0 (k v : Nat) : bitR k (v % 2 ^ k) = bitR k v := bitR_mod k v 0
theorem lowP_row {v : Nat} (hv : v ≤ 65535) : rowP (lowP v) = bitR (Lib.bitLen v - 1) v := by
  unfold lowP
  split
  · next h =>
    rw [rowP_cons, rowP_nil, List.append_nil]
    show bitR _ _ = _
    obtain ⟨h1, h2, h3⟩ := Lib.bitLenAux_bounds 64 v (by omega) (by omega)
    change 1 ≤ Lib.bitLen v at h1
    change 2 ^ (Lib.bitLen v - 1) ≤ v at h2
    change v < 2 ^ (Lib.bitLen v) at h3
    obtain ⟨b, hb⟩ : ∃ b, Lib.bitLen v = b + 1 := ⟨Lib.bitLen v - 1, by omega⟩
    rw [hb, Nat.add_sub_cancel] at h2 ⊢
    rw [hb, Nat.pow_succ] at h3
    have e : v - 2 ^ b = v % 2 ^ b := by
      rw [Nat.mod_eq_sub_mod h2, Nat.mod_eq_of_lt (by omega)]
    rw [e, bitR_mod0]
  · next h =>
    rw [rowP_nil]
    have h1 : v = 0 ∨ v = 1 := by omega
    rcases h1 with rfl | rfl <;> rfl
theorem bitLen_go {v : Nat} (h0 : 0 < v) (h : v < 2 ^ 64) : Lib.bitLen v = Lib.bitLen (v / 2) + 1 := by
  rw [Lib.bitLen_half v (by omega) h, Nat.add_comm]
end Go.Proofs.YtaelgbbnmjbjiaaGreat
namespace Go.Proofs.YtaelgbbnmjbjiaaGreat
open Go.RowKit
theorem pow2_le {k : Nat} (h : k ≤ 32) : (2 : Nat) ^ k ≤ 4294967296 := Nat.pow_le_pow_right (by omega) h
theorem shl1 {k : Nat} (h : k ≤ 32) : wrap64 ((2 : Int) ^ k) = ((2 ^ k : Nat) : Int) := by
  have h1 := pow2_le h
  have e : ((2 ^ k : Nat) : Int) = (2 : Int) ^ k := Int.natCast_pow 2 k
  rw [← e, wrap64_nat (by omega)]
set_option maxHeartbeats 2000000 in
set_option maxRecDepth 10000 in
theorem refPut (A : Option Addr) (n c : Nat) (l : List Nat) (k v : Nat) (w : World) (hl : l.length = n) (hr : Ns w A l) (hn : n ≤ 1000000000) (hk : k ≤ 32) (hv : v < 2 ^ k) :
    Calls Tryz.prog 83 #[.slice A n c, .int .i64 (k : Int), .int .i64 (v : Int)] w fun e w' => ∃ A' m c', e = .returned (.tuple #[.slice A' m c', .int .i64 0]) ∧ OwnN w' w.heap.size A' m c' (l ++ bitR k v) ∧ Below w.heap.size w w' := by
  have HL := Lib.hid hl
  have HR := Lib.hid hr
  have hp := pow2_le hk
  have hv32 : v ≤ 4294967295 := by omega
  have es := shl1 hk
  have g1 : decide (wrap64 ((2 : Int) ^ k) ≤ (v : Int)) = false := decide_eq_false (by rw [es]; omega)
  have g2 : decide ((32 : Int) < (k : Int)) = false := decide_eq_false (by omega)
  have HG := Lib.hid hv
  clear hl hr hv hp es
  go_enter Tryz.func83, Tryz.ntmps83
  go_wp2_with (at_builtin; refine wpList_append_rd rfl _ _ elemN rfl w.heap.size none 0 0 [] rfl (Own.nil _ _ _) A n c (l.map natv) rfl HR.out ?h1 (nat_one _) ?h2 ?h3 ?hb ?_)
  case h1 => rw [List.length_map]; exact HL.out
  case h2 => omega
  case h3 => omega
  case hb => exact Nat.le_refl _
  intro A' c' w1 hown hb hg hat
  have HO := Lib.hid (show OwnN w1 w.heap.size A' n c' l by
    exact hown)
  have HB := Lib.hid hb
  clear hown hb hg hat g1 g2
  go_wp2_with fail
  go_loopg [2, 8, 9] k (fun gg s2 s8 s9 wr => ∃ (f j x m co : Nat) (Ao : Option Addr) (out : List Nat), f + j = k ∧ f ≤ gg ∧ s2 = .int .i64 (x : Int) ∧ s8 = .slice Ao m co ∧ s9 = .int .i64 (j : Int) ∧ OwnN wr w.heap.size Ao m co out ∧ m = n + j ∧ out ++ bitR f x = l ++ bitR k v ∧ x ≤ 4294967295 ∧ Below w.heap.size w wr)
  case atStart => exact ⟨k, 0, v, n, c', A', l, by omega, by omega, rfl, by first | rfl | (rw [Nat.zero_add]), rfl, HO.out, by omega, rfl, hv32, HB.out⟩
  case round =>
    obtain ⟨f, j, x, m, co, Ao, out, hf, hgg, rfl, rfl, rfl, hown, hm, heq, hx, hbel⟩ := hrel
    have HO := Lib.hid hown
    have HQ := Lib.hid heq
    have HBel := Lib.hid hbel
    have HM := Lib.hid hm
    have hm9 : m ≤ 2000000000 := by omega
    clear hown heq hbel hm
    by_cases hjk : j < k
    · obtain ⟨f', rfl⟩ : ∃ f', f = f' + 1 := ⟨f - 1, by omega⟩
      have HQ2 := Lib.hid (show (out ++ [x % 2]) ++ bitR f' (x / 2) = l ++ bitR k v by
        rw [List.append_assoc]; exact HQ.out)
      go_wp2_with (at_builtin; refine wpList_append_one rfl _ _ elemN rfl w.heap.size Ao m co (out.map natv) wr (.int .i64 ((x : Int) % 2)) rfl rfl HO.out ?hx rfl ?d1 ?d2 ?d3 ?_)
      case hx => exact rfl
      case d1 => omega
      case d2 => omega
      case d3 => exact HBel.out.size
      intro A3 c3 w3 hown3 hb3 hgr3 hat3
      have HO3 := Lib.hid (show OwnN w3 w.heap.size A3 (m + 1) c3 (out ++ [x % 2]) from by
        unfold OwnN
        rw [List.map_append]
        exact hown3)
      have HB3 := Lib.hid (HBel.out.trans hb3)
      clear hown3 hb3 hgr3 hat3
      go_wp2
      go_roundg f'
      case measure => omega
      case rel => exact ⟨f', j + 1, x / 2, m + 1, c3, A3, out ++ [x % 2], by omega, by omega, by go_num, rfl, by go_num, HO3.out, by have := HM.out; omega, HQ2.out, by omega, HB3.out⟩
    · obtain rfl : f = 0 := by omega
      have HQ2 := Lib.hid (show out = l ++ bitR k v by
        have h := HQ.out
        rwa [bitR, List.append_nil] at h)
      go_wp2
      go_ret2
      exact ⟨Ao, m, co, rfl, by rw [← HQ2.out]; exact HO.out, HBel.out⟩
theorem valR_snoc {l : List Nat} {i t b : Nat} (h : l[i + t]? = some b) : valR ((l.drop i).take (t + 1)) = valR ((l.drop i).take t) + 2 ^ t * b := by
  have hlt : i + t < l.length := (List.getElem?_eq_some_iff.1 h).1
  have e : (l.drop i)[t]? = some b := by rw [List.getElem?_drop]; exact h
  rw [List.take_add_one, e, valR_append, List.length_take, List.length_drop, Nat.min_eq_left (by omega)]
  simp [valR]
theorem valR_take8 {l : List Nat} {i t : Nat} (h : t = 8 ∨ l.length ≤ i + t) (h8 : t ≤ 8 := by omega) : valR ((l.drop i).take t) = valR ((l.drop i).take 8) := by
  rcases h with rfl | h
  · rfl
  · rw [List.take_of_length_le (by rw [List.length_drop]; omega), List.take_of_length_le (by rw [List.length_drop]; omega)]
set_option maxHeartbeats 4000000 in
set_option maxRecDepth 10000 in
theorem refBitPack (A : Option Addr) (n c : Nat) (l : List Nat) (w : World) (hl : l.length = n) (hr : Ns w A l) (hn : n ≤ 1000000000) (h01 : Bits01 l) :
    Calls Tryz.prog 47 #[.slice A n c] w fun e w' => ∃ A' m c', e = .returned (.slice A' m c') ∧ OwnB w' w.heap.size A' m c' (packR l) ∧ Below w.heap.size w w' := by
  have HL := Lib.hid hl
  have HR := Lib.hid hr
  have H01 := Lib.hid h01
  clear hl hr h01
  go_enter Tryz.func47, Tryz.ntmps47
  go_wp2
  go_loopg [3, 4] ((n + 7) / 8) (fun gg s3 s4 wr => ∃ (j co : Nat) (Ao : Option Addr), j ≤ (n + 7) / 8 ∧ (n + 7) / 8 - j ≤ gg ∧ s3 = .slice Ao j co ∧ s4 = .int .i64 ((8 * j : Nat) : Int) ∧ OwnB wr w.heap.size Ao j co ((List.range j).map (chunkR l)) ∧ Below w.heap.size w wr)
  case atStart => exact ⟨0, 0, none, by omega, by omega, rfl, rfl, OwnB.nil _ _, Below.refl _ _⟩
  case round =>
    obtain ⟨j, co, Ao, hj, hgg, rfl, rfl, hown, hbel⟩ := hrel
    have HO := Lib.hid hown
    have HB := Lib.hid hbel
    clear hown hbel
    obtain ⟨i, hi⟩ : ∃ i, i = 8 * j := ⟨_, rfl⟩
    rw [← hi]
    by_cases hin : i < n
    · go_wp2_with fail
      obtain ⟨w1, hw1⟩ : ∃ w1, w1 = wr := ⟨_, rfl⟩
      subst hw1
      go_loopg [5, 6, 7] 8 (fun gg s5 s6 s7 wr => ∃ (t x S q : Nat), t ≤ 8 ∧ 8 - t ≤ gg ∧ i + t ≤ n ∧ s5 = .int .i64 (x : Int) ∧ s6 = .int .i64 (S : Int) ∧ s7 = .int .i64 ((i + t : Nat) : Int) ∧ x = valR ((l.drop i).take t) ∧ S = 2 ^ t ∧ x < S ∧ S ≤ 256 ∧ wr = w1.drewN q)
      case atStart => exact ⟨0, 0, 1, 0, by omega, by omega, by omega, rfl, rfl, rfl, by simp [valR], by simp, by omega, by omega, rfl⟩
      case round =>
        obtain ⟨t, x, S, q, ht, hgt, hit, rfl, rfl, rfl, hx, hS, hxS, hS8, rfl⟩ := hrel
        have HX := Lib.hid hx
        have HS := Lib.hid hS
        clear hx hS
        obtain ⟨k, hk⟩ : ∃ k, k = i + t := ⟨_, rfl⟩
        rw [← hk]
        have HK := Lib.hid hk
        have HI := Lib.hid hi
        by_cases ht8 : t < 8
        · by_cases hkn : k < n
          · obtain ⟨b, o, u, hA, hu, hc⟩ := HR.out.at_ (by rw [HL.out]; exact hkn : k < l.length)
            subst hA
            have hc2 := ((HB.out.trans ((below_drewN w1 q).mono HB.out.size)).cell (by simpa using block_lt hc)).trans hc
            have hu1 : u ≤ 1 := H01.out u (List.mem_of_getElem? hu)
            have HV := Lib.hid (show valR ((l.drop i).take (t + 1)) = x + S * u by rw [HX.out, HS.out]; exact valR_snoc (by rw [← HK.out]; exact hu))
            have g1 : decide ((k : Int) < (i : Int) + 8) = true := decide_eq_true (by omega)
            have g2 : decide ((k : Int) < (n : Int)) = true := decide_eq_true (by omega)
            have HS2 := Lib.hid (show 2 * S = 2 ^ (t + 1) by rw [HS.out, Nat.pow_succ, Nat.mul_comm])
            have hS128 : S ≤ 128 := by
              rw [HS.out]
              exact (Nat.pow_le_pow_right (by omega) (by omega) : 2 ^ t ≤ 2 ^ 7)
            have i1 : (k : Int) < n := by omega
            clear hu hk hi hc
            rcases (by omega : u = 0 ∨ u = 1) with rfl | rfl
            · go_wp2
              go_roundg (8 - (t + 1))
              case measure => omega
              case rel => exact ⟨t + 1, x, 2 * S, _, by omega, by omega, by have := HK.out; omega, by go_num, by go_num, by have := HK.out; go_num, by rw [HV.out]; omega, HS2.out, by omega, by omega, rfl⟩
            · go_wp2
              go_roundg (8 - (t + 1))
              case measure => omega
              case rel => exact ⟨t + 1, x + S, 2 * S, _, by omega, by omega, by have := HK.out; omega, by go_num, by go_num, by have := HK.out; go_num, by rw [HV.out]; omega, HS2.out, by omega, by omega, rfl⟩
          · have HT8 := Lib.hid (show x = valR ((l.drop i).take 8) by
              rw [HX.out]; exact valR_take8 (.inr (by rw [HL.out]; have := HK.out; omega)) (by omega))
            have g1 : decide ((k : Int) < (i : Int) + 8) = true := decide_eq_true (by omega)
            have g2 : decide ((k : Int) < (n : Int)) = false := decide_eq_false (by omega)
            have hx8 : x < 256 := by omega
            have hj9 : j ≤ 1000000000 := by omega
            have HB8 := Lib.hid (HB.out.trans ((below_drewN w1 q).mono HB.out.size))
            have HO8 := Lib.hid (Own.later HO.out (below_drewN w1 q))
            obtain ⟨w8, hw8⟩ : ∃ w8, w8 = w1.drewN q := ⟨_, rfl⟩
            rw [← hw8] at HB8 HO8 ⊢
            clear hk hi hw8 HO HB
            go_wp2_with (at_builtin; refine wpList_append_one rfl _ _ elemB rfl w.heap.size Ao j co (((List.range j).map (chunkR l)).map u8v) w8 (.int .u8 (x : Int)) ?hw ?ho HO8.out ?hx rfl ?d1 ?d2 ?d3 ?_)
            case hw => rfl
            case ho => rfl
            case hx => rfl
            case d1 => omega
            case d2 => omega
            case d3 => exact HB8.out.size
            intro A3 c3 w3 hown3 hb3 hgr3 hat3
            have HO3 := Lib.hid (show OwnB w3 w.heap.size A3 (j + 1) c3 ((List.range (j + 1)).map (chunkR l)) from by
              rw [← List.map_map] at hown3
              have h := ownB_snoc (b := UInt8.ofNat x) hown3 (by rw [UInt8.toNat_ofNat']; omega)
              rw [HT8.out, HI.out] at h
              rw [List.range_succ, List.map_append]
              exact h)
            have HB3 := Lib.hid (HB8.out.trans hb3)
            clear hown3 hb3 hgr3 hat3
            go_wp2
            go_roundg ((n + 7) / 8 - (j + 1))
            case measure => omega
            case rel => exact ⟨j + 1, c3, A3, by omega, by omega, rfl, by have := HI.out; go_num, HO3.out, HB3.out⟩
        · have HT8 := Lib.hid (show x = valR ((l.drop i).take 8) by
            rw [HX.out]; exact valR_take8 (.inl (by omega)) (by omega))
          have g1 : decide ((k : Int) < (i : Int) + 8) = false := decide_eq_false (by omega)
          have hx8 : x < 256 := by omega
          have hj9 : j ≤ 1000000000 := by omega
          have HB8 := Lib.hid (HB.out.trans ((below_drewN w1 q).mono HB.out.size))
          have HO8 := Lib.hid (Own.later HO.out (below_drewN w1 q))
          obtain ⟨w8, hw8⟩ : ∃ w8, w8 = w1.drewN q := ⟨_, rfl⟩
          rw [← hw8] at HB8 HO8 ⊢
          clear hk hi hw8 HO HB
          go_wp2_with (at_builtin; refine wpList_append_one rfl _ _ elemB rfl w.heap.size Ao j co (((List.range j).map (chunkR l)).map u8v) w8 (.int .u8 (x : Int)) ?hw ?ho HO8.out ?hx rfl ?d1 ?d2 ?d3 ?_)
          case hw => rfl
          case ho => rfl
          case hx => rfl
          case d1 => omega
          case d2 => omega
          case d3 => exact HB8.out.size
          intro A3 c3 w3 hown3 hb3 hgr3 hat3
          have HO3 := Lib.hid (show OwnB w3 w.heap.size A3 (j + 1) c3 ((List.range (j + 1)).map (chunkR l)) from by
            rw [← List.map_map] at hown3
            have h := ownB_snoc (b := UInt8.ofNat x) hown3 (by rw [UInt8.toNat_ofNat']; omega)
            rw [HT8.out, HI.out] at h
            rw [List.range_succ, List.map_append]
            exact h)
          have HB3 := Lib.hid (HB8.out.trans hb3)
          clear hown3 hb3 hgr3 hat3
          go_wp2
          go_roundg ((n + 7) / 8 - (j + 1))
          case measure => omega
          case rel => exact ⟨j + 1, c3, A3, by omega, by omega, rfl, by have := HI.out; go_num, HO3.out, HB3.out⟩
    · have HO2 := Lib.hid (show OwnB wr w.heap.size Ao j co (packR l) by
        have h := HO.out
        rw [show packR l = (List.range j).map (chunkR l) by unfold packR; rw [HL.out, show (n + 7) / 8 = j by omega]]
        exact h)
      clear hi
      go_wp2
      go_ret
      exact ⟨Ao, j, co, rfl, HO2.out, HB.out⟩
end Go.Proofs.YtaelgbbnmjbjiaaGreat
namespace Go.Proofs.YtaelgbbnmjbjiaaGreat
open Go.RowKit
structure Ky where
  wt : Nat
  num : Nat
  ps : List Nat
def keyT (x : Th) : Ky := ⟨x.wt, x.num, x.ps⟩
def leK (x y : Ky) : Prop := x.wt < y.wt ∨ (x.wt = y.wt ∧ x.num ≤ y.num)
def lvK (counts : List Nat) : Nat → List Ky
  | 0 => []
  | k + 1 => if 0 < counts.getD k 0 then lvK counts k ++ [⟨counts.getD k 0, (lvK counts k).length, [k]⟩] else lvK counts k
inductive MRun : List Ky → List Nat → Nat → List Nat → Prop
  | done (x : Ky) (out : List Nat) (nx : Nat) : MRun [x] out nx out
  | step {hs l : List Ky} {a b : Ky} {out f : List Nat} {nx : Nat} (hp : (a :: b :: l).Perm hs) (ha : ∀ y ∈ b :: l, leK a y) (hb : ∀ y ∈ l, leK b y)
      (h : MRun (⟨a.wt + b.wt, nx, a.ps ++ b.ps⟩ :: l) (incT out (a.ps ++ b.ps)) (nx + 1) f) : MRun hs out nx f
theorem MRun.perm {hs hs' : List Ky} {out f : List Nat} {nx : Nat} (h : MRun hs out nx f) (hp : hs.Perm hs') : MRun hs' out nx f := by
  cases h with
  | done x => rw [List.perm_singleton.1 hp.symm]; exact .done x _ _
  | step hp2 ha hb h => exact .step (hp2.trans hp) ha hb h
def NumOk (l : List Ky) (nx : Nat) : Prop := l.Pairwise (fun x y => x.num ≠ y.num) ∧ ∀ x ∈ l, x.num < nx
theorem NumOk.perm {l l' : List Ky} {nx : Nat} (h : NumOk l nx) (hp : l.Perm l') : NumOk l' nx :=
  ⟨(List.Perm.pairwise_iff (fun h e => h e.symm) hp).1 h.1, fun x hx => h.2 x (hp.symm.subset hx)⟩
theorem num_inj {l : List Ky} {nx : Nat} (h : NumOk l nx) {x y : Ky} (hx : x ∈ l) (hy : y ∈ l) (e : x.num = y.num) : x = y := by
  have h1 := h.1
  clear h
  induction l with
  | nil => simp at hx
  | cons a l ih =>
    rw [List.pairwise_cons] at h1
    rcases List.mem_cons.1 hx with ex | hx2
    · rcases List.mem_cons.1 hy with ey | hy2
      · rw [ex, ey]
      · exact absurd (by rw [← ex]; exact e) (h1.1 y hy2)
    · rcases List.mem_cons.1 hy with ey | hy2
      · exact absurd (by rw [← ey]; exact e.symm) (h1.1 x hx2)
      · exact ih hx2 hy2 h1.2
theorem least_one {l l' : List Ky} {nx : Nat} {a a' : Ky} (h : NumOk (a :: l) nx) (hp : (a :: l).Perm (a' :: l')) (ha : ∀ y ∈ l, leK a y) (ha' : ∀ y ∈ l', leK a' y) : a = a' ∧ l.Perm l' := by
  have h1 : a' ∈ a :: l := hp.symm.subset List.mem_cons_self
  have h2 : a ∈ a' :: l' := hp.subset List.mem_cons_self
  have e : a = a' := by
    rcases List.mem_cons.1 h1 with e | h1'
    · exact e.symm
    · rcases List.mem_cons.1 h2 with e | h2'
      · exact e
      · have g1 := ha a' h1'
        have g2 := ha' a h2'
        refine num_inj h List.mem_cons_self h1 ?_
        unfold leK at g1 g2
        omega
  subst e
  exact ⟨rfl, hp.cons_inv⟩
theorem NumOk.merge {l : List Ky} {nx : Nat} {a b : Ky} (h : NumOk (a :: b :: l) nx) (ps : List Nat) (wt : Nat) : NumOk (⟨wt, nx, ps⟩ :: l) (nx + 1) := by
  refine ⟨List.pairwise_cons.2 ⟨fun y hy e => ?_, (List.pairwise_cons.1 (List.pairwise_cons.1 h.1).2).2⟩, fun x hx => ?_⟩
  · have := h.2 y (List.mem_cons_of_mem _ (List.mem_cons_of_mem _ hy))
    simp only at e
    omega
  · rcases List.mem_cons.1 hx with rfl | hx
    · exact Nat.lt_succ_self nx
    · have := h.2 x (List.mem_cons_of_mem _ (List.mem_cons_of_mem _ hx))
      omega
theorem MRun.one {hs : List Ky} {out f : List Nat} {nx : Nat} (h : MRun hs out nx f) : ∀ {hs' : List Ky} {f' : List Nat}, NumOk hs nx → hs.Perm hs' → MRun hs' out nx f' → f = f' := by
  induction h with
  | done x out nx =>
    intro hs' f' hn hp h'
    have e := List.perm_singleton.1 hp.symm
    subst e
    cases h' with
    | done => rfl
    | step hp2 => exact absurd hp2.length_eq (by simp)
  | step hp1 ha hb h ih =>
    intro hs' f' hn hp h'
    cases h' with
    | done x =>
      have := (hp1.trans hp).length_eq
      simp at this
    | step hp2 ha' hb' h2 =>
      have hn1 := hn.perm hp1.symm
      obtain ⟨rfl, hp3⟩ := least_one hn1 ((hp1.trans hp).trans hp2.symm) ha ha'
      have hn2 : NumOk (_ :: _) _ := ⟨(List.pairwise_cons.1 hn1.1).2, fun x hx => hn1.2 x (List.mem_cons_of_mem _ hx)⟩
      obtain ⟨rfl, hp4⟩ := least_one hn2 hp3 hb hb'
      exact ih (hn1.merge _ _) (hp4.cons _) h2
theorem lvK_num (counts : List Nat) : ∀ k, NumOk (lvK counts k) (lvK counts k).length
  | 0 => ⟨List.Pairwise.nil, fun x hx => by simp [lvK] at hx⟩
  | k + 1 => by
    have h := lvK_num counts k
    unfold lvK
    split
    · refine ⟨List.pairwise_append.2 ⟨h.1, List.pairwise_singleton _ _, fun x hx y hy e => ?_⟩, fun x hx => ?_⟩
      · rw [List.mem_singleton] at hy
        have := h.2 x hx
        rw [hy] at e
        simp only at e
        omega
      · rw [List.length_append, List.length_singleton]
        rcases List.mem_append.1 hx with hx | hx
        · have := h.2 x hx; omega
        · rw [List.mem_singleton] at hx
          rw [hx]
          exact Nat.lt_succ_self _
    · exact h
def TreeX (counts out : List Nat) : Prop :=
  (∃ p wt, lvK counts counts.length = [⟨wt, 0, [p]⟩] ∧ out = (List.replicate counts.length 0).set p 1) ∨
  (2 ≤ (lvK counts counts.length).length ∧ MRun (lvK counts counts.length) (List.replicate counts.length 0) (lvK counts counts.length).length out)
theorem TreeX.one {counts out out' : List Nat} (h : TreeX counts out) (h' : TreeX counts out') : out = out' := by
  rcases h with ⟨p, wt, h1, h2⟩ | ⟨h1, h2⟩
  · rcases h' with ⟨p', wt', h1', h2'⟩ | ⟨h1', -⟩
    · rw [h1] at h1'
      cases h1'
      rw [h2, h2']
    · rw [h1] at h1'; simp at h1'
  · rcases h' with ⟨p', wt', h1', -⟩ | ⟨-, h2'⟩
    · rw [h1'] at h1; simp at h1
    · exact h2.one (lvK_num counts _) (List.Perm.refl _) h2'
end Go.Proofs.YtaelgbbnmjbjiaaGreat
namespace Go.Proofs.YtaelgbbnmjbjiaaGreat
open Go.RowKit
theorem erase_perm {α : Type} : ∀ {l : List α} {i : Nat} {a : α}, l[i]? = some a → (a :: l.eraseIdx i).Perm l
  | [], i, a, h => by simp at h
  | x :: l, 0, a, h => by
    have e : x = a := by simpa using h
    subst e; exact List.Perm.refl _
  | x :: l, i + 1, a, h => by
    have h2 : l[i]? = some a := by simpa using h
    exact (List.Perm.swap x a (l.eraseIdx i)).trans ((erase_perm h2).cons x)
theorem MRun.take2 {l : List Ky} {out f : List Nat} {nx i k : Nat} {a b : Ky} (h1 : l[i]? = some a) (h2 : ∀ y ∈ l, leK a y) (h3 : (l.eraseIdx i)[k]? = some b) (h4 : ∀ y ∈ l.eraseIdx i, leK b y)
    (h : MRun ((l.eraseIdx i).eraseIdx k ++ [⟨a.wt + b.wt, nx, a.ps ++ b.ps⟩]) (incT out (a.ps ++ b.ps)) (nx + 1) f) : MRun l out nx f := by
  have p1 := erase_perm h1
  have p2 := erase_perm h3
  refine .step (a := a) (b := b) (l := (l.eraseIdx i).eraseIdx k) ((p2.cons a).trans p1) (fun y hy => h2 y (p1.subset (List.mem_cons_of_mem _ (p2.subset hy)))) (fun y hy => h4 y (p2.subset (List.mem_cons_of_mem _ hy))) (h.perm ?_)
  exact List.perm_append_comm
theorem zr_eq (l : List Nat) : ∀ (f i m : Nat), m ≤ f → (∀ j, j < m → l.getD (i + 1 + j) 0 = 0) → (m = f ∨ l.getD (i + 1 + m) 0 ≠ 0) → zr l f i = m
  | 0, i, m, h, _, _ => by show 0 = m; omega
  | f + 1, i, 0, _, _, h3 => by
    have h4 : l.getD (i + 1) 0 ≠ 0 := by
      rcases h3 with h | h
      · omega
      · exact h
    rw [zr, if_neg h4]
  | f + 1, i, m + 1, h, h2, h3 => by
    have h4 : l.getD (i + 1) 0 = 0 := h2 0 (by omega)
    rw [zr, if_pos h4, zr_eq l f (i + 1) m (by omega) (fun j hj => by have := h2 (j + 1) (by omega); rwa [show i + 1 + (j + 1) = i + 1 + 1 + j by omega] at this) (by
      rcases h3 with h | h
      · exact .inl (by omega)
      · exact .inr (by rwa [show i + 1 + (m + 1) = i + 1 + 1 + m by omega] at h))]
theorem rowP_encP (lens : List Nat) : ∀ l : List UInt8, rowP (encP lens l) = l.flatMap (fun b => codeR ((codesL lens).getD b.toNat 0) (lens.getD b.toNat 0))
  | [] => rfl
  | b :: l => by
    rw [encP, rowP_append, rowP_encP lens l, byteP, rowP_bitsP, List.flatMap_cons]
theorem body_row (lens : List Nat) (l : List UInt8) : packR (l.flatMap (fun b => codeR ((codesL lens).getD b.toNat 0) (lens.getD b.toNat 0))) = bodyB lens l := by
  rw [← rowP_encP, pack_puts (encP_ok lens l)]; rfl
end Go.Proofs.YtaelgbbnmjbjiaaGreat
namespace Go.Proofs.YtaelgbbnmjbjiaaGreat
open Go.RowKit
theorem kraft_cnt2 : ∀ l : List Nat, kraft l ≤ 1024 * cntPos l
  | [] => by simp [kraft, cntPos]
  | k :: r => by
    have h := kraft_cnt2 r
    rw [kraft, cntPos]
    split
    · have : 2 ^ (11 - k) ≤ 2 ^ 10 := Nat.pow_le_pow_right (by omega) (by omega)
      omega
    · omega
theorem mayL_ref {l : List Nat} (h : mayL l = true) : (cntPos l = 1 ∧ l.getD (l.length - 1) 0 = 1) ∨ (cntPos l ≠ 1 ∧ kraft l = 2048) := by
  have h2 := kraft_cnt2 l
  unfold mayL at h
  simp only [Bool.and_eq_true, Bool.or_eq_true, beq_iff_eq] at h
  rcases h.2 with h3 | h3
  · exact .inr ⟨by omega, h3⟩
  · exact .inl h3
set_option maxHeartbeats 2000000 in
set_option maxRecDepth 10000 in
theorem refMay (A : Option Addr) (n c : Nat) (l : List Nat) (w : World) (hl : l.length = n) (hr : Ns w A l) (hmay : mayL l = true) :
    Calls Tryz.prog 82 #[.slice A n c] w fun e w' => e = .returned (.bool true) ∧ w' = w := by
  obtain ⟨f1, f2, f3⟩ := mayL_facts hmay
  have hlast := mayL_last hmay
  have href := mayL_ref hmay
  obtain ⟨N, rfl⟩ : ∃ N, n = N + 1 := ⟨n - 1, by omega⟩
  obtain ⟨b, o, x, rfl, hx, hc⟩ := hr.at_ (by omega : N < l.length)
  have hxd : l.getD (l.length - 1) 0 = x := by rw [hl, Nat.add_sub_cancel, List.getD, hx]; rfl
  rw [hxd] at href hlast
  have hx0' : ((x : Int) == 0) = false := beq_eq_false_iff_ne.2 (by omega)
  have h256 : (N : Int) + 1 ≤ 256 := by omega
  have HRef := Lib.hid href
  have HL := Lib.hid hl
  have HR := Lib.hid hr
  have HB := Lib.hid f3
  have HKl := Lib.hid (kraft_le l)
  clear hl hr f1 f2 f3 hmay hx hxd hlast href
  go_enter Tryz.func82, Tryz.ntmps82
  go_wp2
  go_loopg [3, 4, 5] (N + 1) (fun g s3 s4 s5 wr => ∃ k : Nat, k ≤ N + 1 ∧ N + 1 - k ≤ g ∧ s3 = .int .i64 (kraft (l.take k) : Nat) ∧ s4 = .int .i64 (cntPos (l.take k) : Nat) ∧ s5 = .int .i64 k ∧ wr = w)
  case atStart => exact ⟨0, Nat.zero_le _, by omega, rfl, rfl, rfl, rfl⟩
  case round =>
    obtain ⟨k, hk, hg, rfl, rfl, rfl, rfl⟩ := hrel
    by_cases hlt : k < N + 1
    · obtain ⟨b', o', y, e', hy, hcy⟩ := HR.out.at_ (by rw [HL.out]; exact hlt : k < l.length)
      cases e'
      have hk1 := kraft_step hy
      have hk2 := cntPos_step hy
      have hk3 : kraft (l.take k) ≤ 1000000 := by
        have h := kraft_le (l.take k)
        rw [List.length_take] at h
        omega
      have hk4 : cntPos (l.take k) ≤ 1000 := by
        have h := cntPos_le (l.take k)
        rw [List.length_take] at h
        omega
      have hy11 := HB.out y (List.mem_of_getElem? hy)
      by_cases h0y : 0 < y
      · rw [if_pos h0y] at hk1 hk2
        have hpw : 2 ^ (11 - y) ≤ 2048 := (Nat.pow_le_pow_right (by omega) (by omega) : 2 ^ (11 - y) ≤ 2 ^ 11)
        have E : wrap64 ((2 : Int) ^ (11 - y)) = ((2 ^ (11 - y) : Nat) : Int) := by
          rw [show ((2 : Int) ^ (11 - y)) = ((2 ^ (11 - y) : Nat) : Int) from by simp, wrap64_nat (by omega)]
        have K1 := Lib.hid hk1
        have K2 := Lib.hid hk2
        clear hy hk1 hk2
        generalize kraft (l.take k) = s at *
        generalize cntPos (l.take k) = m at *
        generalize 2 ^ (11 - y) = pw at *
        have e9 : IntKind.i64.wrap ((s : Int) + pw) = (s : Int) + pw := wrapi64 (by omega) (by omega)
        go_wp2
        go_roundg (N + 1 - (k + 1))
        case measure => omega
        case rel => exact ⟨k + 1, by omega, by omega, int_eq (by rw [K1.out]; omega), int_eq (by rw [K2.out]; omega), by go_num, rfl⟩
      · rw [if_neg h0y] at hk1 hk2
        have K1 := Lib.hid hk1
        have K2 := Lib.hid hk2
        clear hy hk1 hk2
        generalize kraft (l.take k) = s at *
        generalize cntPos (l.take k) = m at *
        go_wp2
        go_roundg (N + 1 - (k + 1))
        case measure => omega
        case rel => exact ⟨k + 1, by omega, by omega, int_eq (by rw [K1.out]; omega), int_eq (by rw [K2.out]; omega), by go_num, rfl⟩
    · obtain rfl : k = N + 1 := by omega
      rw [List.take_of_length_le (by rw [HL.out]; exact Nat.le_refl _)]
      have hkl := HKl.out
      rw [HL.out] at hkl
      generalize kraft l = s at *
      generalize cntPos l = m at *
      rcases HRef.out with ⟨h1, h2⟩ | ⟨h1, h2⟩
      · subst h1
        subst h2
        go_wp2
        go_ret
        exact ⟨rfl, rfl⟩
      · subst h2
        have g1 : ((m : Int) == 1) = false := beq_eq_false_iff_ne.2 (by omega)
        go_wp2
        go_ret
        exact ⟨rfl, rfl⟩
theorem rowP_01 (l : List (Nat × Nat)) : Bits01 (rowP l) := fun x hx => by
  unfold rowP at hx
  obtain ⟨p, -, h⟩ := List.mem_flatMap.1 hx
  exact bitR_01 _ _ x h
set_option maxHeartbeats 4000000 in
set_option maxRecDepth 10000 in
theorem refPutTable (A : Option Addr) (n c : Nat) (l : List Nat) (w : World) (hl : l.length = n) (hr : Ns w A l) (hmay : mayL l = true) :
    Calls Tryz.prog 40 #[.slice A n c] w fun e w' => ∃ S m cs, e = .returned (.tuple #[.slice S m cs, .int .i64 0]) ∧ OwnB w' w.heap.size S m cs (tableB l) ∧ Below w.heap.size w w' := by
  obtain ⟨hn0, hn, h11⟩ := mayL_facts hmay
  have HMay := Lib.hid (refMay A n c l w hl hr hmay)
  have HPut := Lib.hid (refPut none 0 0 [] 8 (n - 1) w rfl (Rd.nil _ _) (by omega) (by omega) (by rw [hl] at hn; show n - 1 < 256; omega))
  have HLast := Lib.hid (mayL_last hmay)
  have HOk := Lib.hid (tabAll_ok hmay)
  have HL := Lib.hid hl
  have HR := Lib.hid hr
  have H11 := Lib.hid h11
  rw [hl] at hn0 hn
  have e8 : ((n - 1 : Nat) : Int) = (n : Int) - 1 := by omega
  rw [e8] at HPut
  clear hl hr hmay h11 e8
  go_enter Tryz.func40, Tryz.ntmps40
  go_wp2_with fail
  refine HMay.out.mono ?_
  rintro e w1 ⟨rfl, rfl⟩
  go_wp2_with fail
  refine HPut.out.mono ?_
  rintro e w3 ⟨A3, m3, c3, rfl, hown3, hb3⟩
  obtain ⟨F, hF⟩ : ∃ F, F = rowP (tabAll l) := ⟨_, rfl⟩
  have hm3 := OwnN.length hown3
  rw [List.nil_append, bitR_len] at hm3
  have hm3b : m3 ≤ 8 := by omega
  clear hm3
  have HO3 := Lib.hid hown3
  have HB3 := Lib.hid hb3
  have HF := Lib.hid hF
  have HF0 := Lib.hid (show bitR 8 (n - 1) ++ rowP (tabP l n 0) = F by rw [hF, ← HL.out]; rfl)
  clear hown3 hb3 hF HPut HMay
  obtain ⟨w0, hw0⟩ : ∃ w0, w0 = w1 := ⟨_, rfl⟩
  subst hw0
  go_wp2_with fail
  go_loopg [5, 7] n (fun gg s5 s7 wr => ∃ (i f m co : Nat) (Ao : Option Addr) (row : List Nat), i ≤ n ∧ n - i ≤ f ∧ f ≤ gg ∧ m ≤ 8 + 8 * i ∧ s5 = .slice Ao m co ∧ s7 = .int .i64 (i : Int) ∧ OwnN wr w0.heap.size Ao m co row ∧ row ++ rowP (tabP l f i) = F ∧ Below w0.heap.size w0 wr)
  case atStart => exact ⟨0, n, m3, c3, A3, _, by omega, by omega, Nat.le_refl _, by omega, rfl, rfl, HO3.out, HF0.out, HB3.out⟩
  case round =>
    clear HO3 HB3 HF0
    obtain ⟨i, f, m, co, Ao, row, hi, hf, hfg, hm, rfl, rfl, hO, hF, hb⟩ := hrel
    have HO := Lib.hid hO
    have HB := Lib.hid hb
    have HFin := Lib.hid hF
    have hml := OwnN.length hO
    have HMl := Lib.hid hml
    have hm9 : m ≤ 10000 := by omega
    clear hO hb hF hml
    by_cases hin : i < n
    · obtain ⟨f', rfl⟩ : ∃ f', f = f' + 1 := ⟨f - 1, by omega⟩
      obtain ⟨b, o, x, hA, hx, hc⟩ := HR.out.at_ (by rw [HL.out]; exact hin : i < l.length)
      subst hA
      have hc2 := (HB.out.cell (by simpa using block_lt hc)).trans hc
      have hx11 := H11.out x (List.mem_of_getElem? hx)
      have hxd : l.getD i 0 = x := by simp [List.getD, hx]
      have HXd := Lib.hid hxd
      have HPx := Lib.hid (refPut Ao m co row 4 x wr HMl.out (OwnN.ns HO.out) (by omega) (by omega) (by show x < 16; omega))
      clear hx hc hxd
      go_wp2_with fail
      refine HPx.out.mono ?_
      rintro e w4 ⟨A4, m4, c4, rfl, hown4, hb4⟩
      have hm4 := OwnN.length hown4
      rw [List.length_append, bitR_len, HMl.out] at hm4
      have HO4 := Lib.hid (show OwnN w4 w0.heap.size A4 m4 c4 (row ++ bitR 4 x) from Own.mono hown4 HB.out.size)
      have HB4 := Lib.hid (HB.out.trans (hb4.mono HB.out.size))
      have hm49 : m4 ≤ 10000 ∧ m4 ≤ 8 + 8 * i + 4 := by omega
      have hc4 := (hb4.cell (by simpa using block_lt hc2)).trans hc2
      clear hown4 hb4 HPx hm4 hc2
      by_cases hx0 : 0 < x
      · have HF2 := Lib.hid (show (row ++ bitR 4 x) ++ rowP (tabP l f' (i + 1)) = F by
          have h := HFin.out
          rw [tabP, if_pos (by rw [HL.out]; exact hin), HXd.out, if_neg (by omega), rowP_cons] at h
          rw [List.append_assoc]; exact h)
        go_wp2
        go_roundg f'
        case measure => omega
        case rel => exact ⟨i + 1, f', m4, c4, A4, _, by omega, by omega, by omega, by omega, rfl, by go_num, HO4.out, HF2.out, HB4.out⟩
      · obtain rfl : x = 0 := by omega
        have hi1 : i + 1 < n := by
          have h := HLast.out
          rcases (by omega : i + 1 < n ∨ i = n - 1) with h2 | h2
          · exact h2
          · rw [HL.out, ← h2, HXd.out] at h; omega
        obtain ⟨w5, hw5⟩ : ∃ w5, w5 = w4 := ⟨_, rfl⟩
        subst hw5
        go_wp2_with fail
        go_loopg [8] 16 (fun gg s8 wz => ∃ j : Nat, j ≤ 15 ∧ 15 - j ≤ gg ∧ s8 = .int .i64 ((j + 1 : Nat) : Int) ∧ i + j + 1 < n ∧ (∀ q, q < j → l.getD (i + 1 + q) 0 = 0) ∧ wz = w5)
        case atStart => exact ⟨0, by omega, by omega, rfl, by omega, fun q hq => by omega, rfl⟩
        case round =>
          obtain ⟨j, hj, hgj, rfl, hij, hz, rfl⟩ := hrel
          have HZ := Lib.hid hz
          clear hz
          by_cases hj16 : j < 15
          · obtain ⟨b2, o2, y, hA2, hy, hcy⟩ := HR.out.at_ (by rw [HL.out]; omega : i + (j + 1) < l.length)
            cases hA2
            have hcy2 := (HB4.out.cell (by simpa using block_lt hcy)).trans hcy
            have hyd : l.getD (i + (j + 1)) 0 = y := by simp [List.getD, hy]
            have HYd := Lib.hid hyd
            clear hy hcy hyd
            obtain ⟨jj, hjj⟩ : ∃ jj, jj = j + 1 := ⟨_, rfl⟩
            rw [← hjj] at hcy2 ⊢
            have hjb : jj < 16 ∧ i + jj < n := by omega
            have HJj := Lib.hid hjj
            have i1 : (i : Int) + jj < n := by omega
            clear hjj
            by_cases hy0 : y = 0
            · subst hy0
              have hij2 : i + j + 1 + 1 < n := by
                have h := HLast.out
                have hjj := HJj.out
                rcases (by omega : i + j + 1 + 1 < n ∨ i + (j + 1) = n - 1) with h2 | h2
                · exact h2
                · rw [HL.out, ← h2, HYd.out] at h; omega
              have HZ2 := Lib.hid (show ∀ q, q < j + 1 → l.getD (i + 1 + q) 0 = 0 from fun q hq => by
                rcases (by omega : q < j ∨ q = j) with h | rfl
                · exact HZ.out q h
                · rw [show i + 1 + q = i + (q + 1) by omega]; exact HYd.out)
              go_wp2
              go_roundg (15 - (j + 1))
              case measure => omega
              case rel => exact ⟨j + 1, by omega, by omega, by have := HJj.out; go_num, by omega, HZ2.out, rfl⟩
            · have g1 : ((y : Int) == 0) = false := beq_eq_false_iff_ne.2 (by omega)
              have HZr := Lib.hid (show zr l 15 i = j from zr_eq l 15 i j (by omega) HZ.out (.inr (by rw [show i + 1 + j = i + (j + 1) by omega, HYd.out]; exact hy0)))
              have HP2 : Hid (Calls Tryz.prog 83 #[.slice A4 m4 c4, .int .i64 4, .int .i64 ((jj : Int) - 1)] wr _) := Lib.hid (by
                have h := refPut A4 m4 c4 (row ++ bitR 4 0) 4 j wr (OwnN.length HO4.out) (OwnN.ns HO4.out) (by omega) (by omega) (by show j < 16; omega)
                have hjj := HJj.out
                have e : ((j : Nat) : Int) = (jj : Int) - 1 := by omega
                rw [e] at h
                exact h)
              go_wp2_with fail
              refine HP2.out.mono ?_
              rintro e w6 ⟨A6, m6, c6, rfl, hown6, hb6⟩
              have hm6 := OwnN.length hown6
              rw [List.length_append, bitR_len, OwnN.length HO4.out] at hm6
              have HO6 := Lib.hid (show OwnN w6 w0.heap.size A6 m6 c6 (row ++ bitR 4 0 ++ bitR 4 j) from Own.mono hown6 HB4.out.size)
              have HB6 := Lib.hid (HB4.out.trans (hb6.mono HB4.out.size))
              have HF2 := Lib.hid (show (row ++ bitR 4 0 ++ bitR 4 j) ++ rowP (tabP l f' (i + j + 1)) = F by
                have h := HFin.out
                rw [tabP, if_pos (by rw [HL.out]; exact hin), HXd.out, if_pos rfl, HZr.out, rowP_cons, rowP_cons] at h
                rw [← h]; simp [List.append_assoc])
              have hm69 : m6 ≤ 8 + 8 * (i + j + 1) := by omega
              clear hown6 hb6 HP2 hm6
              go_wp2
              go_roundg f'
              case measure => omega
              case rel => exact ⟨i + j + 1, f', m6, c6, A6, _, by omega, by omega, by omega, by omega, rfl, by have := HJj.out; go_num, HO6.out, HF2.out, HB6.out⟩
          · obtain rfl : j = 15 := by omega
            have HZr := Lib.hid (show zr l 15 i = 15 from zr_eq l 15 i 15 (by omega) HZ.out (.inl rfl))
            obtain ⟨jj, hjj⟩ : ∃ jj, jj = 15 + 1 := ⟨_, rfl⟩
            rw [← hjj]
            have hjb : jj ≤ 16 ∧ 16 ≤ jj := by omega
            have HJj := Lib.hid hjj
            clear hjj
            obtain ⟨j, hj15⟩ : ∃ j, j = 15 := ⟨_, rfl⟩
            rw [← hj15] at HZ HJj hij hgj
            have HZr := Lib.hid (show zr l 15 i = j by rw [hj15]; exact HZr.out)
            have hj16b : 15 ≤ j ∧ j ≤ 15 := by omega
            clear hj15
            have HP2 : Hid (Calls Tryz.prog 83 #[.slice A4 m4 c4, .int .i64 4, .int .i64 ((jj : Int) - 1)] wr _) := Lib.hid (by
              have h := refPut A4 m4 c4 (row ++ bitR 4 0) 4 j wr (OwnN.length HO4.out) (OwnN.ns HO4.out) (by omega) (by omega) (by show j < 16; omega)
              have hjj := HJj.out
              have e : ((j : Nat) : Int) = (jj : Int) - 1 := by omega
              rw [e] at h
              exact h)
            go_wp2_with fail
            refine HP2.out.mono ?_
            rintro e w6 ⟨A6, m6, c6, rfl, hown6, hb6⟩
            have hm6 := OwnN.length hown6
            rw [List.length_append, bitR_len, OwnN.length HO4.out] at hm6
            have HO6 := Lib.hid (show OwnN w6 w0.heap.size A6 m6 c6 (row ++ bitR 4 0 ++ bitR 4 j) from Own.mono hown6 HB4.out.size)
            have HB6 := Lib.hid (HB4.out.trans (hb6.mono HB4.out.size))
            have HF2 := Lib.hid (show (row ++ bitR 4 0 ++ bitR 4 j) ++ rowP (tabP l f' (i + j + 1)) = F by
              have h := HFin.out
              rw [tabP, if_pos (by rw [HL.out]; exact hin), HXd.out, if_pos rfl, HZr.out, rowP_cons, rowP_cons] at h
              rw [← h]; simp [List.append_assoc])
            have hm69 : m6 ≤ 8 + 8 * (i + j + 1) := by omega
            clear hown6 hb6 HP2 hm6
            go_wp2
            go_roundg f'
            case measure => omega
            case rel => exact ⟨i + j + 1, f', m6, c6, A6, _, by omega, by omega, by omega, by omega, rfl, by have := HJj.out; go_num, HO6.out, HF2.out, HB6.out⟩
    · have HT := Lib.hid (show row = F by
        have h := HFin.out
        rwa [tabP_end l f i (by rw [HL.out]; omega), rowP_nil, List.append_nil] at h)
      have HPk := Lib.hid (refBitPack Ao m co row wr HMl.out (OwnN.ns HO.out) (by omega) (by rw [HT.out, HF.out]; exact rowP_01 _))
      go_wp2_with fail
      refine HPk.out.mono ?_
      rintro e w4 ⟨A4, m4, c4, rfl, hown4, hb4⟩
      have HO4 := Lib.hid (show OwnB w4 w0.heap.size A4 m4 c4 (tableB l) by
        have h := Own.mono hown4 HB.out.size
        rw [HT.out, HF.out, pack_puts HOk.out] at h
        exact h)
      have HB4 := Lib.hid (HB.out.trans (hb4.mono HB.out.size))
      clear hown4 hb4 HPk
      go_wp2
      go_ret2
      exact ⟨A4, m4, c4, rfl, HO4.out, HB4.out⟩
end Go.Proofs.YtaelgbbnmjbjiaaGreat
namespace Go.Proofs.YtaelgbbnmjbjiaaGreat
open Go.RowKit
abbrev Sv := Option Addr × Nat × Nat
def svV (p : Sv) : Value := .slice p.1 p.2.1 p.2.2
theorem elemI_info : (Tryz.prog.info? 45).map (fun i => (i.zero, i.size, i.bytes)) = some (some (.slice none 0 0), 1, 24) := by kernel_rfl
theorem made_slices (n : Nat) : (madeCells #[Value.slice none 0 0] n).toList = (List.replicate n ((none, 0, 0) : Sv)).map svV := by
  rw [List.map_replicate]
  unfold madeCells
  apply List.ext_getElem
  · simp
  · intro i h1 h2
    simp [svV, Nat.mod_one]
structure CdM (l : List Nat) (wr : World) (B go n k m : Nat) (P : List Nat) (vs : List Sv) : Prop where
  own : Own wr go 45 (some ⟨go, 0, none⟩) n n (vs.map svV)
  rows : ∀ b x, l[b]? = some x → 0 < x → (x < k ∨ (x = k ∧ b < m)) → ∃ p, vs[b]? = some p ∧ OwnN wr B p.1 p.2.1 p.2.2 (codeR (P.getD b 0) x)
  lt : go < B
  hB : B ≤ wr.heap.size
section
variable {l : List Nat} {wr w' : World} {B go n k m : Nat} {P : List Nat} {vs : List Sv}
theorem CdM.skip (h : CdM l wr B go n k m P vs) {x : Nat} (hx : l[m]? = some x) (hk : x ≠ k) : CdM l wr B go n k (m + 1) P vs :=
  ⟨h.own, fun b y h1 h2 h3 => h.rows b y h1 h2 (by
    rcases h3 with h3 | ⟨h3, h4⟩
    · exact .inl h3
    · refine .inr ⟨h3, ?_⟩
      rcases (by omega : b < m ∨ b = m) with h5 | rfl
      · exact h5
      · rw [hx] at h1
        cases h1
        exact absurd h3 hk), h.lt, h.hB⟩
theorem CdM.level (h : CdM l wr B go n k l.length P vs) : CdM l wr B go n (k + 1) 0 P vs :=
  ⟨h.own, fun b y h1 h2 h3 => h.rows b y h1 h2 (by
    have := (List.getElem?_eq_some_iff.1 h1).1
    omega), h.lt, h.hB⟩
theorem CdM.put (h : CdM l wr B go n k m P vs) (hm : l[m]? = some k) (hl : vs.length = l.length) (hP : m < P.length) {p : Sv} {v : Nat} (hp : OwnN wr B p.1 p.2.1 p.2.2 (codeR v k)) :
    CdM l (wr.setCell ⟨go, m, none⟩ (svV p)) B go n k (m + 1) (P.set m v) (vs.set m p) := by
  have hml := (List.getElem?_eq_some_iff.1 hm).1
  refine ⟨?_, fun b x h1 h2 h3 => ?_, h.lt, by have := h.hB; simpa [World.setCell] using this⟩
  · have h2 := (Own.stored h.own m (svV p)).1
    rwa [← List.map_set] at h2
  · have hkeep : ∀ {A : Option Addr} {q c : Nat} {xs : List Nat}, OwnN wr B A q c xs → OwnN (wr.setCell ⟨go, m, none⟩ (svV p)) B A q c xs := fun h4 => Own.setCell h4 (by
      intro e
      have := (Own.lt h4 e).1
      have := h.lt
      simp only at *
      omega) _
    by_cases e : b = m
    · subst e
      rw [hm] at h1
      cases h1
      refine ⟨p, by rw [List.getElem?_set_self (by omega)], ?_⟩
      rw [List.getD, List.getElem?_set_self hP]
      exact hkeep hp
    · obtain ⟨q, h4, h5⟩ := h.rows b x h1 h2 (by omega)
      refine ⟨q, by rw [List.getElem?_set_ne (Ne.symm e)]; exact h4, ?_⟩
      rw [List.getD, List.getElem?_set_ne (Ne.symm e)]
      exact hkeep h5
theorem ne_new2 {w : World} {base : Nat} {e : TypeId} {A : Option Addr} {k c s : Nat} {xs : List Value} {r : Option Nat} (h : Own w base e A k c xs) (hs : w.heap.size ≤ s) (hr : ∀ k, r = some k → s ≤ k) : bk A = none ∨ bk A ≠ r := by
  cases hA : bk A with
  | none => exact .inl rfl
  | some q =>
    refine .inr (fun e => ?_)
    have h1 := hr q e.symm
    have h2 := (h.lt hA).2
    omega
theorem CdM.far {w6 w8 : World} {r : Option Nat} (h6 : CdM l w6 B go n k m P vs) (h7 : CdM l wr B go n k m P vs) (hg : wr.grownBy w8 r) (hr : ∀ k, r = some k → w6.heap.size ≤ k) : CdM l w8 B go n k m P vs :=
  ⟨Own.kept h7.own hg (ne_new2 h6.own (Nat.le_refl _) hr), fun b x h1 h2 h3 => by
    obtain ⟨p, h4, h5⟩ := h6.rows b x h1 h2 h3
    obtain ⟨q, h8, h9⟩ := h7.rows b x h1 h2 h3
    rw [h4] at h8
    cases h8
    exact ⟨p, h4, Own.kept h9 hg (ne_new2 h5 (Nat.le_refl _) hr)⟩, h7.lt, Nat.le_trans h7.hB hg.size⟩
end
set_option maxHeartbeats 8000000 in
set_option maxRecDepth 10000 in
theorem refCodes (A : Option Addr) (n c : Nat) (l : List Nat) (w : World) (hl : l.length = n) (hr : Ns w A l) (hn : n ≤ 256) (hb : ∀ x ∈ l, x ≤ 11) :
    Calls Tryz.prog 84 #[.slice A n c] w fun e w' => ∃ (S : Option Addr) (cs : Nat) (vs : List Sv), e = .returned (.slice S n cs) ∧ Own w' w.heap.size 45 S n cs (vs.map svV) ∧ vs.length = n ∧
      (∀ b x, l[b]? = some x → 0 < x → ∃ p, vs[b]? = some p ∧ OwnN w' w.heap.size p.1 p.2.1 p.2.2 (codeR ((codesL l).getD b 0) x)) ∧ Below w.heap.size w w' := by
  have HL := Lib.hid hl
  have HR := Lib.hid hr
  have HBd := Lib.hid hb
  have HF := Lib.hid (fun k => cAll_facts l (by omega) k : ∀ k, (cAll l k).1.length = 256 ∧ (cAll l k).2 + 256 ≤ 256 * 2 ^ k)
  clear hl hr hb
  obtain ⟨ti, hi, hz0, hz1, hz2⟩ := info_parts elemI_info
  go_enter Tryz.func84, Tryz.ntmps84
  go_wp2_with (at_make; refine wpList_make_full _ rfl _ _ 109 rfl w.heap.size 45 ti _ 1 Tryz.underlying109 hi hz0 hz1 .i64 .i64 n n n rfl rfl rfl rfl (by rw [hz2]; omega) (by unfold maxLen; omega) (Nat.le_refl _) ?_)
  intro w1 hown1 hg1
  have hown2 : Own w1 w.heap.size 45 (some ⟨w.heap.size, 0, none⟩) n n ((List.replicate n ((none, 0, 0) : Sv)).map svV) := by
    rw [← made_slices]; exact hown1
  have HB1 := Lib.hid ((Below.refl _ _).grown hg1 (Nat.le_refl _) (fun k hk => by cases hk) : Below w.heap.size w w1)
  have hgB : w.heap.size < w1.heap.size := (Own.lt hown2 rfl).2
  have HM1 := Lib.hid (⟨hown2, fun b x h1 h2 h3 => by omega, hgB, Nat.le_refl _⟩ : CdM l w1 w1.heap.size w.heap.size n 1 0 (cAll l 0).1 (List.replicate n ((none, 0, 0) : Sv)))
  obtain ⟨go, hgo⟩ : ∃ go, go = w.heap.size := ⟨_, rfl⟩
  obtain ⟨B, hB⟩ : ∃ B, B = w1.heap.size := ⟨_, rfl⟩
  rw [← hgo, ← hB] at HM1 hgB
  rw [← hgo]
  have HGo := Lib.hid hgo
  clear hown1 hown2 hg1 hi hz0 hz1 hz2 hgo hB
  go_wp2_with fail
  go_loopg [4, 5, 6] 11 (fun gg s4 s5 s6 wr => ∃ (k had code : Nat) (z : Int) (vs : List Sv), k ≤ 11 ∧ 11 - k ≤ gg ∧ s4 = .int .i64 z ∧ s5 = .int .i64 (had : Int) ∧ s6 = .int .i64 ((k + 1 : Nat) : Int) ∧ NxR k (cAll l k).2 code had ∧ had ≤ k ∧ (0 < had → z = (code : Int)) ∧ vs.length = n ∧ CdM l wr B go n (k + 1) 0 (cAll l k).1 vs ∧ Below w.heap.size w wr)
  case atStart => exact ⟨0, 0, 0, -1, _, by omega, by omega, rfl, rfl, rfl, .inl ⟨rfl, rfl⟩, by omega, fun h => by omega, List.length_replicate, HM1.out, HB1.out⟩
  case round =>
    clear HM1 HB1
    obtain ⟨k, had, code, z, vs, hk, hgg, rfl, rfl, rfl, hnx, hhad, hz, hvs, hM, hb⟩ := hrel
    have HNx := Lib.hid hnx
    have HZ := Lib.hid hz
    have HVs := Lib.hid hvs
    have HM := Lib.hid hM
    have HB := Lib.hid hb
    clear hnx hz hvs hM hb
    obtain ⟨K, hK⟩ : ∃ K, K = k + 1 := ⟨_, rfl⟩
    rw [← hK]
    have HK := Lib.hid hK
    by_cases hk11 : k < 11
    · have hK11 : K ≤ 11 ∧ 1 ≤ K := by omega
      obtain ⟨s, hs⟩ : ∃ s, s = ((cAll l k).1, 2 * (cAll l k).2) := ⟨_, rfl⟩
      have HAll := Lib.hid (show cAll l K = cRow l K s n by rw [hK, hs, ← HL.out]; rfl)
      have HR0 := Lib.hid (fun m => cRow_facts l K s m)
      have HM0 := Lib.hid (show CdM l wr B go n K 0 (cRow l K s 0).1 vs by
        have h := HM.out
        rw [hK, hs]; exact h)
      have HNx0 := Lib.hid (show NxR K (cRow l K s 0).2 code had by rw [hK, hs]; exact HNx.out.level)
      have HS := Lib.hid (show s.1.length = 256 ∧ s.2 ≤ 524288 by
        have h := HF.out k
        have h2 : (2:Nat) ^ k ≤ 2 ^ 10 := Nat.pow_le_pow_right (by omega) (by omega)
        rw [hs]
        exact ⟨h.1, by show 2 * _ ≤ _; omega⟩)
      have hhad2 : had ≤ K := by omega
      have g0 : decide ((K : Int) ≤ 11) = true := decide_eq_true (by omega)
      clear hK hs HM HNx hhad
      go_wp2_with fail
      go_loopg [4, 5, 7] n (fun gg s4 s5 s7 wr => ∃ (m had code : Nat) (z : Int) (vs : List Sv), m ≤ n ∧ n - m ≤ gg ∧ s4 = .int .i64 z ∧ s5 = .int .i64 (had : Int) ∧ s7 = .int .i64 (m : Int) ∧ NxR K (cRow l K s m).2 code had ∧ had ≤ K ∧ (0 < had → z = (code : Int)) ∧ vs.length = n ∧ CdM l wr B go n K m (cRow l K s m).1 vs ∧ Below w.heap.size w wr)
      case atStart => exact ⟨0, had, code, z, vs, by omega, by omega, rfl, rfl, rfl, HNx0.out, hhad2, HZ.out, HVs.out, HM0.out, HB.out⟩
      case round =>
        clear HNx0 HZ HVs HM0 HB hhad2
        obtain ⟨m, had, code, z, vs, hm, hgm, rfl, rfl, rfl, hnx, hhad, hz, hvs, hM, hb⟩ := hrel
        have HNx := Lib.hid hnx
        have HZ := Lib.hid hz
        have HVs := Lib.hid hvs
        have HM := Lib.hid hM
        have HB := Lib.hid hb
        clear hnx hz hvs hM hb
        by_cases hmn : m < n
        · obtain ⟨b, o, x, hA, hx, hc⟩ := HR.out.at_ (by rw [HL.out]; exact hmn : m < l.length)
          subst hA
          have hc2 := (HB.out.cell (by simpa using block_lt hc)).trans hc
          have HX := Lib.hid hx
          have hx11 := HBd.out x (List.mem_of_getElem? hx)
          clear hx hc
          by_cases hxk : x = K
          · subst hxk
            have HSt := Lib.hid (show cRow l x s (m + 1) = ((cRow l x s m).1.set m (cRow l x s m).2, (cRow l x s m).2 + 1) by
              rw [cRow, cStep, if_pos HX.out])
            have HR1 := Lib.hid (show (cRow l x s m).2 ≤ 600000 ∧ m < (cRow l x s m).1.length by
              have h1 := HR0.out m
              have h2 := HS.out
              rw [h1.1, h2.1]
              omega)
            obtain ⟨P, hP⟩ : ∃ P, P = (cRow l x s m).1 := ⟨_, rfl⟩
            obtain ⟨nx, hnx⟩ : ∃ nx, nx = (cRow l x s m).2 := ⟨_, rfl⟩
            rw [← hP, ← hnx] at HSt HR1
            rw [← hP] at HM
            rw [← hnx] at HNx
            have hnx9 : nx ≤ 600000 := HR1.out.1
            clear hP hnx
            rcases Nat.eq_zero_or_pos had with h0 | h0
            · have g1 : ((had : Int) == 0) = true := by rw [h0]; rfl
              have hnx0 : nx = 0 := by
                rcases HNx.out with h | h
                · exact h.2
                · omega
              have HNx0 := Lib.hid hnx0
              have HH0 := Lib.hid h0
              clear hnx0 h0
              go_wp2_with fail
              obtain ⟨w2, hw2⟩ : ∃ w2, w2 = wr := ⟨_, rfl⟩
              subst hw2
              have HMq := Lib.hid HM.out
              have HBq := Lib.hid HB.out
              clear HM HB
              go_loopg [8, 9] x (fun gg s8 s9 wz => ∃ (j mo co : Nat) (Ao : Option Addr) (a : List Nat), j ≤ x ∧ j ≤ gg ∧ mo + j ≤ 11 ∧ s8 = .slice Ao mo co ∧ s9 = .int .i64 ((j : Int) - 1) ∧ OwnN wz w2.heap.size Ao mo co a ∧ w2.heap.size ≤ wz.heap.size ∧ a ++ codeR nx j = codeR nx x ∧ CdM l wz B go n x m P vs ∧ Below w.heap.size w wz)
              case atStart => exact ⟨x, 0, 0, none, [], Nat.le_refl _, Nat.le_refl _, by omega, rfl, by go_num, OwnN.nil _ _, Nat.le_refl _, rfl, HMq.out, HBq.out⟩
              case round =>
                clear HBq
                obtain ⟨j, mo, co, Ao, a, hj, hgj, hmo, rfl, rfl, hO, hw9, hcode, hM, hb⟩ := hrel
                have HO := Lib.hid hO
                have HC := Lib.hid hcode
                have HM := Lib.hid hM
                have HB := Lib.hid hb
                clear hO hcode hM hb
                cases j with
                | zero =>
                  have HO2 := Lib.hid (show OwnN wr B Ao mo co (codeR nx x) by
                    have h := HC.out
                    rw [codeR, List.append_nil] at h
                    rw [← h]; exact Own.mono HO.out HMq.out.hB)
                  have hmx := OwnN.length HO2.out
                  rw [codeR_len] at hmx
                  have HM2 := Lib.hid (HM.out.put HX.out (by rw [HVs.out, HL.out]) HR1.out.2 (p := (Ao, mo, co)) HO2.out)
                  obtain ⟨gz, xz, hgz, hgz1, -, hxz, hcz, hfz⟩ := Own.at_ HM.out.own (k := m) hmn
                  cases hgz
                  have HB2 := Lib.hid (HB.out.setCell (p := ⟨go, m, none⟩) (by have := HGo.out; show w.heap.size ≤ go; omega) (.slice Ao mo co))
                  have HV2 := Lib.hid (show (vs.set m (Ao, mo, co)).length = n by rw [List.length_set]; exact HVs.out)
                  have i1 : (m : Int) < n := by omega
                  have HMx := Lib.hid hmx
                  clear hxz hmx
                  go_wp2
                  go_roundg (n - (m + 1))
                  case measure => omega
                  case rel => exact ⟨m + 1, x, nx, _, _, by omega, by omega, rfl, rfl, by go_num, by rw [HSt.out]; exact NxR.next (by omega), Nat.le_refl _, fun _ => by have := HNx0.out; omega, HV2.out, by rw [HSt.out]; exact HM2.out, HB2.out⟩
                | succ j =>
                  have e1 : ((j + 1 : Nat) : Int) - 1 = (j : Int) := by omega
                  rw [e1]
                  have HC2 := Lib.hid (show (a ++ [nx / 2 ^ j % 2]) ++ codeR nx j = codeR nx x by
                    have h := HC.out
                    rw [codeR] at h
                    rw [List.append_assoc]; exact h)
                  have hB9 := HM.out.hB
                  clear e1
                  go_wp2_with (at_builtin; refine wpList_append_one rfl _ _ elemN rfl w2.heap.size Ao mo co (a.map natv) wr (.int .i64 0) ?hw rfl HO.out ?hx rfl ?d1 ?d2 hw9 ?_)
                  case hw => rfl
                  case hx => rfl
                  case d1 => omega
                  case d2 => omega
                  intro A3 c3 w3 hown3 hb3 hg3 hat3
                  have HO3 := Lib.hid (show OwnN w3 w2.heap.size A3 (mo + 1) c3 (a ++ [nx / 2 ^ j % 2]) from by
                    unfold OwnN
                    rw [List.map_append]
                    have e : natv (nx / 2 ^ j % 2) = .int .i64 0 := by rw [HNx0.out]; unfold natv; simp
                    show Own w3 w2.heap.size 3 A3 (mo + 1) c3 (a.map natv ++ [natv (nx / 2 ^ j % 2)])
                    rw [e]; exact hown3)
                  have HM3 := Lib.hid (HMq.out.far HM.out hg3 (fun k hk => (Own.lt HO.out hk).1))
                  have HB3 := Lib.hid (HB.out.trans (hb3.mono (by have := HMq.out.hB; have := HM.out.lt; have := HGo.out; omega)))
                  clear hown3 hb3 hat3
                  go_wp2
                  go_roundg j
                  case measure => omega
                  case rel => exact ⟨j, mo + 1, c3, A3, _, by omega, by omega, by omega, rfl, by go_num, HO3.out, Nat.le_trans hw9 hg3.size, HC2.out, HM3.out, HB3.out⟩
            · have g1 : ((had : Int) == 0) = false := beq_eq_false_iff_ne.2 (by omega)
              have hzc : z = (code : Int) := HZ.out h0
              subst hzc
              have hnx1 : nx = (code + 1) * 2 ^ (x - had) := by
                rcases HNx.out with h | h
                · omega
                · exact h.2.2
              have hcode : code ≤ 600000 := by
                have : 1 ≤ 2 ^ (x - had) := Nat.one_le_two_pow
                have := Nat.mul_le_mul_left (code + 1) this
                omega
              have e5 : wrap64 (((code : Int) + 1) * 2 ^ (x - had)) = (nx : Int) := by
                have e6 : ((code : Int) + 1) * 2 ^ (x - had) = (nx : Int) := by rw [hnx1]; simp
                rw [e6, wrap64_nat (by omega)]
              have i5 : (had : Int) ≤ (x : Int) := by omega
              have HNx1 := Lib.hid hnx1
              clear hnx1
              go_wp2_with fail
              obtain ⟨w2, hw2⟩ : ∃ w2, w2 = wr := ⟨_, rfl⟩
              subst hw2
              have HMq := Lib.hid HM.out
              have HBq := Lib.hid HB.out
              clear HM HB
              go_loopg [8, 9] x (fun gg s8 s9 wz => ∃ (j mo co : Nat) (Ao : Option Addr) (a : List Nat), j ≤ x ∧ j ≤ gg ∧ mo + j ≤ 11 ∧ s8 = .slice Ao mo co ∧ s9 = .int .i64 ((j : Int) - 1) ∧ OwnN wz w2.heap.size Ao mo co a ∧ w2.heap.size ≤ wz.heap.size ∧ a ++ codeR nx j = codeR nx x ∧ CdM l wz B go n x m P vs ∧ Below w.heap.size w wz)
              case atStart => exact ⟨x, 0, 0, none, [], Nat.le_refl _, Nat.le_refl _, by omega, rfl, by go_num, OwnN.nil _ _, Nat.le_refl _, rfl, HMq.out, HBq.out⟩
              case round =>
                clear HBq
                obtain ⟨j, mo, co, Ao, a, hj, hgj, hmo, rfl, rfl, hO, hw9, hcode, hM, hb⟩ := hrel
                have HO := Lib.hid hO
                have HC := Lib.hid hcode
                have HM := Lib.hid hM
                have HB := Lib.hid hb
                clear hO hcode hM hb
                cases j with
                | zero =>
                  have HO2 := Lib.hid (show OwnN wr B Ao mo co (codeR nx x) by
                    have h := HC.out
                    rw [codeR, List.append_nil] at h
                    rw [← h]; exact Own.mono HO.out HMq.out.hB)
                  have hmx := OwnN.length HO2.out
                  rw [codeR_len] at hmx
                  have HM2 := Lib.hid (HM.out.put HX.out (by rw [HVs.out, HL.out]) HR1.out.2 (p := (Ao, mo, co)) HO2.out)
                  obtain ⟨gz, xz, hgz, hgz1, -, hxz, hcz, hfz⟩ := Own.at_ HM.out.own (k := m) hmn
                  cases hgz
                  have HB2 := Lib.hid (HB.out.setCell (p := ⟨go, m, none⟩) (by have := HGo.out; show w.heap.size ≤ go; omega) (.slice Ao mo co))
                  have HV2 := Lib.hid (show (vs.set m (Ao, mo, co)).length = n by rw [List.length_set]; exact HVs.out)
                  have i1 : (m : Int) < n := by omega
                  have HMx := Lib.hid hmx
                  clear hxz hmx
                  go_wp2
                  go_roundg (n - (m + 1))
                  case measure => omega
                  case rel => exact ⟨m + 1, x, nx, _, _, by omega, by omega, rfl, rfl, by go_num, by rw [HSt.out]; exact NxR.next (by omega), Nat.le_refl _, fun _ => rfl, HV2.out, by rw [HSt.out]; exact HM2.out, HB2.out⟩
                | succ j =>
                  have e1 : ((j + 1 : Nat) : Int) - 1 = (j : Int) := by omega
                  rw [e1]
                  have HC2 := Lib.hid (show (a ++ [nx / 2 ^ j % 2]) ++ codeR nx j = codeR nx x by
                    have h := HC.out
                    rw [codeR] at h
                    rw [List.append_assoc]; exact h)
                  have hB9 := HM.out.hB
                  clear e1
                  go_wp2_with (at_builtin; refine wpList_append_one rfl _ _ elemN rfl w2.heap.size Ao mo co (a.map natv) wr (.int .i64 ((nx : Int) / 2 ^ j % 2)) ?hw rfl HO.out ?hx rfl ?d1 ?d2 hw9 ?_)
                  case hw => rfl
                  case hx => rfl
                  case d1 => omega
                  case d2 => omega
                  intro A3 c3 w3 hown3 hb3 hg3 hat3
                  have HO3 := Lib.hid (show OwnN w3 w2.heap.size A3 (mo + 1) c3 (a ++ [nx / 2 ^ j % 2]) from by
                    unfold OwnN
                    rw [List.map_append]
                    have e : natv (nx / 2 ^ j % 2) = .int .i64 ((nx : Int) / 2 ^ j % 2) := by unfold natv; simp
                    show Own w3 w2.heap.size 3 A3 (mo + 1) c3 (a.map natv ++ [natv (nx / 2 ^ j % 2)])
                    rw [e]; exact hown3)
                  have HM3 := Lib.hid (HMq.out.far HM.out hg3 (fun k hk => (Own.lt HO.out hk).1))
                  have HB3 := Lib.hid (HB.out.trans (hb3.mono (by have := HMq.out.hB; have := HM.out.lt; have := HGo.out; omega)))
                  clear hown3 hb3 hat3
                  go_wp2
                  go_roundg j
                  case measure => omega
                  case rel => exact ⟨j, mo + 1, c3, A3, _, by omega, by omega, by omega, rfl, by go_num, HO3.out, Nat.le_trans hw9 hg3.size, HC2.out, HM3.out, HB3.out⟩
          · have g1 : ((x : Int) == K) = false := beq_eq_false_iff_ne.2 (by omega)
            have HSt := Lib.hid (show cRow l K s (m + 1) = cRow l K s m by
              rw [cRow, cStep, if_neg (by rw [HX.out]; exact fun e => hxk (Option.some.inj e))])
            have HM2 := Lib.hid (HM.out.skip HX.out hxk)
            go_wp2
            go_roundg (n - (m + 1))
            case measure => omega
            case rel => exact ⟨m + 1, had, code, z, vs, by omega, by omega, rfl, rfl, by go_num, by rw [HSt.out]; exact HNx.out, hhad, HZ.out, HVs.out, by rw [HSt.out]; exact HM2.out, HB.out⟩
        · obtain rfl : m = n := by omega
          have HM2 := Lib.hid (show CdM l wr B go m (K + 1) 0 (cAll l K).1 vs by
            have h := HM.out
            rw [← HAll.out] at h
            have h2 := HL.out
            subst h2
            exact h.level)
          have HNx2 := Lib.hid (show NxR K (cAll l K).2 code had by rw [HAll.out]; exact HNx.out)
          go_wp2
          go_roundg (11 - K)
          case measure => have := HK.out; omega
          case rel => exact ⟨K, had, code, z, vs, by omega, by omega, rfl, rfl, by go_num, HNx2.out, hhad, HZ.out, HVs.out, HM2.out, HB.out⟩
    · obtain rfl : k = 11 := by omega
      have HK2 := Lib.hid (show K ≤ 12 ∧ 12 ≤ K by omega)
      have hK2 := HK2.out
      have HFin := Lib.hid (show ∀ b x, l[b]? = some x → 0 < x → ∃ p, vs[b]? = some p ∧ OwnN wr w.heap.size p.1 p.2.1 p.2.2 (codeR ((codesL l).getD b 0) x) from fun b x h1 h2 => by
        have h3 := HBd.out x (List.mem_of_getElem? h1)
        obtain ⟨p, h4, h5⟩ := HM.out.rows b x h1 h2 (by omega)
        exact ⟨p, h4, Own.mono h5 (by have := HGo.out; omega)⟩)
      clear hK
      go_wp2
      go_ret
      exact ⟨_, n, vs, rfl, by rw [← HGo.out]; exact HM.out.own, HVs.out, HFin.out, HB.out⟩
end Go.Proofs.YtaelgbbnmjbjiaaGreat
namespace Go.Proofs.YtaelgbbnmjbjiaaGreat
open Go.RowKit
def encR (lens : List Nat) (l : List UInt8) : List Nat := l.flatMap (fun b => codeR ((codesL lens).getD b.toNat 0) (lens.getD b.toNat 0))
theorem encR_step {lens : List Nat} {l : List UInt8} {k : Nat} {b : UInt8} (h : l[k]? = some b) : encR lens (l.take (k + 1)) = encR lens (l.take k) ++ codeR ((codesL lens).getD b.toNat 0) (lens.getD b.toNat 0) := by
  unfold encR
  rw [List.take_add_one, h]
  simp [List.flatMap_append]
set_option maxHeartbeats 4000000 in
set_option maxRecDepth 10000 in
theorem refEncode (A : Option Addr) (n c : Nat) (lens : List Nat) (A2 : Option Addr) (n2 c2 : Nat) (l : List UInt8) (w : World) (hl : lens.length = n) (hr : Ns w A lens) (hmay : mayL lens = true) (hl2 : l.length = n2) (hr2 : Bs w A2 l) (hn2 : n2 ≤ 65536) (hp : ∀ b ∈ l, b.toNat < n ∧ 0 < lens.getD b.toNat 0) :
    Calls Tryz.prog 41 #[.slice A n c, .slice A2 n2 c2] w fun e w' => ∃ S m cs, e = .returned (.tuple #[.slice S m cs, .int .i64 0]) ∧ OwnB w' w.heap.size S m cs (bodyB lens l) ∧ Below w.heap.size w w' := by
  obtain ⟨hn0, hn, h11⟩ := mayL_facts hmay
  have HMay := Lib.hid (refMay A n c lens w hl hr hmay)
  have HCd := Lib.hid (refCodes A n c lens w hl hr (by omega) h11)
  have HL := Lib.hid hl
  have HR := Lib.hid hr
  have HL2 := Lib.hid hl2
  have HR2 := Lib.hid hr2
  have H11 := Lib.hid h11
  have HP := Lib.hid hp
  rw [hl] at hn0 hn
  clear hl hr hl2 hr2 hmay h11 hp
  go_enter Tryz.func41, Tryz.ntmps41
  go_wp2_with fail
  refine HMay.out.mono ?_
  rintro e w1 ⟨rfl, rfl⟩
  go_wp2_with fail
  refine HCd.out.mono ?_
  rintro e w2 ⟨S, cs, vs, rfl, hown, hvs, hcd, hb⟩
  have HO := Lib.hid hown
  have HVs := Lib.hid hvs
  have HC := Lib.hid hcd
  have HB := Lib.hid hb
  obtain ⟨g, -, hS, -, -, -, -, -⟩ := Own.at_ hown (k := 0) hn0
  subst hS
  clear hown hvs hcd hb HMay HCd
  obtain ⟨w0, hw0⟩ : ∃ w0, w0 = w1 := ⟨_, rfl⟩
  subst hw0
  go_wp2_with fail
  go_loopg [8, 9] n2 (fun gg s8 s9 wr => ∃ (k m co : Nat) (Ao : Option Addr), k ≤ n2 ∧ n2 - k ≤ gg ∧ m ≤ 11 * k ∧ s8 = .slice Ao m co ∧ s9 = .int .i64 (k : Int) ∧ OwnN wr w2.heap.size Ao m co (encR lens (l.take k)) ∧ Below w2.heap.size w2 wr)
  case atStart => exact ⟨0, 0, 0, none, by omega, by omega, by omega, rfl, rfl, OwnN.nil _ _, Below.refl _ _⟩
  case round =>
    obtain ⟨k, m, co, Ao, hk, hgg, hm, rfl, rfl, hO, hb⟩ := hrel
    have HOr := Lib.hid hO
    have HBr := Lib.hid hb
    clear hO hb
    have hm9 : m ≤ 1000000 := by omega
    by_cases hkn : k < n2
    · obtain ⟨b2, o2, u, hA2, hu, hcu⟩ := HR2.out.at_ (by rw [HL2.out]; exact hkn : k < l.length)
      subst hA2
      have hcu1 := (HB.out.cell (by simpa using block_lt hcu)).trans hcu
      have hcu2 := (HBr.out.cell (by simpa using block_lt hcu1)).trans hcu1
      have hu9 := u.toNat_lt
      obtain ⟨hun, hu0⟩ := HP.out u (List.mem_of_getElem? hu)
      have HSt := Lib.hid (encR_step (lens := lens) hu)
      obtain ⟨U, hU⟩ : ∃ U, U = u.toNat := ⟨_, rfl⟩
      rw [← hU] at hcu2 hun hu0 hu9 HSt
      obtain ⟨b, o, x, hA, hx, hc⟩ := HR.out.at_ (by rw [HL.out]; exact hun : U < lens.length)
      subst hA
      have hc1 := (HB.out.cell (by simpa using block_lt hc)).trans hc
      have hc2 := (HBr.out.cell (by simpa using block_lt hc1)).trans hc1
      have hxd : lens.getD U 0 = x := by simp [List.getD, hx]
      rw [hxd] at hu0 HSt
      have hx11 := H11.out x (List.mem_of_getElem? hx)
      obtain ⟨⟨pA, pn, pc⟩, hp1, hp2⟩ := HC.out U x hx hu0
      simp only at hp2
      have hpn := OwnN.length hp2
      rw [codeR_len] at hpn
      have HPn := Lib.hid hpn
      have hpn9 : pn ≤ 11 := by omega
      have HRp := Lib.hid (Own.rd (Own.later hp2 HBr.out))
      obtain ⟨gz, xz, hgz, -, -, hxz, hcz, -⟩ := Own.at_ HO.out hun
      cases hgz
      have hxv : xz = .slice pA pn pc := by
        rw [List.getElem?_map, hp1] at hxz
        exact (Option.some.inj hxz).symm
      subst hxv
      have hcz2 := (HBr.out.cell (by simpa using block_lt hcz)).trans hcz
      have g1 : ((x : Int) == 0) = false := beq_eq_false_iff_ne.2 (by omega)
      have i1 : (U : Int) < n := by omega
      clear hcu hcu1 hc hc1 hx hxd hu hU hp1 hp2 hpn hxz hcz
      go_wp2_with (at_builtin; refine wpList_append_rd rfl _ _ elemN rfl w2.heap.size Ao m co ((encR lens (l.take k)).map natv) rfl HOr.out pA pn pc ((codeR ((codesL lens).getD U 0) x).map natv) ?hx HRp.out ?h1 (nat_one _) ?h2 ?h3 HBr.out.size ?_)
      case hx => rfl
      case h1 => rw [List.length_map, codeR_len]; exact HPn.out
      case h2 => omega
      case h3 => omega
      intro A7 c7 w7 hown7 hb7 hg7 hat7
      have HO7 := Lib.hid (show OwnN w7 w2.heap.size A7 (m + pn) c7 (encR lens (l.take (k + 1))) by
        rw [HSt.out]
        unfold OwnN
        rw [List.map_append]
        exact hown7)
      have HB7 := Lib.hid (HBr.out.trans hb7)
      clear hown7 hb7 hg7 hat7
      go_wp2
      go_roundg (n2 - (k + 1))
      case measure => omega
      case rel => exact ⟨k + 1, m + pn, c7, A7, by omega, by omega, by omega, rfl, by go_num, HO7.out, HB7.out⟩
    · obtain rfl : k = n2 := by omega
      have HO2 := Lib.hid (show OwnN wr w2.heap.size Ao m co (encR lens l) by
        have h := HOr.out
        rwa [List.take_of_length_le (by rw [HL2.out]; exact Nat.le_refl _)] at h)
      have HPk := Lib.hid (refBitPack Ao m co (encR lens l) wr (OwnN.length HO2.out) (OwnN.ns HO2.out) (by omega) (by rw [encR, ← rowP_encP]; exact rowP_01 _))
      go_wp2_with fail
      refine HPk.out.mono ?_
      rintro e w4 ⟨A4, m4, c4, rfl, hown4, hb4⟩
      have HO4 := Lib.hid (show OwnB w4 w0.heap.size A4 m4 c4 (bodyB lens l) by
        rw [← body_row]
        exact Own.mono hown4 (Nat.le_trans HB.out.size HBr.out.size))
      have HB4 := Lib.hid (HB.out.trans ((HBr.out.mono HB.out.size).trans (hb4.mono (Nat.le_trans HB.out.size HBr.out.size))))
      clear hown4 hb4 HPk
      go_wp2
      go_ret2
      exact ⟨A4, m4, c4, rfl, HO4.out, HB4.out⟩
end Go.Proofs.YtaelgbbnmjbjiaaGreat
namespace Go.Proofs.YtaelgbbnmjbjiaaGreat
open Go.RowKit
structure RowT (α : Type) where
  st : TypeId
  e : TypeId
  k : Nat
  bytes : Nat
  z : Value
  hu : Tryz.prog.underlying st = some (.slice e)
  hi : (Tryz.prog.info? e).map (fun i => (i.zero, i.size, i.bytes)) = some (some z, k, bytes)
  hz : z.cells.size = k
  hk : 0 < k
  hb : bytes ≤ 512
  cl : α → List Value
  hl : ∀ a, (cl a).length = k
  h1 : ∀ a, ∀ v ∈ cl a, v.oneCell' = true
def RowT.fl {α : Type} (T : RowT α) (l : List α) : List Value := l.flatMap T.cl
theorem RowT.fl_len {α : Type} (T : RowT α) : ∀ l : List α, (T.fl l).length = l.length * T.k
  | [] => by simp [RowT.fl]
  | a :: l => by
    have h := T.fl_len l
    unfold RowT.fl at *
    rw [List.flatMap_cons, List.length_append, h, T.hl, List.length_cons, Nat.add_mul]; omega
theorem RowT.fl_app {α : Type} (T : RowT α) (l m : List α) : T.fl l ++ T.fl m = T.fl (l ++ m) := by simp [RowT.fl]
theorem RowT.fl_at {α : Type} (T : RowT α) : ∀ (l : List α) (i : Nat) (x : α), l[i]? = some x → ∀ j, j < T.k → (T.fl l)[i * T.k + j]? = (T.cl x)[j]?
  | [], i, x, h, j, hj => by simp at h
  | a :: l, 0, x, h, j, hj => by
    simp only [List.getElem?_cons_zero, Option.some.injEq] at h
    subst h
    unfold RowT.fl
    rw [List.flatMap_cons, Nat.zero_mul, Nat.zero_add, List.getElem?_append_left (by rw [T.hl]; exact hj)]
  | a :: l, i + 1, x, h, j, hj => by
    have hh := T.fl_at l i x (by simpa using h) j hj
    unfold RowT.fl at *
    rw [List.flatMap_cons, List.getElem?_append_right (by rw [T.hl, Nat.add_mul]; omega), T.hl, show (i + 1) * T.k + j - T.k = i * T.k + j by rw [Nat.add_mul]; omega]
    exact hh
theorem RowT.fl_one_el {α : Type} (T : RowT α) (a : α) : T.fl [a] = T.cl a := by simp [RowT.fl]
def RowT.Own {α : Type} (T : RowT α) (w : World) (base : Nat) (A : Option Addr) (n c : Nat) (l : List α) : Prop := w.ownsRow base T.e T.k (.slice A n c) n (T.fl l)
theorem RowT.Own.nil {α : Type} (T : RowT α) (w : World) (base : Nat) : T.Own w base none 0 0 [] := World.ownsRow_nil w base _ T.k
theorem RowT.Own.length {α : Type} {T : RowT α} {w : World} {base n c : Nat} {A : Option Addr} {l : List α} (h : T.Own w base A n c l) : l.length = n := by
  have h1 := h.1
  rw [T.fl_len] at h1
  exact Nat.eq_of_mul_eq_mul_right T.hk h1
theorem RowT.Own.lt {α : Type} {T : RowT α} {w : World} {base n c : Nat} {A : Option Addr} {l : List α} (h : T.Own w base A n c l) {k : Nat} (hk : bk A = some k) : base ≤ k ∧ k < w.heap.size := by
  rcases h.2 with ⟨hv, -⟩ | ⟨g, cap, cur, hv, h1, h2, -⟩
  · simp only [Value.slice.injEq] at hv
    rw [hv.1] at hk; cases hk
  · simp only [Value.slice.injEq] at hv
    rw [hv.1] at hk
    cases hk
    exact ⟨h1, (Array.getElem?_eq_some_iff.1 h2).1⟩
theorem RowT.Own.kept {α : Type} {T : RowT α} {w w' : World} {row : Option Nat} {base n c : Nat} {A : Option Addr} {l : List α} (h : T.Own w base A n c l) (hg : w.grownBy w' row) (hne : bk A = none ∨ bk A ≠ row) : T.Own w' base A n c l :=
  World.ownsRow.kept h hg (by rw [ownBlock_eq]; exact hne)
theorem RowT.Own.later {α : Type} {T : RowT α} {w w' : World} {base n c : Nat} {A : Option Addr} {l : List α} (h : T.Own w base A n c l) (hb : Below w.heap.size w w') : T.Own w' base A n c l := by
  refine h.kept (grown_of_below hb) ?_
  cases A <;> simp [bk]
theorem RowT.Own.same {α : Type} {T : RowT α} {w w' : World} {base n c : Nat} {A : Option Addr} {l : List α} (h : T.Own w base A n c l) (hb : ∀ k, bk A = some k → w'.heap[k]? = w.heap[k]?) : T.Own w' base A n c l := by
  refine ⟨h.1, ?_⟩
  rcases h.2 with h2 | ⟨g, cap, cur, hv, h1, hg, h3⟩
  · exact .inl h2
  · refine .inr ⟨g, cap, cur, hv, h1, ?_, h3⟩
    simp only [Value.slice.injEq] at hv
    rw [hb g (by rw [hv.1]; rfl)]
    exact hg
theorem RowT.Own.mono {α : Type} {T : RowT α} {w : World} {base base' n c : Nat} {A : Option Addr} {l : List α} (h : T.Own w base A n c l) (hb : base' ≤ base) : T.Own w base' A n c l := by
  refine ⟨h.1, ?_⟩
  rcases h.2 with h2 | ⟨g, cap, cur, hv, h1, h3⟩
  · exact .inl h2
  · exact .inr ⟨g, cap, cur, hv, Nat.le_trans hb h1, h3⟩
theorem RowT.Own.form {α : Type} {T : RowT α} {w : World} {base n c : Nat} {A : Option Addr} {l : List α} (h : T.Own w base A n c l) : (A = none ∧ n = 0 ∧ c = 0) ∨ ∃ g, A = some ⟨g, 0, none⟩ := by
  rcases h.2 with ⟨hv, h0⟩ | ⟨g, cap, cur, hv, -⟩
  · simp only [Value.slice.injEq] at hv
    exact .inl ⟨hv.1, hv.2.1, hv.2.2⟩
  · simp only [Value.slice.injEq] at hv
    exact .inr ⟨g, hv.1⟩
theorem RowT.Own.range {α : Type} {T : RowT α} {w : World} {base n c : Nat} {A : Option Addr} {l : List α} (h : T.Own w base A n c l) {i : Nat} {x : α} (hx : l[i]? = some x) :
    ∃ g, A = some ⟨g, 0, none⟩ ∧ base ≤ g ∧ g < w.heap.size ∧ w.rangeAt g (i * T.k) (T.cl x) ∧ ∀ j, w.frozen? ⟨g, j, none⟩ = false := by
  have hl := h.length
  have hi : i < l.length := (List.getElem?_eq_some_iff.1 hx).1
  have hfl := T.fl_len l
  rcases h.form with ⟨-, h0, -⟩ | ⟨g, rfl⟩
  · omega
  have hg := h.lt (k := g) rfl
  refine ⟨g, rfl, hg.1, hg.2, fun j v hv => ?_, fun j => World.ownsRow.frozenAt h j⟩
  have hj : j < T.k := by rw [← T.hl x]; exact (List.getElem?_eq_some_iff.1 hv).1
  have hlt : i * T.k + j < (T.fl l).length := by
    rw [hfl]
    have := Nat.mul_le_mul_right T.k (show i + 1 ≤ l.length from hi)
    rw [Nat.add_mul] at this
    omega
  have hcell : w.cell? ⟨g, i * T.k + j, none⟩ = (T.fl l)[i * T.k + j]? := World.ownsRow.cellAt h _ (by rw [← hl, ← hfl]; exact hlt)
  rw [hcell, T.fl_at l i x hx j hj, hv]
theorem RowT.run_append {α : Type} (T : RowT α) (w : World) (ty : TypeId) (base : Nat) (A : Option Addr) (n c : Nat) (l : List α) (hown : T.Own w base A n c l) (hn : n ≤ 1000000000)
    (ad : Addr) (c' : Nat) (u : α) (hnews : ∀ j v, (T.cl u)[j]? = some v → w.cell? (ad.add j) = some v) (hbase : base ≤ w.heap.size) :
    ∃ A' c2 w', (Builtin.append_ #[T.st, T.st] ty #[.slice A n c, .slice (some ad) 1 c']).run Tryz.prog w = .ok (.slice A' (n + 1) c2) w' ∧
      T.Own w' base A' (n + 1) c2 (l ++ [u]) ∧ w.grownBy w' (bk A) ∧ NewTo w A A' := by
  obtain ⟨i, hi, hz0, hz1, hz2⟩ := info_parts T.hi
  have hb := T.hb
  obtain ⟨v', w', hrun, h2, h3, h4, h5⟩ := run_append_own_at (P := Tryz.prog) w base T.st ty T.e i T.z T.k T.bytes T.hu hi hz0 hz1 hz2 T.hz T.hk (.slice A n c) n (T.fl l) hown ad 1 c' (T.cl u) (by rw [T.hl]; omega) hnews
    (T.h1 u) (by unfold maxLen; omega) (Nat.le_trans (Nat.mul_le_mul_left _ hb) (by omega)) hbase
  have hform : ∃ A' c', v' = .slice A' (n + 1) c' := by
    rcases h2.2 with ⟨rfl, h0⟩ | ⟨g, cap, cur, rfl, -⟩
    · exact ⟨none, 0, by rw [h0]⟩
    · exact ⟨_, cap, rfl⟩
  obtain ⟨A', c', rfl⟩ := hform
  rw [ownBlock_eq] at h3 h5
  rw [ownBlock_eq] at h5
  rw [← T.fl_one_el u, T.fl_app] at h2
  refine ⟨A', c', w', hrun, h2, h3, ?_⟩
  rcases h5 with h5 | h5
  · exact .inl h5
  · exact .inr ⟨_, h5, by simp⟩
theorem RowT.wpList_append {α : Type} (T : RowT α) {w : World} {ops : Array Oper} {rest : List Oper} {o : Oper} {a : Act} {Q : Exit → Act → World → Prop} (hgd : o.guard = none) (s x : Operand)
    (ho : o.op = .call { callee := .builtin .append, args := #[s, x], argTypes := #[T.st, T.st] })
    (base : Nat) (A : Option Addr) (n c : Nat) (l : List α) (u : α) (hs : a.eval s = .slice A n c) (hown : T.Own w base A n c l) (ad : Addr) (c1 : Nat) (hx : a.eval x = .slice (some ad) 1 c1)
    (hnews : ∀ j v, (T.cl u)[j]? = some v → w.cell? (ad.add j) = some v) (hn : n ≤ 1000000000) (hbase : base ≤ w.heap.size)
    (h : ∀ A' c' w', T.Own w' base A' (n + 1) c' (l ++ [u]) → w.grownBy w' (bk A) → NewTo w A A' → wpList Tryz.prog ops Q rest (a.put o.dst (.slice A' (n + 1) c')) w') : wpList Tryz.prog ops Q (o :: rest) a w := by
  refine wpList_plain hgd fun K hK => ?_
  obtain ⟨A', c', w', hrun, h2, h3, h4⟩ := T.run_append w o.type base A n c l hown hn ad c1 u hnews hbase
  unfold Oper.wp execOp
  simp only [ho, resolve, invoke, builtin, Sem.run_bind, Sem.run_pure, Result.andThen_ok, List.map_toArray, List.map_cons, List.map_nil, hs, hx, hrun]
  exact hK _ _ (h A' c' w' h2 h3 h4)
theorem RowT.news_one {α : Type} (T : RowT α) (w : World) (u : α) (t : TypeId) : ∀ j v, (T.cl u)[j]? = some v → (w.alloc (.cells (T.cl u).toArray t)).cell? ((⟨w.heap.size, 0, none⟩ : Addr).add j) = some v := fun j v hv => by
  rw [Addr.add_mid, Nat.zero_add, World.cell?_alloc_at _ _ _ _ rfl]
  simpa using hv
end Go.Proofs.YtaelgbbnmjbjiaaGreat
namespace Go.Proofs.YtaelgbbnmjbjiaaGreat
open Go.RowKit
theorem RowT.wpList_append_new {α : Type} (T : RowT α) {w : World} {ops : Array Oper} {rest : List Oper} {o : Oper} {a : Act} {Q : Exit → Act → World → Prop} (hgd : o.guard = none) (s x : Operand)
    (ho : o.op = .call { callee := .builtin .append, args := #[s, x], argTypes := #[T.st, T.st] })
    (base : Nat) (A : Option Addr) (n c : Nat) (l : List α) (w0 : World) (u : α) (cs : Array Value) (hw : w = w0.alloc (.cells cs T.e)) (hcs : cs = (T.cl u).toArray) (hs : a.eval s = .slice A n c) (hown : T.Own w0 base A n c l)
    (hx : a.eval x = .slice (some ⟨w0.heap.size, 0, none⟩) 1 1) (hn : n ≤ 1000000000) (hbase : base ≤ w0.heap.size)
    (h : ∀ A' c' w', T.Own w' base A' (n + 1) c' (l ++ [u]) → w0.grownBy w' (bk A) → wpList Tryz.prog ops Q rest (a.put o.dst (.slice A' (n + 1) c')) w') : wpList Tryz.prog ops Q (o :: rest) a w := by
  subst hw
  subst hcs
  have hg0 : w0.grownBy (w0.alloc (.cells (T.cl u).toArray T.e)) none := World.grownBy_alloc w0 _ none
  refine T.wpList_append hgd s x ho base A n c l u hs (hown.later ((Below.refl _ _).alloc (Nat.le_refl _) _)) ⟨w0.heap.size, 0, none⟩ 1 hx (T.news_one w0 u T.e) hn (by simp; omega) (fun A' c' w' h2 h3 _ => ?_)
  exact h A' c' w' h2 ⟨h3.os, h3.tape, h3.output, Nat.le_trans hg0.size h3.size, fun k hk hne => (h3.block k (by simp; omega) hne).trans (hg0.block k hk (by simp))⟩
structure Tg where
  ky : Ky
  A : Option Addr
  n : Nat
  c : Nat
def TgT : RowT Tg where
  st := 140
  e := 142
  k := 3
  bytes := 40
  z := .agg #[.int .i64 0, .int .i64 0, .slice none 0 0]
  hu := Tryz.underlying140
  hi := by kernel_rfl
  hz := rfl
  hk := by decide
  hb := by decide
  cl x := [.int .i64 (x.ky.wt : Int), .int .i64 (x.ky.num : Int), .slice x.A x.n x.c]
  hl _ := rfl
  h1 _ v hv := by
    simp only [List.mem_cons, List.not_mem_nil, or_false] at hv
    rcases hv with rfl | rfl | rfl <;> rfl
theorem TgT.at_ {w : World} {base n c : Nat} {A : Option Addr} {L : List Tg} (h : TgT.Own w base A n c L) {i : Nat} {x : Tg} (hx : L[i]? = some x) :
    ∃ g, A = some ⟨g, 0, none⟩ ∧ base ≤ g ∧ g < w.heap.size ∧ w.cell? ⟨g, i * 3, none⟩ = some (.int .i64 (x.ky.wt : Int)) ∧ w.cell? ⟨g, i * 3 + 1, none⟩ = some (.int .i64 (x.ky.num : Int)) ∧ w.cell? ⟨g, i * 3 + 2, none⟩ = some (.slice x.A x.n x.c) := by
  obtain ⟨g, h1, h2, h3, h4, -⟩ := h.range hx
  exact ⟨g, h1, h2, h3, h4 0 _ rfl, h4 1 _ rfl, h4 2 _ rfl⟩
def LeastTo (L : List Tg) (m i : Nat) : Prop := ∃ x, L[i]? = some x ∧ i < m ∧ ∀ j y, j < m → L[j]? = some y → leK x.ky y.ky
theorem LeastTo.new {L : List Tg} {m i : Nat} {x y : Tg} (h : LeastTo L m i) (hx : L[i]? = some x) (hy : L[m]? = some y) (h2 : y.ky.wt < x.ky.wt ∨ (y.ky.wt = x.ky.wt ∧ y.ky.num < x.ky.num)) : LeastTo L (m + 1) m := by
  obtain ⟨x', h1, h3, h4⟩ := h
  rw [hx] at h1
  cases h1
  refine ⟨y, hy, by omega, fun j z hj hz => ?_⟩
  rcases (by omega : j < m ∨ j = m) with h5 | rfl
  · have h6 := h4 j z h5 hz
    unfold leK at h6 ⊢
    omega
  · rw [hy] at hz
    cases hz
    exact .inr ⟨rfl, Nat.le_refl _⟩
theorem LeastTo.old {L : List Tg} {m i : Nat} {x y : Tg} (h : LeastTo L m i) (hx : L[i]? = some x) (hy : L[m]? = some y) (h2 : ¬ (y.ky.wt < x.ky.wt ∨ (y.ky.wt = x.ky.wt ∧ y.ky.num < x.ky.num))) : LeastTo L (m + 1) i := by
  obtain ⟨x', h1, h3, h4⟩ := h
  rw [hx] at h1
  cases h1
  refine ⟨x, hx, by omega, fun j z hj hz => ?_⟩
  rcases (by omega : j < m ∨ j = m) with h5 | rfl
  · exact h4 j z h5 hz
  · rw [hy] at hz
    cases hz
    unfold leK
    omega
set_option maxHeartbeats 4000000 in
set_option maxRecDepth 10000 in
theorem refLeast (A : Option Addr) (base n c : Nat) (L : List Tg) (w : World) (hr : TgT.Own w base A n c L) (h0 : 0 < n) (hn : n ≤ 1000000000) :
    Calls Tryz.prog 108 #[.slice A n c] w fun e w' => ∃ i : Nat, e = .returned (.int .i64 (i : Int)) ∧ LeastTo L n i ∧ ∃ q, w' = w.drewN q := by
  have hl := hr.length
  have HL := Lib.hid hl
  have HR := Lib.hid hr
  have H00 := Lib.hid (show LeastTo L 1 0 by
    obtain ⟨x, hx⟩ : ∃ x, L[0]? = some x := ⟨_, List.getElem?_eq_getElem (by omega)⟩
    refine ⟨x, hx, by omega, fun j y hj hy => ?_⟩
    obtain rfl : j = 0 := by omega
    rw [hx] at hy
    cases hy
    exact .inr ⟨rfl, Nat.le_refl _⟩)
  clear hl hr
  go_enter Tryz.func108, Tryz.ntmps108
  go_wp2
  go_loopg [3, 4] n (fun gg s3 s4 wr => ∃ i m q : Nat, m ≤ n ∧ n - m ≤ gg ∧ s3 = .int .i64 (i : Int) ∧ s4 = .int .i64 (m : Int) ∧ i < m ∧ LeastTo L m i ∧ wr = w.drewN q)
  case atStart => exact ⟨0, 1, 0, by omega, by omega, rfl, rfl, by omega, H00.out, rfl⟩
  case round =>
    obtain ⟨i, m, q, hm, hgg, rfl, rfl, him, ht, rfl⟩ := hrel
    have HT := Lib.hid ht
    clear ht
    by_cases hmn : m < n
    · obtain ⟨x, hx⟩ : ∃ x, L[i]? = some x := ⟨_, List.getElem?_eq_getElem (by rw [HL.out]; omega)⟩
      obtain ⟨y, hy⟩ : ∃ y, L[m]? = some y := ⟨_, List.getElem?_eq_getElem (by rw [HL.out]; omega)⟩
      obtain ⟨g, hA, -, -, cy0, cy1, -⟩ := TgT.at_ HR.out hy
      obtain ⟨g', hA', -, -, cx0, cx1, -⟩ := TgT.at_ HR.out hx
      rw [hA] at hA'
      cases hA'
      subst hA
      have HX := Lib.hid hx
      have HY := Lib.hid hy
      obtain ⟨⟨xw, xn, xp⟩, xA, xl, xc⟩ := x
      obtain ⟨⟨yw, yn, yp⟩, yA, yl, yc⟩ := y
      simp only at cx0 cx1 cy0 cy1
      have i1 : (m : Int) < n := by omega
      have i2 : (i : Int) < n := by omega
      clear hx hy
      by_cases h1 : yw < xw
      · have g1 : decide (yw < xw) = true := decide_eq_true (by omega)
        have HT2 := Lib.hid (HT.out.new HX.out HY.out (.inl h1))
        clear h1
        go_wp2
        go_quiet (fail)
        go_wp2
        go_roundg (n - (m + 1))
        case measure => omega
        case rel => exact ⟨m, m + 1, _, by omega, by omega, rfl, by go_num, by omega, HT2.out, rfl⟩
      · have g1 : decide (yw < xw) = false := decide_eq_false (by omega)
        by_cases h2 : yw = xw
        · have g2 : ((yw : Int) == xw) = true := by rw [h2]; simp
          by_cases h3 : yn < xn
          · have g3 : decide (yn < xn) = true := decide_eq_true (by omega)
            have HT2 := Lib.hid (HT.out.new HX.out HY.out (.inr ⟨h2, h3⟩))
            clear h1 h2 h3
            go_wp2
            go_quiet (fail)
            go_wp2
            go_roundg (n - (m + 1))
            case measure => omega
            case rel => exact ⟨m, m + 1, _, by omega, by omega, rfl, by go_num, by omega, HT2.out, rfl⟩
          · have g3 : decide (yn < xn) = false := decide_eq_false (by omega)
            have HT2 := Lib.hid (HT.out.old HX.out HY.out (by show ¬ (yw < xw ∨ yw = xw ∧ yn < xn); omega))
            clear h1 h2 h3
            go_wp2
            go_quiet (fail)
            go_wp2
            go_roundg (n - (m + 1))
            case measure => omega
            case rel => exact ⟨i, m + 1, _, by omega, by omega, rfl, by go_num, by omega, HT2.out, rfl⟩
        · have g2 : ((yw : Int) == xw) = false := beq_eq_false_iff_ne.2 (by omega)
          have HT2 := Lib.hid (HT.out.old HX.out HY.out (by show ¬ (yw < xw ∨ yw = xw ∧ yn < xn); omega))
          clear h1 h2
          go_wp2
          go_quiet (fail)
          go_wp2
          go_roundg (n - (m + 1))
          case measure => omega
          case rel => exact ⟨i, m + 1, _, by omega, by omega, rfl, by go_num, by omega, HT2.out, rfl⟩
    · obtain rfl : m = n := by omega
      go_wp2
      go_ret
      exact ⟨i, rfl, HT.out, q, rfl⟩
theorem erase_step {α : Type} {L : List α} {i at_ : Nat} {x : α} (h : L[i]? = some x) : (L.take (i + 1)).eraseIdx at_ = (L.take i).eraseIdx at_ ++ (if i = at_ then [] else [x]) := by
  have hi : i < L.length := (List.getElem?_eq_some_iff.1 h).1
  have hl : (L.take i).length = i := by rw [List.length_take]; omega
  rw [List.take_add_one, h]
  show (L.take i ++ [x]).eraseIdx at_ = _
  rcases Nat.lt_trichotomy at_ i with h1 | h1 | h1
  · rw [List.eraseIdx_append_of_lt_length (by omega), if_neg (by omega)]
  · subst h1
    rw [List.eraseIdx_append_of_length_le (by omega), if_pos rfl, hl, Nat.sub_self, List.eraseIdx_of_length_le (l := L.take at_) (by omega)]; rfl
  · rw [List.eraseIdx_append_of_length_le (by omega), if_neg (by omega), hl, List.eraseIdx_of_length_le (l := L.take i) (by omega)]
    obtain ⟨d, hd⟩ : ∃ d, at_ - i = d + 1 := ⟨at_ - i - 1, by omega⟩
    rw [hd]; rfl
set_option maxHeartbeats 4000000 in
set_option maxRecDepth 10000 in
theorem refWithout (A : Option Addr) (base n c k : Nat) (L : List Tg) (w : World) (hr : TgT.Own w base A n c L) (hk : k < n) (hn : n ≤ 1000000000) :
    Calls Tryz.prog 109 #[.slice A n c, .int .i64 (k : Int)] w fun e w' => ∃ S m cs, e = .returned (.slice S m cs) ∧ TgT.Own w' w.heap.size S m cs (L.eraseIdx k) ∧ Below w.heap.size w w' := by
  have hl := hr.length
  have HL := Lib.hid hl
  have HR := Lib.hid hr
  clear hl hr
  go_enter Tryz.func109, Tryz.ntmps109
  go_wp2
  go_loopg [5, 6] n (fun gg s5 s6 wr => ∃ (i m co : Nat) (Ao : Option Addr), i ≤ n ∧ n - i ≤ gg ∧ m ≤ i ∧ s5 = .slice Ao m co ∧ s6 = .int .i64 (i : Int) ∧ TgT.Own wr w.heap.size Ao m co ((L.take i).eraseIdx k) ∧ Below w.heap.size w wr)
  case atStart => exact ⟨0, 0, 0, none, by omega, by omega, by omega, rfl, rfl, by rw [List.take_zero]; exact RowT.Own.nil _ _ _, Below.refl _ _⟩
  case round =>
    obtain ⟨i, m, co, Ao, hi, hgg, hmi, rfl, rfl, hown, hbel⟩ := hrel
    have HO := Lib.hid hown
    have HB := Lib.hid hbel
    clear hown hbel
    by_cases hin : i < n
    · obtain ⟨x, hx⟩ : ∃ x, L[i]? = some x := ⟨_, List.getElem?_eq_getElem (by rw [HL.out]; omega)⟩
      have HSt := Lib.hid (erase_step (at_ := k) hx)
      by_cases hik : i = k
      · have g1 : ((i : Int) == k) = true := by rw [hik]; simp
        have HO2 := Lib.hid (show TgT.Own wr w.heap.size Ao m co ((L.take (i + 1)).eraseIdx k) by
          rw [HSt.out, if_pos hik, List.append_nil]; exact HO.out)
        clear hik hx
        go_wp2
        go_roundg (n - (i + 1))
        case measure => omega
        case rel => exact ⟨i + 1, m, co, Ao, by omega, by omega, by omega, rfl, by go_num, HO2.out, HB.out⟩
      · have g1 : ((i : Int) == k) = false := beq_eq_false_iff_ne.2 (by omega)
        have hown := RowT.Own.later HR.out HB.out
        obtain ⟨g, hA, -, -, c0, c1, c2⟩ := TgT.at_ hown hx
        subst hA
        have hmm : m ≤ 1000000000 := by omega
        have HNe := Lib.hid hik
        clear hik hown hx
        go_wp2_with (at_builtin; refine TgT.wpList_append_new rfl _ _ rfl w.heap.size Ao m co ((L.take i).eraseIdx k) wr x _ rfl rfl ?hs HO.out ?hx hmm HB.out.size ?_)
        case hs => rfl
        case hx => rfl
        intro A3 c3 w3 hown3 hg3
        have HO3 := Lib.hid (show TgT.Own w3 w.heap.size A3 (m + 1) c3 ((L.take (i + 1)).eraseIdx k) by
          rw [HSt.out, if_neg HNe.out]; exact hown3)
        have HB3 := Lib.hid (HB.out.grown hg3 HB.out.size (fun k hk => (HO.out.lt hk).1))
        clear hown3 hg3
        go_wp2
        go_roundg (n - (i + 1))
        case measure => omega
        case rel => exact ⟨i + 1, m + 1, c3, A3, by omega, by omega, by omega, rfl, by go_num, HO3.out, HB3.out⟩
    · obtain rfl : i = n := by omega
      have HO2 := Lib.hid (show TgT.Own wr w.heap.size Ao m co (L.eraseIdx k) by
        have h := HO.out
        rwa [List.take_of_length_le (by rw [HL.out]; exact Nat.le_refl _)] at h)
      go_wp2
      go_ret
      exact ⟨Ao, m, co, rfl, HO2.out, HB.out⟩
end Go.Proofs.YtaelgbbnmjbjiaaGreat
namespace Go.Proofs.YtaelgbbnmjbjiaaGreat
open Go.RowKit
theorem sumL_app (a b : List Nat) : sumL (a ++ b) = sumL a + sumL b := by
  induction a with
  | nil => simp [sumL]
  | cons x a ih => rw [List.cons_append, sumL, ih, sumL]; omega
theorem lvK_some {counts : List Nat} {p : Nat} (h : 0 < counts.getD p 0) : ∀ k, p < k → lvK counts k ≠ []
  | 0, h2 => by omega
  | k + 1, h2 => by
    rw [lvK]
    by_cases e : p = k
    · subst e
      rw [if_pos h]; simp
    · have := lvK_some h k (by omega)
      split
      · simp
      · exact this
structure KyOk (n : Nat) (K : List Ky) : Prop where
  lt : ∀ x ∈ K, ∀ p ∈ x.ps, p < n
  many : sumL (K.map (fun x => x.ps.length)) ≤ n
  wts : sumL (K.map (·.wt)) ≤ 4294967296 * n
theorem KyOk.perm {n : Nat} {K K' : List Ky} (h : KyOk n K) (hp : K.Perm K') : KyOk n K' :=
  ⟨fun x hx => h.lt x (hp.symm.subset hx), by rw [← sumL_perm (hp.map _)]; exact h.many, by rw [← sumL_perm (hp.map _)]; exact h.wts⟩
theorem KyOk.mono {n n' : Nat} {K : List Ky} (h : KyOk n K) (hn : n ≤ n') : KyOk n' K :=
  ⟨fun x hx p hp => Nat.lt_of_lt_of_le (h.lt x hx p hp) hn, Nat.le_trans h.many hn, Nat.le_trans h.wts (Nat.mul_le_mul_left _ hn)⟩
theorem KyOk.merge {n nx : Nat} {K l : List Ky} {a b : Ky} (h : KyOk n K) (hp : (a :: b :: l).Perm K) : KyOk n (l ++ [⟨a.wt + b.wt, nx, a.ps ++ b.ps⟩]) := by
  have h2 := h.perm hp.symm
  obtain ⟨h3, h4, h5⟩ := h2
  simp only [List.map_cons, sumL] at h4 h5
  refine ⟨fun x hx p hp => ?_, ?_, ?_⟩
  · rcases List.mem_append.1 hx with hx | hx
    · exact h3 x (List.mem_cons_of_mem _ (List.mem_cons_of_mem _ hx)) p hp
    · rw [List.mem_singleton] at hx
      subst hx
      rcases List.mem_append.1 hp with hp | hp
      · exact h3 a List.mem_cons_self p hp
      · exact h3 b (List.mem_cons_of_mem _ List.mem_cons_self) p hp
  · rw [List.map_append, sumL_app]
    simp only [List.map_cons, List.map_nil, sumL, List.length_append]
    omega
  · rw [List.map_append, sumL_app]
    simp only [List.map_cons, List.map_nil, sumL]
    omega
theorem KyOk.two {n : Nat} {K l : List Ky} {a b : Ky} (h : KyOk n K) (hp : (a :: b :: l).Perm K) : a.wt + b.wt ≤ 4294967296 * n ∧ a.ps.length + b.ps.length ≤ n := by
  obtain ⟨h3, h4, h5⟩ := h.perm hp.symm
  simp only [List.map_cons, sumL] at h4 h5
  omega
theorem lvK_ok {counts : List Nat} (hb : ∀ x ∈ counts, x ≤ 4294967295) : ∀ k, k ≤ counts.length → KyOk k (lvK counts k) ∧ (lvK counts k).length ≤ k
  | 0, _ => ⟨⟨fun x hx => by simp [lvK] at hx, by simp [lvK, sumL], by simp [lvK, sumL]⟩, by simp [lvK]⟩
  | k + 1, hk => by
    obtain ⟨h, h2⟩ := lvK_ok hb k (by omega)
    have hx := hb _ (getD_mem' (show k < counts.length by omega))
    rw [lvK]
    split
    · refine ⟨⟨fun x hx p hp => ?_, ?_, ?_⟩, ?_⟩
      · rcases List.mem_append.1 hx with hx | hx
        · have := h.lt x hx p hp; omega
        · rw [List.mem_singleton] at hx
          subst hx
          have : p = k := by simpa using hp
          omega
      · have := h.many
        rw [List.map_append, sumL_app]
        simp only [List.map_cons, List.map_nil, sumL, List.length_singleton]
        omega
      · have := h.wts
        rw [List.map_append, sumL_app]
        simp only [List.map_cons, List.map_nil, sumL]
        omega
      · rw [List.length_append, List.length_singleton]; omega
    · exact ⟨h.mono (by omega), by omega⟩
theorem incT_more : ∀ (ps out : List Nat) (p : Nat), (incT out ps).getD p 0 ≤ out.getD p 0 + ps.length
  | [], out, p => Nat.le_refl _
  | q :: r, out, p => by
    have h := incT_more r (out.set q (out.getD q 0 + 1)) p
    rw [incT, List.length_cons]
    rw [getD_set] at h
    split at h
    · next e => rw [e.1]; rw [e.1] at h; omega
    · omega
theorem erase_map {α β : Type} (f : α → β) : ∀ (l : List α) (i : Nat), (l.eraseIdx i).map f = (l.map f).eraseIdx i
  | [], _ => rfl
  | _ :: _, 0 => rfl
  | x :: l, i + 1 => by simp [erase_map f l i]
theorem LeastTo.at_ {L : List Tg} {i : Nat} (h : LeastTo L L.length i) : ∃ x, L[i]? = some x ∧ (L.map (·.ky))[i]? = some x.ky ∧ ∀ y ∈ L.map (·.ky), leK x.ky y := by
  obtain ⟨x, h1, h2, h3⟩ := h
  refine ⟨x, h1, by rw [List.getElem?_map, h1]; rfl, fun y hy => ?_⟩
  obtain ⟨z, hz, rfl⟩ := List.mem_map.1 hy
  obtain ⟨j, hj, rfl⟩ := List.getElem_of_mem hz
  exact h3 j _ hj (List.getElem?_eq_getElem hj)
theorem TgT.ne_own {w : World} {base n c base' n' c' : Nat} {e' : TypeId} {A A' : Option Addr} {L : List Tg} {xs' : List Value} (h : TgT.Own w base A n c L) (h' : Own w base' e' A' n' c' xs') (hne : 142 ≠ e') : bk A' = none ∨ bk A' ≠ bk A := by
  rcases h.2 with ⟨hv, _⟩ | ⟨g', cap, cur, hv, _, hh, _⟩
  · simp only [Value.slice.injEq] at hv
    rw [hv.1]
    cases A'
    · exact .inl rfl
    · exact .inr (by simp [bk])
  · simp only [Value.slice.injEq] at hv
    rw [hv.1]
    exact .inr (h'.ne_blk (g := g') (t := 142) (cs := cur) hh (fun e => hne e.symm))
structure TrM (wr : World) (B go n : Nat) (Ao : Option Addr) (m co : Nat) (L : List Tg) (out : List Nat) : Prop where
  lst : TgT.Own wr B Ao m co L
  rows : ∀ x ∈ L, OwnN wr B x.A x.n x.c x.ky.ps
  out : OwnN wr go (some ⟨go, 0, none⟩) n n out
  lt : go < B
  hB : B ≤ wr.heap.size
section
variable {wr w' : World} {B go n m co : Nat} {Ao : Option Addr} {L : List Tg} {out : List Nat}
theorem TrM.later (h : TrM wr B go n Ao m co L out) (hb : Below wr.heap.size wr w') : TrM w' B go n Ao m co L out :=
  ⟨h.lst.later hb, fun x hx => Own.later (h.rows x hx) hb, Own.later h.out hb, h.lt, Nat.le_trans h.hB hb.size⟩
theorem ne_low {w : World} {e : TypeId} {A : Option Addr} {k c : Nat} {xs : List Value} (h : Own w B e A k c xs) (hlt : go < B) : bk A ≠ some go := fun e => by
  have := (h.lt e).1
  omega
theorem TrM.set (h : TrM wr B go n Ao m co L out) (p v : Nat) : TrM (wr.setCell ⟨go, p, none⟩ (.int .i64 (v : Int))) B go n Ao m co L (out.set p v) := by
  refine ⟨h.lst.same (fun k hk => Below.heap_setCell _ _ _ _ (fun e => ?_)), fun x hx => Own.setCell (h.rows x hx) (ne_low (h.rows x hx) h.lt) _, ?_, h.lt, by have := h.hB; simpa [World.setCell] using this⟩
  · have := (h.lst.lt hk).1
    have := h.lt
    simp only at e
    omega
  · have h2 := (Own.stored h.out p (natv v)).1
    unfold OwnN
    rw [List.map_set]
    exact h2
theorem TrM.list {A2 : Option Addr} {m2 c2 B2 : Nat} {L2 : List Tg} (h : TrM wr B go n Ao m co L out) (hb : Below wr.heap.size wr w') (hl : TgT.Own w' B2 A2 m2 c2 L2) (hB2 : B ≤ B2) (hs : ∀ x ∈ L2, x ∈ L) : TrM w' B go n A2 m2 c2 L2 out :=
  ⟨hl.mono hB2, fun x hx => Own.later (h.rows x (hs x hx)) hb, Own.later h.out hb, h.lt, Nat.le_trans h.hB hb.size⟩
theorem TrM.app {A2 : Option Addr} {c2 : Nat} {x : Tg} (h : TrM wr B go n Ao m co L out) (hg : wr.grownBy w' (bk Ao)) (hl : TgT.Own w' B A2 (m + 1) c2 (L ++ [x])) (hx : OwnN w' B x.A x.n x.c x.ky.ps) : TrM w' B go n A2 (m + 1) c2 (L ++ [x]) out := by
  refine ⟨hl, fun y hy => ?_, ?_, h.lt, Nat.le_trans h.hB hg.size⟩
  · rcases List.mem_append.1 hy with hy | hy
    · exact Own.kept (h.rows y hy) hg (TgT.ne_own h.lst (h.rows y hy) (by decide))
    · rw [List.mem_singleton] at hy
      rw [hy]; exact hx
  · exact Own.kept h.out hg (TgT.ne_own h.lst h.out (by decide))
theorem ne_new {w : World} {e : TypeId} {base k c s : Nat} {A : Option Addr} {xs : List Value} {r : Option Nat} (h : Own w base e A k c xs) (hs : w.heap.size ≤ s) (hr : ∀ k, r = some k → s ≤ k) : bk A = none ∨ bk A ≠ r := by
  cases hA : bk A with
  | none => exact .inl rfl
  | some q =>
    refine .inr (fun e => ?_)
    have h1 := hr q e.symm
    have h2 := (h.lt hA).2
    omega
theorem TrM.far {w6 w7 w8 : World} {r : Option Nat} (h6 : TrM w6 B go n Ao m co L out) (h7 : TrM w7 B go n Ao m co L out) (hg : w7.grownBy w8 r) (hr : ∀ k, r = some k → w6.heap.size ≤ k) : TrM w8 B go n Ao m co L out := by
  refine ⟨h7.lst.kept hg ?_, fun x hx => Own.kept (h7.rows x hx) hg (ne_new (h6.rows x hx) (Nat.le_refl _) hr), Own.kept h7.out hg (ne_new h6.out (Nat.le_refl _) hr), h7.lt, Nat.le_trans h7.hB hg.size⟩
  cases hA : bk Ao with
  | none => exact .inl rfl
  | some q =>
    refine .inr (fun e => ?_)
    have h1 := hr q e.symm
    have h2 := (h6.lst.lt hA).2
    omega
end
end Go.Proofs.YtaelgbbnmjbjiaaGreat
