/-
  Plain facts on names and paths as lists of bytes; no program in sight.
-/
import Derived.Laws.Strings
namespace Go.Proofs.YtomgaaladpcmoaaDoor.Pl

/-- a byte that a name may hold -/
def okByte (b : UInt8) : Bool := 33 ≤ b && b ≤ 126 && b != 47

def nameB (l : List UInt8) : Bool := 1 ≤ l.length && l.length ≤ 16 && l != [46] && l != [46, 46] && l.all okByte

def okInt (n : Int) : Bool := decide (33 ≤ n) && decide (n ≤ 126) && (n != 47)

theorem okInt_eq (b : UInt8) : okInt (b.toNat : Int) = okByte b := by
  unfold okInt okByte
  rw [Bool.eq_iff_iff]
  simp [UInt8.le_iff_toNat_le]
  constructor
  · rintro ⟨⟨h1, h2⟩, h3⟩
    exact ⟨⟨by omega, by omega⟩, fun e => h3 (by rw [e]; rfl)⟩
  · rintro ⟨⟨h1, h2⟩, h3⟩
    exact ⟨⟨by omega, by omega⟩, fun e => h3 (UInt8.toNat_inj.1 (by simpa using (by omega : b.toNat = 47)))⟩

theorem take_snoc (s : ByteArray) (k : Nat) (h : k < s.size) : s.data.toList.take (k + 1) = s.data.toList.take k ++ [s[k]] := by
  rw [List.take_succ_eq_append_getElem (by simpa using h)]; rfl

theorem all_snoc (s : ByteArray) (k : Nat) (h : k < s.size) : (s.data.toList.take (k + 1)).all okByte = ((s.data.toList.take k).all okByte && okInt (s[k].toNat : Int)) := by
  rw [take_snoc s k h, okInt_eq]; simp

theorem all_of_prefix (s : ByteArray) (k : Nat) (h : (s.data.toList.take k).all okByte = false) : s.data.toList.all okByte = false := by
  rw [List.all_eq_false] at h ⊢
  obtain ⟨x, hx, hn⟩ := h
  exact ⟨x, List.mem_of_mem_take hx, hn⟩

theorem size_eq (s : ByteArray) : s.data.toList.length = s.size := rfl

def AllOk (s : ByteArray) (k : Nat) : Prop := (s.data.toList.take k).all okByte = true
theorem AllOk.zero (s : ByteArray) : AllOk s 0 := rfl
theorem AllOk.succ {s : ByteArray} {k : Nat} (h : AllOk s k) (hk : k < s.size) (hb : okInt (s[k].toNat : Int) = true) : AllOk s (k + 1) := by
  unfold AllOk at *; rw [all_snoc s k hk, h, hb]; rfl

theorem nameB_bad (s : ByteArray) (k : Nat) (h : k < s.size) (hb : okInt (s[k].toNat : Int) = false) : nameB s.data.toList = false := by
  have : s.data.toList.all okByte = false := all_of_prefix s (k + 1) (by rw [all_snoc s k h, hb]; simp)
  unfold nameB; rw [this]; simp

theorem nameB_good (s : ByteArray) (h1 : 1 ≤ s.size) (h2 : s.size ≤ 16) (h3 : (s.toList == [46]) = false) (h4 : (s.toList == [46, 46]) = false)
    (h : AllOk s s.size) : nameB s.data.toList = true := by
  unfold AllOk at h
  rw [List.take_of_length_le (by rw [size_eq]; omega)] at h
  rw [ByteArray.toList_eq] at h3 h4
  unfold nameB
  simp only [size_eq, h, bne, h3, h4]
  simp [h1, h2]

end Go.Proofs.YtomgaaladpcmoaaDoor.Pl
