/-
  The walk of the program's Name.
-/
import Derived.Test.YtomgaaladpcmoaaDoorShelf
import Derived.Test.YtomgaaladpcmoaaDoorW4
namespace Go.Proofs.YtomgaaladpcmoaaDoor
open Go.RowKit
open Pl

/-- a rune that no name may hold -/
def oddR (x : Nat) : Bool := decide ((x : Int) < 33) || decide ((126 : Int) < x) || ((x : Int) == 47)

theorem oddR_byte (b : UInt8) (_h : b.toNat < 128) : oddR b.toNat = !okByte b := by
  rw [← okInt_eq]
  unfold oddR okInt
  cases h1 : decide ((b.toNat : Int) < 33) <;> cases h2 : decide ((126 : Int) < b.toNat) <;> cases h3 : ((b.toNat : Int) == 47) <;> simp_all <;> omega

theorem oddR_high (x : Nat) (h : 127 ≤ x) : oddR x = true := by
  unfold oddR
  simp; omega

theorem get_eq (s : ByteArray) (i : Nat) (h : i < s.size) : s.get! i = s[i] := by
  have h' : i < s.data.size := h
  have e : s.get! i = s.data[i]! := rfl
  rw [e, getElem!_pos s.data i h']; rfl

theorem decode_low (s : ByteArray) (i : Nat) (h : i < s.size) (hb : s[i].toNat < 128) : Utf8.decode s i = (s[i].toNat, 1) := by
  unfold Utf8.decode
  simp only [Nat.add_zero, get_eq s i h, if_pos hb]

theorem decode_high (s : ByteArray) (i : Nat) (h : i < s.size) (hb : ¬ s[i].toNat < 128) : 127 ≤ (Utf8.decode s i).1 := by
  unfold Utf8.decode
  simp only [Nat.add_zero, get_eq s i h, if_neg hb]
  repeat' split
  all_goals simp only [Utf8.runeError]
  all_goals first | omega | (simp at *; omega)

theorem okByte_high (b : UInt8) (h : ¬ b.toNat < 128) : okByte b = false := by
  unfold okByte
  simp [UInt8.le_iff_toNat_le]
  intro _ h2
  have : (126 : UInt8).toNat = 126 := rfl
  omega

theorem idxFuncFrom_odd (s : ByteArray) : ∀ (f pos : Nat), s.size - pos ≤ f → (decide (0 ≤ Lib.idxFuncFrom oddR true s f pos)) = !((s.data.toList.drop pos).all okByte)
  | 0, pos, h => by
    have : s.data.toList.drop pos = [] := List.drop_eq_nil_of_le (by rw [size_eq]; omega)
    rw [this]; rfl
  | f + 1, pos, h => by
    by_cases hp : pos < s.size
    · have e : s.data.toList.drop pos = s[pos] :: s.data.toList.drop (pos + 1) := List.drop_eq_getElem_cons (l := s.data.toList) hp
      rw [e, Lib.idxFuncFrom, if_pos hp]
      by_cases hb : s[pos].toNat < 128
      · rw [decode_low s pos hp hb]
        have ho := oddR_byte s[pos] hb
        cases hok : okByte s[pos]
        · rw [hok] at ho
          simp only [ho, Bool.not_false, if_true, List.all_cons, hok]
          simp
        · rw [hok] at ho
          simp only [ho, List.all_cons, hok]
          have := idxFuncFrom_odd s f (pos + 1) (by omega)
          simpa using this
      · have ho := oddR_high _ (decode_high s pos hp hb)
        simp only [ho, if_true, List.all_cons, okByte_high _ hb]
        simp
    · have : s.data.toList.drop pos = [] := List.drop_eq_nil_of_le (by rw [size_eq]; omega)
      rw [this, Lib.idxFuncFrom_end _ _ _ _ _ hp]; rfl

theorem idxFunc_odd (s : ByteArray) : (decide (0 ≤ Lib.idxFunc oddR true s)) = !(s.data.toList.all okByte) := by
  have := idxFuncFrom_odd s s.size 0 (by omega)
  rw [List.drop_zero] at this
  exact this

set_option maxHeartbeats 400000 in
theorem odd_any (x : Nat) (w : World) : Calls Tryd.prog 20 #[.int .i32 x] w fun e w' => e = .returned (.bool (oddR x)) ∧ w = w' := by
  go_enter Tryd.func20, Tryd.ntmps20
  go_wp2
  all_goals go_ret
  all_goals refine ⟨ret_bool ?_, rfl⟩
  · rfl
  · have : (126 : Int) < x := by assumption
    exact (oddR_high x (by omega)).symm
  · unfold oddR; simp; omega

def preName (s : ByteArray) : Bool := 1 ≤ s.size && s.size ≤ 16 && s.toList != [46] && s.toList != [46, 46]

theorem nameB_pre (s : ByteArray) : nameB s.data.toList = (preName s && s.data.toList.all okByte) := by
  unfold nameB preName
  rw [ByteArray.toList_eq]
  rfl

set_option maxHeartbeats 400000 in
theorem name_any (s : ByteArray) (w : World) (hs : s.size ≤ 9223372036854775807) :
    Calls Tryd.prog 13 #[.string s] w fun e w' => e = .returned (.bool (nameB s.data.toList)) ∧ Below w.heap.size w w' := by
  have hc := Tryd.strings_ContainsFunc_grows 20 #[] (enters_of Tryd.func20 (by kernel_rfl) rfl) oddR s w (fun W x _ _ => (odd_any x W).mono fun e w' ⟨h1, h2⟩ => ⟨h1, h2 ▸ Below.refl _ _⟩)
  rw [idxFunc_odd] at hc
  have HC := Lib.hid hc
  clear hc
  have hN := Lib.hid (nameB_pre s)
  go_enter Tryd.func13, Tryd.ntmps13
  go_wp2_with fail
  · have h : s.toList = [46] := by assumption
    go_ret; exact ⟨ret_bool (by rw [hN.out]; unfold preName; rw [h]; simp), Below.refl _ _⟩
  · have h : s.toList = [46, 46] := by assumption
    go_ret; exact ⟨ret_bool (by rw [hN.out]; unfold preName; rw [h]; simp), Below.refl _ _⟩
  · have h1 : ¬ s.toList = [46] := by assumption
    have h2 : ¬ s.toList = [46, 46] := by assumption
    have h3 : 1 ≤ (s.size : Int) := by assumption
    have h4 : (s.size : Int) ≤ 16 := by assumption
    have hp : preName s = true := by
      unfold preName
      simp only [Bool.and_eq_true, decide_eq_true_eq, bne_iff_ne]
      exact ⟨⟨⟨by omega, by omega⟩, h1⟩, h2⟩
    have HP := Lib.hid hp
    clear hp
    refine HC.out.mono ?_
    rintro e w' ⟨rfl, hb⟩
    go_wp2
    go_ret; exact ⟨ret_bool (by rw [hN.out, HP.out]; simp [h1, h2]), hb⟩
  · go_ret; exact ⟨ret_bool (by rw [hN.out]; unfold preName; rw [decide_eq_false (by omega : ¬ s.size ≤ 16)]; simp), Below.refl _ _⟩
  · go_ret; exact ⟨ret_bool (by rw [hN.out]; unfold preName; rw [decide_eq_false (by omega : ¬ 1 ≤ s.size)]; simp), Below.refl _ _⟩
end Go.Proofs.YtomgaaladpcmoaaDoor
