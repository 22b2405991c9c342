/-
  Walks.
-/
import Derived.Test.YtomgaaladpcmoaaDoorRows
import Derived.Test.YtomgaaladpcmoaaDoorPlain
import Derived.WalkKit
import Derived.WalkLawsBesides
import Derived.WalkSpells
import Derived.Lib.Hide
import Derived.Outline
import Derived.BigQuiet
import Derived.Deep.QuietTactic
import Derived.LoopTactic
namespace Go.Proofs.YtomgaaladpcmoaaDoor
open Go.RowKit
open Pl
theorem ret_bool {a b : Bool} (h : a = b) : Ending.returned (.bool a) = .returned (.bool b) := by rw [h]
set_option maxHeartbeats 400000 in
theorem refName (s : ByteArray) (w : World) (hs : s.size ≤ 9223372036854775807) :
    Calls Tryd.prog 14 #[.string s] w fun e w' => e = .returned (.bool (nameB s.data.toList)) ∧ w = w' := by
  go_enter Tryd.func14, Tryd.ntmps14
  go_wp2
  · go_ret; refine ⟨ret_bool ?_, rfl⟩; rw [ByteArray.toList_eq] at *; simp [nameB, *]
  · have h : ((↑s.size < (1:Int) ∨ 16 < (↑s.size:Int)) ∨ (s.toList == [46]) = true) ∨ (s.toList == [46, 46]) = true := by assumption
    go_ret; refine ⟨ret_bool ?_, rfl⟩; rw [ByteArray.toList_eq] at *
    rcases h with (h | h) | h
    · omega
    · simp at h; simp [nameB, h]
    · simp at h; simp [nameB, h]
  · have hh : ((1 ≤ (↑s.size:Int) ∧ (↑s.size:Int) ≤ 16) ∧ (s.toList == [46]) = false) ∧ (s.toList == [46, 46]) = false := by assumption
    have Hh := Lib.hid hh
    clear hh
    go_loop [3] (fun i => ∃ k : Nat, k ≤ s.size ∧ i = .int .i64 k ∧ AllOk s k) (fun i => s.size - (intOf i).toNat)
    case atStart => exact ⟨0, Nat.zero_le _, rfl, AllOk.zero s⟩
    case round =>
      obtain ⟨k, hk, rfl, ha⟩ := hrel
      by_cases hlt : k < s.size
      · by_cases hb : okInt (s[k].toNat : Int) = true
        · have hb' := hb
          simp only [okInt, Bool.and_eq_true, decide_eq_true_eq, bne, Bool.not_eq_true'] at hb'
          obtain ⟨⟨h1, h2⟩, h3⟩ := hb'
          have Hb := Lib.hid hb
          clear hb
          go_wp2
          go_round
          case rel => exact ⟨k + 1, by omega, by go_num, ha.succ hlt Hb.out⟩
          case measure => simp [intOf]; omega
        · rw [Bool.not_eq_true] at hb
          have Hb := Lib.hid (nameB_bad s k hlt hb)
          have Hc := Lib.hid hb
          clear hb
          go_wp2
          all_goals first | (go_ret; exact ⟨ret_bool Hb.out.symm, rfl⟩) | skip
          exfalso
          have h1 : 33 ≤ (s[k].toNat : Int) := by assumption
          have h2 : (s[k].toNat : Int) ≤ 126 := by assumption
          have h3 : (33 ≤ (s[k].toNat : Int) ∧ (s[k].toNat : Int) ≤ 126) ∧ ((s[k].toNat : Int) == 47) = false := by assumption
          have hc := Hc.out
          simp only [okInt, bne, h3.2] at hc
          simp at hc
          omega
      · obtain rfl : k = s.size := by omega
        go_wp2
        go_ret; exact ⟨ret_bool (nameB_good s (by omega) (by omega) Hh.out.1.2 Hh.out.2 ha).symm, rfl⟩
  · go_ret; refine ⟨ret_bool ?_, rfl⟩; simp [nameB]; omega
  · go_ret; refine ⟨ret_bool ?_, rfl⟩; simp [nameB]; omega
end Go.Proofs.YtomgaaladpcmoaaDoor
