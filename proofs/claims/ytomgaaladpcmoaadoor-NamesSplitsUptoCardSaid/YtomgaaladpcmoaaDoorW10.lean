/-
  The walk of lives.
-/
import Derived.Test.YtomgaaladpcmoaaDoorW9
namespace Go.Proofs.YtomgaaladpcmoaaDoor
open Go.RowKit
open Pl

theorem pn_ab : pathNames [47, 97, 47, 98] = some [[97], [98]] := by decide +kernel
theorem jv_ab : JoinVal [mk [97], mk [98]] = .tuple #[.string (mk [47, 97, 47, 98]), .int .i64 0] := by
  unfold JoinVal
  rw [if_pos (by decide +kernel)]
  have : pathOf (bl [mk [97], mk [98]]) = [47, 97, 47, 98] := by decide +kernel
  rw [this]
theorem nb_a : nameB [97] = true := by decide +kernel
theorem ub_ab : underB [47, 97] [47, 97, 47, 98] = true := by decide +kernel
theorem lj_ab : (Lib.join (bl [mk [97], mk [98]]) [47]).length ≤ 4000000 := by decide +kernel

theorem strs_two {w : World} {v : Value} {x y : ByteArray} (h : StrsAt w v [x, y]) :
    ∃ b o c, v = .slice (some ⟨b, o, none⟩) 2 c ∧ w.cell? ⟨b, o, none⟩ = some (.string x) ∧ w.cell? ⟨b, o + 1, none⟩ = some (.string y) := by
  rcases h with ⟨a1, c1, rfl, h, -⟩ | ⟨b1, o1, c1, rfl, hm1, hm2, hm3, hp1, hc1⟩
  · cases h
  · exact ⟨b1, o1, c1, rfl, hc1 0 (by simp), hc1 1 (by simp)⟩

theorem strs_new (w : World) (x y : ByteArray) : StrsAt (w.alloc (.cells #[.string x, .string y] 9)) (.slice (some ⟨w.heap.size, 0, none⟩) 2 2) [x, y] := by
  refine .inr ⟨w.heap.size, 0, 2, rfl, by simp, by simp, by omega, by simp, fun j hj => ?_⟩
  rw [World.cell?_alloc_at _ _ _ _ rfl]
  have : j = 0 ∨ j = 1 := by simp at hj; omega
  rcases this with rfl | rfl <;> rfl

set_option maxHeartbeats 2000000 in
theorem lives_any (w : World) (hm : MaxLenAt w) : Calls Tryd.prog 10 #[] w fun e w' => e = .returned (.bool true) ∧ Below w.heap.size w w' := by
  have hc1 := Lib.hid (split_any (mk [47, 97, 47, 98]) w (by decide +kernel) hm)
  go_enter Tryd.func10, Tryd.ntmps10
  go_wp2_with fail
  refine hc1.out.mono ?_
  rw [mk_toList]
  rintro e w1 ⟨hb1, hp1⟩
  rw [pn_ab] at hp1
  obtain ⟨v, rfl, hv⟩ := hp1
  clear hc1
  have hm1 := hm.later hb1
  have hbn : Below w1.heap.size w1 (w1.alloc (.cells #[.string (mk [97]), .string (mk [98])] 9)) := (Below.refl _ _).alloc (Nat.le_refl _) _
  have hj := join_any _ _ _ (strs_new w1 (mk [97]) (mk [98])) lj_ab (by simp) (hm1.later hbn)
  rw [jv_ab] at hj
  have HJ := Lib.hid hj
  clear hj
  go_wp2_with fail
  refine HJ.out.mono ?_
  rintro e w2 ⟨rfl, hb2⟩
  have hv2 := (hv.later hbn).later hb2
  have hb02 := hb1.trans ((hbn.trans (hb2.mono hbn.size)).mono hb1.size)
  have hm2 := (hm1.later hbn).later hb2
  obtain ⟨b, o, c, rfl, hx, hy⟩ := strs_two hv2
  have hn := name_any (mk [97]) w2 (by decide)
  rw [mk_toList, nb_a] at hn
  have HN := Lib.hid hn
  clear HJ hn hv hv2 hbn
  have e1 : (mk [97]).toList = [97] := by rw [ByteArray.toList_eq, mk_toList]
  have e2 : (mk [98]).toList = [98] := by rw [ByteArray.toList_eq, mk_toList]
  have e3 : (mk [47, 97, 47, 98]).toList = [47, 97, 47, 98] := by rw [ByteArray.toList_eq, mk_toList]
  go_wp2_with fail
  refine HN.out.mono ?_
  rintro e w3 ⟨rfl, hb3⟩
  have hu := under_any (mk [47, 97]) (mk [47, 97, 47, 98]) w3 (by decide) (by decide) (hm2.later hb3)
  rw [mk_toList, mk_toList, ub_ab] at hu
  have HU := Lib.hid hu
  clear hu
  go_wp2_with fail
  refine HU.out.mono ?_
  rintro e w4 ⟨rfl, hb4⟩
  go_wp2
  go_ret
  have hb03 := hb02.trans (hb3.mono hb02.size)
  exact ⟨rfl, hb03.trans (hb4.mono hb03.size)⟩
end Go.Proofs.YtomgaaladpcmoaaDoor
