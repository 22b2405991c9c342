/-
  Walks over lists of strings.
-/
import Derived.Test.YtomgaaladpcmoaaDoorRows
import Derived.Test.YtomgaaladpcmoaaDoorPlain
import Derived.WalkKit
import Derived.WalkLawsBesides
import Derived.WalkSpells
import Derived.Lib.Hide
import Derived.Outline
import Derived.BigQuiet
import Derived.Deep.QuietTactic
import Derived.Deep.LoopGhost
import Derived.Deep.DeepFit
import Derived.LoopTactic
namespace Go.Proofs.YtomgaaladpcmoaaDoor
open Go.RowKit
open Pl

/-- the value is a slice that reads as these strings -/
def StrsAt (w : World) (v : Value) (l : List ByteArray) : Prop :=
  (∃ a c, v = .slice a 0 c ∧ l = [] ∧ c ≤ 9223372036854775807) ∨
  (∃ b o c, v = .slice (some ⟨b, o, none⟩) l.length c ∧ l.length ≤ 9223372036854775807 ∧ l.length ≤ c ∧ c ≤ 9223372036854775807 ∧ 0 < l.length ∧
    ∀ j, j < l.length → w.cell? ⟨b, o + j, none⟩ = some (.string (l.getD j ByteArray.empty)))

theorem list_eq_of {l1 l2 : List ByteArray} (hn : l1.length = l2.length) (h : ∀ j, j < l1.length → l1.getD j ByteArray.empty = l2.getD j ByteArray.empty) : l1 = l2 := by
  apply List.ext_getElem hn
  intro i h1 h2
  have := h i h1
  simpa [List.getD, h1, h2] using this

def UpTo (l1 l2 : List ByteArray) (k : Nat) : Prop := ∀ j, j < k → l1.getD j ByteArray.empty = l2.getD j ByteArray.empty

set_option maxHeartbeats 1000000 in
theorem refSame_ne (a1 a2 : Option Addr) (n c m d : Nat) (w : World) (hnm : n ≠ m) :
    Calls Tryd.prog 9 #[.slice a1 n c, .slice a2 m d] w fun e w' => e = .returned (.bool false) ∧ ∃ q, w' = w.drewN q := by
  have hnm' : ¬ (n : Int) = (m : Int) := by omega
  go_enter Tryd.func9, Tryd.ntmps9
  go_wp2
  go_ret
  exact ⟨rfl, 0, rfl⟩

set_option maxHeartbeats 1000000 in
theorem refSame_nil (a1 a2 : Option Addr) (c d : Nat) (w : World) :
    Calls Tryd.prog 9 #[.slice a1 0 c, .slice a2 0 d] w fun e w' => e = .returned (.bool true) ∧ ∃ q, w' = w.drewN q := by
  go_enter Tryd.func9, Tryd.ntmps9
  go_wp2
  go_loopg [5] 0 (fun _ s wr => s = .int .i64 0 ∧ wr = w)
  case atStart => exact ⟨rfl, rfl⟩
  case round =>
    obtain ⟨rfl, rfl⟩ := hrel
    go_wp2
    go_ret
    exact ⟨rfl, 0, rfl⟩

set_option maxHeartbeats 1000000 in
theorem refSame_cells (b1 o1 c b2 o2 d n : Nat) (l1 l2 : List ByteArray) (w : World) (hl1 : l1.length = n) (hl2 : l2.length = n) (hbig : n ≤ 9223372036854775807)
    (hc1 : ∀ j, j < n → w.cell? ⟨b1, o1 + j, none⟩ = some (.string (l1.getD j ByteArray.empty))) (hc2 : ∀ j, j < n → w.cell? ⟨b2, o2 + j, none⟩ = some (.string (l2.getD j ByteArray.empty))) :
    Calls Tryd.prog 9 #[.slice (some ⟨b1, o1, none⟩) n c, .slice (some ⟨b2, o2, none⟩) n d] w fun e w' => e = .returned (.bool (decide (l1 = l2))) ∧ ∃ q, w' = w.drewN q := by
  have H1 := Lib.hid hl1
  have H2 := Lib.hid hl2
  clear hl1 hl2
  go_enter Tryd.func9, Tryd.ntmps9
  go_wp2
  go_loopg [5] n (fun g s wr => ∃ k q : Nat, k ≤ n ∧ n - k ≤ g ∧ s = .int .i64 k ∧ wr = w.drewN q ∧ UpTo l1 l2 k)
  case atStart => exact ⟨0, 0, Nat.zero_le _, by omega, rfl, rfl, fun j hj => absurd hj (Nat.not_lt_zero _)⟩
  case round =>
    obtain ⟨k, q, hk, hg, rfl, rfl, heq⟩ := hrel
    by_cases hlt : k < n
    · have g1 : w.cell? ⟨b1, o1 + k, none⟩ = some (.string (l1.getD k ByteArray.empty)) := hc1 k (by omega)
      have g2 : w.cell? ⟨b2, o2 + k, none⟩ = some (.string (l2.getD k ByteArray.empty)) := hc2 k (by omega)
      clear hc1 hc2
      generalize hxk : l1.getD k ByteArray.empty = x at g1
      generalize hyk : l2.getD k ByteArray.empty = y at g2
      have X := Lib.hid hxk
      have Y := Lib.hid hyk
      clear hxk hyk
      by_cases hxy : x = y
      · subst hxy
        go_wp2_with fail
        go_region
        go_wp2
        go_roundg (n - (k + 1))
        case measure => omega
        case rel =>
          refine ⟨k + 1, q + 1, by omega, by omega, by go_num, rfl, fun j hj => ?_⟩
          by_cases e : j = k
          · subst e
            rw [X.out, Y.out]
          · exact heq j (by omega)
      · have hxy' : (x.toList == y.toList) = false := by
          rw [ByteArray.toList_eq, ByteArray.toList_eq]
          apply beq_eq_false_iff_ne.2
          intro e
          apply hxy
          cases x; cases y; congr 1
          exact Array.toList_inj.1 e
        go_wp2_with fail
        go_region
        go_wp2
        go_ret
        refine ⟨?_, q + 1, rfl⟩
        rw [decide_eq_false (fun e => hxy (by rw [← X.out, ← Y.out, e]))]; rfl
    · obtain rfl : k = n := by omega
      clear hc1 hc2
      go_wp2
      go_ret
      refine ⟨?_, q, rfl⟩
      rw [decide_eq_true (list_eq_of (by rw [H1.out, H2.out]) (fun j hj => heq j (by rw [H1.out] at hj; exact hj)))]; rfl

theorem refSame (v1 v2 : Value) (l1 l2 : List ByteArray) (w : World) (h1 : StrsAt w v1 l1) (h2 : StrsAt w v2 l2) :
    Calls Tryd.prog 9 #[v1, v2] w fun e w' => e = .returned (.bool (decide (l1 = l2))) ∧ ∃ q, w' = w.drewN q := by
  rcases h1 with ⟨a1, c1, rfl, rfl, -⟩ | ⟨b1, o1, c1, rfl, hm1, -, -, hp1, hc1⟩ <;> rcases h2 with ⟨a2, c2, rfl, rfl, -⟩ | ⟨b2, o2, c2, rfl, hm2, -, -, hp2, hc2⟩
  · exact (refSame_nil _ _ _ _ _).mono fun e w' ⟨h, h'⟩ => ⟨by rw [h]; rfl, h'⟩
  · exact (refSame_ne _ _ _ _ _ _ _ (by omega)).mono fun e w' ⟨h, h'⟩ => ⟨by rw [h, decide_eq_false (fun e => by rw [← e] at hp2; exact absurd hp2 (by simp))], h'⟩
  · exact (refSame_ne _ _ _ _ _ _ _ (by omega)).mono fun e w' ⟨h, h'⟩ => ⟨by rw [h, decide_eq_false (fun e => by rw [e] at hp1; exact absurd hp1 (by simp))], h'⟩
  · by_cases hn : l1.length = l2.length
    · rw [hn]
      exact refSame_cells _ _ _ _ _ _ _ l1 l2 w hn rfl hm2 (fun j hj => hc1 j (by omega)) hc2
    · exact (refSame_ne _ _ _ _ _ _ _ hn).mono fun e w' ⟨h, h'⟩ => ⟨by rw [h, decide_eq_false (fun e => hn (by rw [e]))], h'⟩
end Go.Proofs.YtomgaaladpcmoaaDoor
