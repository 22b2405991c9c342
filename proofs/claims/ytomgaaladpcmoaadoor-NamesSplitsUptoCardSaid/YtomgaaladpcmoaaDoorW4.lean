/-
  The walk of the reference's Join.
-/
import Derived.Test.YtomgaaladpcmoaaDoorJoins
import Derived.Test.YtomgaaladpcmoaaDoorW3
namespace Go.Proofs.YtomgaaladpcmoaaDoor
open Go.RowKit
open Pl

def bl (l : List ByteArray) : List (List UInt8) := l.map fun s => s.data.toList

/-- what Join hands back -/
def JoinVal (l : List ByteArray) : Value :=
  if okNames (bl l) = true then .tuple #[.string (mk (pathOf (bl l))), .int .i64 0] else .tuple #[.string (mk []), .int .i64 20]

structure InvJ (l : List ByteArray) (k : Nat) (out : ByteArray) : Prop where
  eq : out = mk (joinB (bl (l.take k)))
  names : (bl (l.take k)).all nameB = true
  size : out.size ≤ 17 * k

theorem nameB_le {x : List UInt8} (h : nameB x = true) : x.length ≤ 16 := by
  unfold nameB at h
  simp only [Bool.and_eq_true, decide_eq_true_eq] at h
  exact h.1.1.1.2

theorem size_append (a b : ByteArray) : (a ++ b).size = a.size + b.size := by simp

theorem take_bl (l : List ByteArray) (k : Nat) (h : k < l.length) : bl (l.take (k + 1)) = bl (l.take k) ++ [(l.getD k ByteArray.empty).data.toList] := by
  unfold bl
  rw [List.take_succ_eq_append_getElem h]
  simp only [List.map_append, List.map_cons, List.map_nil, List.getD, List.getElem?_eq_getElem h, Option.getD_some]

theorem InvJ.start (l : List ByteArray) : InvJ l 0 ByteArray.empty := ⟨rfl, rfl, Nat.le_refl _⟩

theorem InvJ.step {l : List ByteArray} {k : Nat} {out : ByteArray} (h : InvJ l k out) (hk : k < l.length) (hn : nameB (l.getD k ByteArray.empty).data.toList = true) :
    InvJ l (k + 1) (out ++ Pl.mk [47] ++ l.getD k ByteArray.empty) := by
  refine ⟨?_, ?_, ?_⟩
  rotate_left
  rotate_left
  · have h1 := nameB_le hn
    have h2 := h.size
    have h3 : (Pl.mk [47]).size = 1 := rfl
    rw [size_eq] at h1
    rw [size_append, size_append, h3]; omega
  · rw [take_bl l k hk, joinB_snoc, h.eq, mk_append, mk_append]; simp [mk_toList]
  · rw [take_bl l k hk, List.all_append, h.names]; simpa [List.getD] using hn

theorem JoinVal.bad {l : List ByteArray} {k : Nat} (hk : k < l.length) (hn : nameB (l.getD k ByteArray.empty).data.toList = false) : JoinVal l = .tuple #[.string (mk []), .int .i64 20] := by
  unfold JoinVal
  rw [if_neg]
  intro h
  unfold okNames at h
  simp only [Bool.and_eq_true, List.all_eq_true] at h
  have := h.2 (l.getD k ByteArray.empty).data.toList (by simp only [bl, List.getD, hk, List.getElem?_eq_getElem, Option.getD_some]; exact List.mem_map.2 ⟨l[k], List.getElem_mem hk, rfl⟩)
  rw [hn] at this; cases this

theorem JoinVal.long {l : List ByteArray} (hk : 6 < l.length) : JoinVal l = .tuple #[.string (mk []), .int .i64 20] := by
  unfold JoinVal
  rw [if_neg]
  intro h
  unfold okNames at h
  simp only [Bool.and_eq_true, decide_eq_true_eq, bl, List.length_map] at h
  omega

theorem InvJ.done {l : List ByteArray} {out : ByteArray} (h : InvJ l l.length out) (h6 : l.length ≤ 6) : JoinVal l = .tuple #[.string (if l = [] then Pl.mk [47] else out), .int .i64 0] := by
  have h1 := h.eq; have h2 := h.names
  rw [List.take_length] at h1 h2
  unfold JoinVal
  rw [if_pos (by unfold okNames; rw [h2]; simp [bl, h6])]
  unfold pathOf
  by_cases e : l = []
  · subst e; rfl
  · rw [if_neg e, if_neg (by simpa [bl] using e), h1]

set_option maxHeartbeats 1000000 in
theorem refJoin_long (a : Option Addr) (n c : Nat) (w : World) (h6 : 6 < n) :
    Calls Tryd.prog 12 #[.slice a n c] w fun e w' => e = .returned (.tuple #[.string (mk []), .int .i64 20]) ∧ w = w' := by
  go_enter Tryd.func12, Tryd.ntmps12
  go_wp2
  go_ret2
  exact ⟨rfl, rfl⟩

set_option maxHeartbeats 1000000 in
theorem refJoin_nil (a : Option Addr) (c : Nat) (w : World) :
    Calls Tryd.prog 12 #[.slice a 0 c] w fun e w' => e = .returned (.tuple #[.string (mk [47]), .int .i64 0]) ∧ w = w' := by
  go_enter Tryd.func12, Tryd.ntmps12
  go_wp2
  go_loopg [4, 5] 0 (fun _ s4 s5 wr => s4 = .string ⟨#[]⟩ ∧ s5 = .int .i64 0 ∧ wr = w)
  case atStart => exact ⟨rfl, rfl, rfl⟩
  case round =>
    obtain ⟨rfl, rfl, rfl⟩ := hrel
    go_wp2
    go_ret2
    exact ⟨rfl, rfl⟩

set_option maxHeartbeats 1000000 in
theorem refJoin_cells (b o c n : Nat) (l : List ByteArray) (w : World) (hl : l.length = n) (h6 : n ≤ 6) (h0 : 0 < n)
    (hc : ∀ j, j < n → w.cell? ⟨b, o + j, none⟩ = some (.string (l.getD j ByteArray.empty))) (hs : ∀ j, j < n → (l.getD j ByteArray.empty).size ≤ 9223372036854775807) :
    Calls Tryd.prog 12 #[.slice (some ⟨b, o, none⟩) n c] w fun e w' => e = .returned (JoinVal l) ∧ w = w' := by
  have H1 := Lib.hid hl
  clear hl
  go_enter Tryd.func12, Tryd.ntmps12
  go_wp2
  go_loopg [4, 5] n (fun g s4 s5 wr => ∃ (k : Nat) (out : ByteArray), k ≤ n ∧ n - k ≤ g ∧ s4 = .string out ∧ s5 = .int .i64 k ∧ InvJ l k out ∧ w = wr)
  case atStart => exact ⟨0, _, Nat.zero_le _, by omega, rfl, rfl, InvJ.start l, rfl⟩
  case round =>
    obtain ⟨k, out, hk, hg, rfl, rfl, hinv, rfl⟩ := hrel
    by_cases hlt : k < n
    · have g1 : w.cell? ⟨b, o + k, none⟩ = some (.string (l.getD k ByteArray.empty)) := hc k (by omega)
      have hsz := hs k hlt
      have hst := hinv.step (by rw [H1.out]; exact hlt)
      have hbd := JoinVal.bad (l := l) (k := k) (by rw [H1.out]; exact hlt)
      clear hc hs
      generalize l.getD k ByteArray.empty = x at g1 hsz hst hbd
      have hcall := refName x w hsz
      by_cases hn : nameB x.data.toList = true
      · rw [hn] at hcall
        have hst' := Lib.hid (hst hn)
        have HC := Lib.hid hcall
        have hs1 := hinv.size
        have hs2 := nameB_le hn
        rw [size_eq] at hs2
        have hs3 : out.size ≤ 102 := by omega
        have hs4 : (out ++ Pl.mk [47]).size ≤ 103 := by rw [size_append]; have : (Pl.mk [47]).size = 1 := rfl; omega
        clear hst hbd hcall hn hinv
        go_wp2_with fail
        refine HC.out.mono ?_
        rintro e w' ⟨rfl, rfl⟩
        go_wp2
        go_roundg (n - (k + 1))
        case measure => omega
        case rel => exact ⟨k + 1, _, by omega, by omega, rfl, by go_num, hst'.out, rfl⟩
      · rw [Bool.not_eq_true] at hn
        rw [hn] at hcall
        have hbd' := Lib.hid (hbd hn)
        have HC := Lib.hid hcall
        clear hst hbd hcall hn hinv
        go_wp2_with fail
        refine HC.out.mono ?_
        rintro e w' ⟨rfl, rfl⟩
        go_wp2
        go_ret2
        exact ⟨by rw [hbd'.out]; rfl, rfl⟩
    · obtain rfl : k = n := by omega
      have hnil : l ≠ [] := by intro e; rw [e] at H1; have := H1.out; simp at this; omega
      have hout : (out.toList == []) = false := by
        rw [hinv.eq, ByteArray.toList_eq, mk_toList]
        apply beq_eq_false_iff_ne.2
        intro e
        cases l with
        | nil => exact hnil rfl
        | cons x r =>
          have hp : 0 < k := h0
          cases k with
          | zero => omega
          | succ k => simp [bl, joinB] at e
      have hd := hinv
      rw [← H1.out] at hd
      have hd' := Lib.hid (hd.done (by rw [H1.out]; exact h6))
      have Hn := Lib.hid hnil
      clear hc hs hinv hd hnil
      go_wp2
      all_goals go_ret2
      all_goals exact ⟨by rw [hd'.out, if_neg Hn.out]; rfl, rfl⟩

theorem refJoin (v : Value) (l : List ByteArray) (w : World) (h : StrsAt w v l) (hs : ∀ x ∈ l, x.size ≤ 9223372036854775807) :
    Calls Tryd.prog 12 #[v] w fun e w' => e = .returned (JoinVal l) ∧ w = w' := by
  rcases h with ⟨a1, c1, rfl, rfl, -⟩ | ⟨b1, o1, c1, rfl, hm1, -, -, hp1, hc1⟩
  · exact refJoin_nil _ _ _
  · by_cases h6 : l.length ≤ 6
    · exact refJoin_cells _ _ _ _ l w rfl h6 hp1 hc1 (fun j hj => hs _ (by simp only [List.getD, hj, List.getElem?_eq_getElem, Option.getD_some]; exact List.getElem_mem hj))
    · have := refJoin_long (some ⟨b1, o1, none⟩) l.length c1 w (by omega)
      rw [← JoinVal.long (by omega : 6 < l.length)] at this
      exact this
end Go.Proofs.YtomgaaladpcmoaaDoor
