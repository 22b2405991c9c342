/-
  The walks of the program's Join and Under.
-/
import Derived.Test.YtomgaaladpcmoaaDoorW6
namespace Go.Proofs.YtomgaaladpcmoaaDoor
open Go.RowKit
open Pl

theorem below_drewN (w : World) : ∀ n, Below w.heap.size w (w.drewN n)
  | 0 => Below.refl _ _
  | n + 1 => (below_drewN w n).drew

theorem getD_of {l : List ByteArray} {j : Nat} {x : ByteArray} (h : l[j]? = some x) : l.getD j ByteArray.empty = x := by simp [List.getD, h]

/-- slices.Equal -/
theorem equal_any (v1 v2 : Value) (l1 l2 : List ByteArray) (w : World) (h1 : StrsAt w v1 l1) (h2 : StrsAt w v2 l2) :
    Calls Tryd.prog 19 #[v1, v2] w fun e w' => e = .returned (.bool (decide (l1 = l2))) ∧ Below w.heap.size w w' := by
  rcases h1 with ⟨a1, c1, rfl, rfl, -⟩ | ⟨b1, o1, c1, rfl, hm1, -, -, hp1, hc1⟩ <;> rcases h2 with ⟨a2, c2, rfl, rfl, -⟩ | ⟨b2, o2, c2, rfl, hm2, -, -, hp2, hc2⟩
  · exact (Tryd.slices_Equal_string_empty _ _ _ _ _ _ (by omega)).mono fun e w' ⟨h, h'⟩ => ⟨h, h' ▸ Below.refl _ _⟩
  · exact (Tryd.slices_Equal_string_lens _ _ _ _ _ _ w (by omega)).mono fun e w' ⟨h, h'⟩ => ⟨by rw [h, decide_eq_false (fun e => by rw [← e] at hp2; exact absurd hp2 (by simp))], h' ▸ Below.refl _ _⟩
  · exact (Tryd.slices_Equal_string_lens _ _ _ _ _ _ w (by omega)).mono fun e w' ⟨h, h'⟩ => ⟨by rw [h, decide_eq_false (fun e => by rw [e] at hp1; exact absurd hp1 (by simp))], h' ▸ Below.refl _ _⟩
  · refine (Tryd.slices_Equal_string b1 o1 l1.length c1 b2 o2 l2.length c2 l1 l2 w (Nat.le_refl _) (Nat.le_refl _) hm1 hm2 hc1 hc2).mono fun e w' ⟨h, q, h'⟩ => ⟨?_, h' ▸ below_drewN w q⟩
    rw [h, List.take_length, List.take_length]

theorem bl_mk (m : List (List UInt8)) : bl (m.map mk) = m := by
  unfold bl
  rw [List.map_map]
  conv => rhs; rw [← List.map_id m]
  apply List.map_congr_left
  intro x _
  exact mk_toList x

theorem map_mk_bl (l : List ByteArray) : (bl l).map mk = l := by
  unfold bl
  rw [List.map_map]
  conv => rhs; rw [← List.map_id l]
  apply List.map_congr_left
  intro x _
  exact mk_data x

theorem join_path (l : List ByteArray) : 47 :: Lib.join (bl l) [47] = pathOf (bl l) := by
  unfold pathOf
  cases h : bl l with
  | nil => rfl
  | cons x r =>
    rw [if_neg (by simp)]
    clear h
    have : ∀ x : List UInt8, Lib.join (x :: r) [47] = x ++ joinB r := by
      induction r with
      | nil => intro x; simp [Lib.join, joinB]
      | cons y r ih =>
        intro x
        have h1 : Lib.join (x :: y :: r) [47] = x ++ ([47] ++ Lib.join (y :: r) [47]) := by simp [Lib.join, List.intercalate]
        rw [joinB, h1, ih y]; simp
    rw [this, joinB]; rfl

/-- strings.Join with a slash -/
theorem libJoin (v : Value) (l : List ByteArray) (w : World) (h : StrsAt w v l) (hlen : (Lib.join (bl l) [47]).length ≤ 4000000) (hN : l.length ≤ 4000000) :
    Calls Tryd.prog 18 #[v, .string ⟨#[47]⟩] w fun e w' => e = .returned (.string (mk (Lib.join (bl l) [47]))) ∧ Below w.heap.size w w' := by
  rcases h with ⟨a1, c1, rfl, rfl, -⟩ | ⟨b1, o1, c1, rfl, hm1, hm2, hm3, hp1, hc1⟩
  · exact (Tryd.strings_Join_none _ _ _ _).mono fun e w' ⟨h, h'⟩ => ⟨h, h' ▸ Below.refl _ _⟩
  · have hcell : ∀ (j : Nat) x, l[j]? = some x → w.cell? ⟨b1, o1 + j, none⟩ = some (.string x) := fun j x hx => by
      have hj : j < l.length := by
        rcases Nat.lt_or_ge j l.length with h | h
        · exact h
        · simp [List.getElem?_eq_none h] at hx
      rw [hc1 j hj, getD_of hx]
    exact (Tryd.strings_Join b1 o1 c1 l ⟨#[47]⟩ w hcell (World.block_lt_of_cell? w _ (hc1 0 hp1)) (by omega) hm2 (by show (Lib.join (bl l) [47]).length ≤ _; omega)).mono fun e w' ⟨h, h'⟩ => ⟨h, h'⟩

theorem join_yes {l : List ByteArray} {m : List (List UInt8)} (h : pathNames (pathOf (bl l)) = some m) (he : m.map mk = l) : JoinVal l = .tuple #[.string (mk (pathOf (bl l))), .int .i64 0] := by
  have : m = bl l := by rw [← he, bl_mk]
  subst this
  unfold JoinVal
  rw [if_pos (pathNames_ok h).1]
theorem join_no {l : List ByteArray} {m : List (List UInt8)} (h : pathNames (pathOf (bl l)) = some m) (he : ¬ m.map mk = l) : JoinVal l = .tuple #[.string (mk []), .int .i64 20] := by
  unfold JoinVal
  rw [if_neg]
  intro ho
  rw [pathNames_pathOf ho] at h
  apply he
  rw [← Option.some.inj h, map_mk_bl]
theorem join_none {l : List ByteArray} (h : pathNames (pathOf (bl l)) = none) : JoinVal l = .tuple #[.string (mk []), .int .i64 20] := by
  unfold JoinVal
  rw [if_neg]
  intro ho
  rw [pathNames_pathOf ho] at h
  cases h

theorem cat_mk (a : List UInt8) : (⟨#[47]⟩ : ByteArray) ++ mk a = mk (47 :: a) := by
  apply ByteArray.ext; simp [mk]

set_option maxHeartbeats 1000000 in
theorem join_any (v : Value) (l : List ByteArray) (w : World) (h : StrsAt w v l) (hlen : (Lib.join (bl l) [47]).length ≤ 4000000) (hN : l.length ≤ 4000000) (hm : MaxLenAt w) :
    Calls Tryd.prog 11 #[v] w fun e w' => e = .returned (JoinVal l) ∧ Below w.heap.size w w' := by
  have hj := Lib.hid (libJoin v l w h hlen hN)
  have hcat := cat_mk (Lib.join (bl l) [47])
  rw [join_path] at hcat
  obtain ⟨J, hJ⟩ : ∃ J, mk (Lib.join (bl l) [47]) = J := ⟨_, rfl⟩
  obtain ⟨p, hp⟩ : ∃ p, pathOf (bl l) = p := ⟨_, rfl⟩
  have hJs : J.size ≤ 4000000 := by rw [← hJ, ← size_eq, mk_toList]; exact hlen
  rw [hJ] at hj
  rw [hJ, hp] at hcat
  have hps : (mk p).size ≤ 4000000000 := by rw [← hcat, size_append]; have : (⟨#[47]⟩ : ByteArray).size = 1 := rfl; omega
  have HJ := Lib.hid hJ
  have HP := Lib.hid hp
  have HS := Lib.hid hps
  clear hJ hp hps
  go_enter Tryd.func11, Tryd.ntmps11
  go_wp2_with fail
  refine hj.out.mono ?_
  rintro e w1 ⟨rfl, hb1⟩
  go_wp2_with fail
  refine (split_any (mk p) w1 HS.out (hm.later hb1)).mono ?_
  rw [mk_toList]
  rintro e w2 ⟨hb2, hpost⟩
  have hb12 := hb1.trans (hb2.mono hb1.size)
  cases hpn : pathNames p with
  | none =>
    rw [hpn] at hpost
    subst hpost
    have hres := Lib.hid (join_none (l := l) (by rw [HP.out]; exact hpn))
    clear hpn
    go_wp2
    go_ret2
    exact ⟨by rw [hres.out]; rfl, hb12⟩
  | some m =>
    rw [hpn] at hpost
    obtain ⟨v2, rfl, hv2⟩ := hpost
    have hq := Lib.hid (equal_any v2 v (m.map mk) l w2 hv2 (h.later hb12))
    by_cases he : m.map mk = l
    · have hres := Lib.hid (join_yes (l := l) (m := m) (by rw [HP.out]; exact hpn) he)
      have hq' := hq.out
      rw [decide_eq_true he] at hq'
      have HQ := Lib.hid hq'
      rw [HP.out] at hres
      clear hpn he hq hq'
      go_wp2_with fail
      refine HQ.out.mono ?_
      rintro e w3 ⟨rfl, hb3⟩
      go_wp2
      go_ret2
      exact ⟨by rw [hres.out]; rfl, hb12.trans (hb3.mono hb12.size)⟩
    · have hres := Lib.hid (join_no (l := l) (m := m) (by rw [HP.out]; exact hpn) he)
      have hq' := hq.out
      rw [decide_eq_false he] at hq'
      have HQ := Lib.hid hq'
      clear hpn he hq hq'
      go_wp2_with fail
      refine HQ.out.mono ?_
      rintro e w3 ⟨rfl, hb3⟩
      go_wp2
      go_ret2
      exact ⟨by rw [hres.out]; rfl, hb12.trans (hb3.mono hb12.size)⟩
end Go.Proofs.YtomgaaladpcmoaaDoor
