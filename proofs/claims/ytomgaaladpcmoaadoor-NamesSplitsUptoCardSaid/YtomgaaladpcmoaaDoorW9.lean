/-
  The walk of the reference's Under.
-/
import Derived.Test.YtomgaaladpcmoaaDoorW8
namespace Go.Proofs.YtomgaaladpcmoaaDoor
open Go.RowKit
open Pl

theorem strs_of_owns {w : World} {base : Nat} {v : Value} {l : List (List UInt8)} (h : w.ownsRow base 9 1 v l.length (strVals l)) : StrsAt w v (l.map mk) := by
  rcases h.2 with ⟨rfl, h0⟩ | ⟨g, cap, cur, rfl, hbg, hg, hnc, hcm, hcs, htake⟩
  · have : l = [] := List.eq_nil_of_length_eq_zero h0
    subst this; exact strs_nil w
  · unfold maxLen at hcm
    by_cases h0 : l = []
    · subst h0; exact .inl ⟨_, cap, rfl, rfl, by omega⟩
    · have hp : 0 < l.length := List.length_pos_iff.2 h0
      refine .inr ⟨g, 0, cap, by simp, by simp; omega, by simpa using hnc, by omega, by simpa using hp, fun j hj => ?_⟩
      have hj' : j < l.length := by simpa using hj
      have := h.cells (g := g) rfl j (.string (mk (l.getD j []))) (by simp [strVals, List.getD, hj'])
      have e : (⟨g, 0, none⟩ : Addr).add j = ⟨g, 0 + j, none⟩ := by unfold Addr.add; split <;> simp_all
      rw [e] at this
      rw [this]
      simp [List.getD, hj']

theorem refSplit_any (s : ByteArray) (w : World) (hs : s.size ≤ 4000000000) : Calls Tryd.prog 8 #[.string s] w (SplitP s.data.toList w) := by
  refine (refSplit s w (by omega)).mono fun e w' ⟨hb, h⟩ => ⟨hb, ?_⟩
  cases hx : pathNames s.data.toList with
  | none => rw [hx] at h; exact h
  | some l =>
    rw [hx] at h
    obtain ⟨v, he, ho⟩ := h
    exact ⟨v, he, strs_of_owns ho⟩

theorem under_map {a b : List UInt8} {x y : List (List UInt8)} (hx : pathNames a = some x) (hy : pathNames b = some y) :
    underB a b = (decide ((x.map mk).length ≤ (y.map mk).length) && decide (x.map mk = (y.map mk).take (x.map mk).length)) := by
  unfold underB
  rw [hx, hy, ← List.map_take, List.length_map, List.length_map]
  show (decide (x.length ≤ y.length) && decide (x = y.take x.length)) = _
  rw [(decide_eq_decide.2 map_mk_inj : decide (x.map mk = (y.take x.length).map mk) = decide (x = y.take x.length))]

theorem upTo_all {x y : List ByteArray} {k : Nat} (h : UpTo x y k) (hk : k = x.length) (hy : k ≤ y.length) : x = y.take k := by
  apply list_eq_of
  · simp; omega
  · intro j hj
    rw [h j (by omega)]
    have : j < k := by omega
    simp [List.getD, this]

theorem upTo_not {x y : List ByteArray} {k n : Nat} (_hn : n = x.length) (hk : k < n) (hne : x.getD k ByteArray.empty ≠ y.getD k ByteArray.empty) : ¬ x = y.take n := by
  intro h
  apply hne
  rw [h]
  simp [List.getD, hk]

set_option maxHeartbeats 2000000 in
theorem refUnder (s t : ByteArray) (w : World) (hs : s.size ≤ 4000000000) (ht : t.size ≤ 4000000000) :
    Calls Tryd.prog 16 #[.string s, .string t] w fun e w' => e = .returned (.bool (underB s.data.toList t.data.toList)) ∧ Below w.heap.size w w' := by
  have hc1 := Lib.hid (refSplit_any s w hs)
  go_enter Tryd.func16, Tryd.ntmps16
  go_wp2_with fail
  refine hc1.out.mono ?_
  rintro e w1 ⟨hb1, hp1⟩
  have hc2 := Lib.hid (refSplit_any t w1 ht)
  cases hx : pathNames s.data.toList with
  | none =>
    rw [hx] at hp1
    subst hp1
    have hu : underB s.data.toList t.data.toList = false := by unfold underB; rw [hx]
    have HU := Lib.hid hu
    clear hx hu
    go_wp2_with fail
    refine hc2.out.mono ?_
    rintro e w2 ⟨hb2, hp2⟩
    have hb12 := hb1.trans (hb2.mono hb1.size)
    cases hy : pathNames t.data.toList with
    | none =>
      rw [hy] at hp2
      subst hp2
      clear hy
      go_wp2
      go_ret
      exact ⟨ret_bool HU.out.symm, hb12⟩
    | some y =>
      rw [hy] at hp2
      obtain ⟨v2, rfl, hv2⟩ := hp2
      clear hy
      go_wp2
      go_ret
      exact ⟨ret_bool HU.out.symm, hb12⟩
  | some x =>
    rw [hx] at hp1
    obtain ⟨v1, rfl, hv1⟩ := hp1
    have HXX := Lib.hid hx
    clear hx
    go_wp2_with fail
    refine hc2.out.mono ?_
    rintro e w2 ⟨hb2, hp2⟩
    have hb12 := hb1.trans (hb2.mono hb1.size)
    have hv1' := hv1.later hb2
    cases hy : pathNames t.data.toList with
    | none =>
      rw [hy] at hp2
      subst hp2
      have hu : underB s.data.toList t.data.toList = false := by unfold underB; rw [HXX.out, hy]
      have HU := Lib.hid hu
      clear hy hu
      go_wp2
      go_ret
      exact ⟨ret_bool HU.out.symm, hb12⟩
    | some y =>
      rw [hy] at hp2
      obtain ⟨v2, rfl, hv2⟩ := hp2
      have hu := under_map HXX.out hy
      generalize x.map mk = X at *
      generalize y.map mk = Y at *
      have HU := Lib.hid hu
      clear hy hu HXX hv1
      by_cases hle : X.length ≤ Y.length
      · rw [decide_eq_true hle, Bool.true_and] at HU
        by_cases h0 : X.length = 0
        · obtain ⟨a1, c1, e1, -, hcc1, -⟩ := strs_take hv1' (Nat.le_refl _)
          subst e1
          obtain ⟨a2, c2, e2, -, hcc2, -⟩ := strs_take hv2 (Nat.le_refl _)
          subst e2
          have HX0 := Lib.hid h0
          rw [h0] at hle ⊢
          clear hv1' hv2 h0
          generalize Y.length = ny at *
          go_wp2
          go_loopg [9] 0 (fun _ s wr => s = .int .i64 0 ∧ wr = w2)
          case atStart => exact ⟨rfl, rfl⟩
          case round =>
            obtain ⟨rfl, rfl⟩ := hrel
            go_wp2
            go_ret
            refine ⟨ret_bool ?_, hb12⟩
            rw [HU.out, HX0.out]
            have : X = [] := List.eq_nil_of_length_eq_zero HX0.out
            rw [this]; rfl
        · rcases hv1' with ⟨a1, c1, -, e0, -⟩ | ⟨b1, o1, c1, rfl, hm1, hm2, hm3, -, hcl1⟩
          · rw [e0] at h0; exact absurd rfl h0
          · rcases hv2 with ⟨a2, c2, -, e0, -⟩ | ⟨b2, o2, c2, rfl, hn1, hn2, hn3, -, hcl2⟩
            · rw [e0] at hle; simp at hle; rw [hle] at h0; exact absurd rfl h0
            · obtain ⟨n, hn⟩ : ∃ n, X.length = n := ⟨_, rfl⟩
              have HN := Lib.hid hn.symm
              rw [hn] at hle h0 hm1 hm2 hcl1 HU ⊢
              clear hn
              obtain ⟨m, hm⟩ : ∃ n, Y.length = n := ⟨_, rfl⟩
              have HM := Lib.hid hm.symm
              rw [hm] at hle hn1 hn2 hcl2 ⊢
              clear hm
              go_wp2
              go_loopg [9] n (fun g s wr => ∃ k q : Nat, k ≤ n ∧ n - k ≤ g ∧ s = .int .i64 k ∧ wr = w2.drewN q ∧ UpTo X Y k)
              case atStart => exact ⟨0, 0, Nat.zero_le _, by omega, rfl, rfl, fun j hj => absurd hj (Nat.not_lt_zero _)⟩
              case round =>
                obtain ⟨k, q, hk, hg, rfl, rfl, heq⟩ := hrel
                have hbq := (hb12.trans ((below_drewN w2 q).mono hb12.size))
                by_cases hlt : k < n
                · have g1 : w2.cell? ⟨b1, o1 + k, none⟩ = some (.string (X.getD k ByteArray.empty)) := hcl1 k (by omega)
                  have g2 : w2.cell? ⟨b2, o2 + k, none⟩ = some (.string (Y.getD k ByteArray.empty)) := hcl2 k (by omega)
                  clear hcl1 hcl2
                  generalize hxk : X.getD k ByteArray.empty = x1 at g1
                  generalize hyk : Y.getD k ByteArray.empty = y1 at g2
                  have XX := Lib.hid hxk
                  have YY := Lib.hid hyk
                  clear hxk hyk
                  by_cases hxy : x1 = y1
                  · subst hxy
                    go_wp2_with fail
                    go_region
                    go_wp2
                    go_roundg (n - (k + 1))
                    case measure => omega
                    case rel =>
                      refine ⟨k + 1, q + 1, by omega, by omega, by go_num, rfl, fun j hj => ?_⟩
                      by_cases e : j = k
                      · subst e
                        rw [XX.out, YY.out]
                      · exact heq j (by omega)
                  · have hxy' : (x1.toList == y1.toList) = false := (Lib.bytes_beq_false_iff _ _).2 hxy
                    go_wp2_with fail
                    go_region
                    go_wp2
                    go_ret
                    refine ⟨ret_bool ?_, hbq.drew⟩
                    rw [HU.out, decide_eq_false (upTo_not HN.out hlt (by rw [XX.out, YY.out]; exact hxy))]
                · obtain rfl : k = n := by omega
                  clear hcl1 hcl2
                  go_wp2
                  go_ret
                  refine ⟨ret_bool ?_, hbq⟩
                  rw [HU.out, decide_eq_true (upTo_all heq HN.out (by rw [← HM.out]; exact hle))]
      · rw [decide_eq_false hle, Bool.false_and] at HU
        obtain ⟨a1, c1, e1, -, hcc1, -⟩ := strs_take hv1' (Nat.le_refl _)
        subst e1
        obtain ⟨a2, c2, e2, -, hcc2, -⟩ := strs_take hv2 (Nat.le_refl _)
        subst e2
        clear hv1' hv2
        generalize X.length = nx at *
        generalize Y.length = ny at *
        go_wp2
        go_ret
        exact ⟨ret_bool HU.out.symm, hb12⟩
end Go.Proofs.YtomgaaladpcmoaaDoor
