/-
  The walks of Under, the program's and the reference's.
-/
import Derived.Test.YtomgaaladpcmoaaDoorW7
namespace Go.Proofs.YtomgaaladpcmoaaDoor
open Go.RowKit
open Pl

/-- both are paths, and the first one's names are the first of the other's -/
def underB (a b : List UInt8) : Bool :=
  match pathNames a, pathNames b with
  | some x, some y => decide (x.length ≤ y.length) && decide (x = y.take x.length)
  | _, _ => false

theorem map_mk_inj {x y : List (List UInt8)} : (x.map mk = y.map mk) ↔ x = y := by
  constructor
  · intro h
    have := congrArg bl h
    rwa [bl_mk, bl_mk] at this
  · intro h; rw [h]

theorem strs_take {w : World} {v : Value} {l : List ByteArray} {k : Nat} (h : StrsAt w v l) (hk : k ≤ l.length) :
    ∃ a c, v = .slice a l.length c ∧ k ≤ c ∧ c ≤ 9223372036854775807 ∧ StrsAt w (.slice a k c) (l.take k) := by
  rcases h with ⟨a1, c1, rfl, rfl, hc⟩ | ⟨b1, o1, c1, rfl, hm1, hm2, hm3, hp1, hc1⟩
  · refine ⟨a1, c1, rfl, ?_, hc, .inl ⟨a1, c1, ?_, ?_, hc⟩⟩
    · simp at hk; omega
    · have : k = 0 := by simpa using hk
      rw [this]
    · simp
  · refine ⟨_, c1, rfl, by omega, hm3, ?_⟩
    by_cases h0 : k = 0
    · subst h0; exact .inl ⟨_, c1, rfl, by simp, hm3⟩
    · have e : (l.take k).length = k := by simp; omega
      refine .inr ⟨b1, o1, c1, by rw [e], by omega, by omega, hm3, by omega, fun j hj => ?_⟩
      rw [e] at hj
      rw [hc1 j (by omega)]
      simp [List.getD, hj]

set_option maxHeartbeats 2000000 in
theorem under_any (s t : ByteArray) (w : World) (hs : s.size ≤ 4000000000) (ht : t.size ≤ 4000000000) (hm : MaxLenAt w) :
    Calls Tryd.prog 15 #[.string s, .string t] w fun e w' => e = .returned (.bool (underB s.data.toList t.data.toList)) ∧ Below w.heap.size w w' := by
  have hc1 := Lib.hid (split_any s w hs hm)
  go_enter Tryd.func15, Tryd.ntmps15
  go_wp2_with fail
  refine hc1.out.mono ?_
  rintro e w1 ⟨hb1, hp1⟩
  have hc2 := Lib.hid (split_any t w1 ht (hm.later hb1))
  cases hx : pathNames s.data.toList with
  | none =>
    rw [hx] at hp1
    subst hp1
    have hu : underB s.data.toList t.data.toList = false := by unfold underB; rw [hx]
    have HU := Lib.hid hu
    clear hx hu
    go_wp2_with fail
    refine hc2.out.mono ?_
    rintro e w2 ⟨hb2, hp2⟩
    have hb12 := hb1.trans (hb2.mono hb1.size)
    cases hy : pathNames t.data.toList with
    | none =>
      rw [hy] at hp2
      subst hp2
      clear hy
      go_wp2
      go_ret
      exact ⟨ret_bool HU.out.symm, hb12⟩
    | some y =>
      rw [hy] at hp2
      obtain ⟨v2, rfl, hv2⟩ := hp2
      clear hy
      go_wp2
      go_ret
      exact ⟨ret_bool HU.out.symm, hb12⟩
  | some x =>
    rw [hx] at hp1
    obtain ⟨v1, rfl, hv1⟩ := hp1
    have HXX := Lib.hid hx
    clear hx
    go_wp2_with fail
    refine hc2.out.mono ?_
    rintro e w2 ⟨hb2, hp2⟩
    have hb12 := hb1.trans (hb2.mono hb1.size)
    have hv1' := hv1.later hb2
    cases hy : pathNames t.data.toList with
    | none =>
      rw [hy] at hp2
      subst hp2
      have hu : underB s.data.toList t.data.toList = false := by unfold underB; rw [HXX.out, hy]
      have HU := Lib.hid hu
      clear hy hu
      go_wp2
      go_ret
      exact ⟨ret_bool HU.out.symm, hb12⟩
    | some y =>
      rw [hy] at hp2
      obtain ⟨v2, rfl, hv2⟩ := hp2
      have hu : underB s.data.toList t.data.toList = (decide (x.length ≤ y.length) && decide (x = y.take x.length)) := by unfold underB; rw [HXX.out, hy]
      have HU := Lib.hid hu
      clear hy hu
      obtain ⟨a1, c1, e1, -, hcc1, hv1s⟩ := strs_take hv1' (Nat.le_refl _)
      subst e1
      rw [List.length_map] at hv1s ⊢
      by_cases hle : x.length ≤ y.length
      · obtain ⟨a2, c2, e2, hkc, hcc, hv2'⟩ := strs_take hv2 (by rw [List.length_map]; exact hle : x.length ≤ (y.map mk).length)
        subst e2
        rw [List.length_map]
        have hq := equal_any _ _ _ _ w2 hv1s hv2'
        rw [decide_eq_true hle] at HU
        have hdec : decide ((x.map mk).take x.length = (y.map mk).take x.length) = decide (x = y.take x.length) := by
          rw [show (x.map mk).take x.length = x.map mk from List.take_of_length_le (by simp), ← List.map_take]
          exact decide_eq_decide.2 map_mk_inj
        rw [hdec] at hq
        generalize decide (x = y.take x.length) = d at hq HU
        have HQ := Lib.hid hq
        clear hq hdec hv2 hv1 hv1s hv2' hv1'
        generalize x.length = nx at *
        generalize y.length = ny at *
        go_wp2_with fail
        refine HQ.out.mono ?_
        rintro e w3 ⟨rfl, hb3⟩
        go_wp2
        go_ret
        exact ⟨ret_bool (by rw [HU.out]; simp), hb12.trans (hb3.mono hb12.size)⟩
      · obtain ⟨a2, c2, e2, -, hcc, hv2'⟩ := strs_take hv2 (Nat.le_refl _)
        subst e2
        rw [List.length_map]
        rw [decide_eq_false hle] at HU
        clear hv2 hv1 hv1s hv2' hv1'
        generalize x.length = nx at *
        generalize y.length = ny at *
        go_wp2
        go_ret
        exact ⟨ret_bool (by rw [HU.out]; simp), hb12⟩
end Go.Proofs.YtomgaaladpcmoaaDoor
