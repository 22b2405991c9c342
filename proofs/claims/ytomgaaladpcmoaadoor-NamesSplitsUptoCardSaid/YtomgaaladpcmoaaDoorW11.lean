/-
  The walks of the four laws.
-/
import Derived.Test.YtomgaaladpcmoaaDoorW10
namespace Go.Proofs.YtomgaaladpcmoaaDoor
open Go.RowKit
open Pl

set_option maxHeartbeats 1000000 in
theorem lawNames (s : ByteArray) (w : World) (hs : s.size ≤ 9223372036854775807) (hm : MaxLenAt w) :
    Calls Tryd.prog 5 #[.string s] w fun e w' => e = .returned (.bool true) ∧ Below w.heap.size w w' := by
  have h1 := name_any s w hs
  have h2 := fun w1 => refName s w1 hs
  have h3 := fun w1 (hb : Below w.heap.size w w1) => lives_any w1 (hm.later hb)
  generalize nameB s.data.toList = d at h1 h2
  have H1 := Lib.hid h1
  have H2 := Lib.hid h2
  have H3 := Lib.hid h3
  clear h1 h2 h3
  go_enter Tryd.func5, Tryd.ntmps5
  go_wp2_with fail
  refine H1.out.mono ?_
  rintro e w1 ⟨rfl, hb1⟩
  go_wp2_with fail
  refine (H2.out w1).mono ?_
  rintro e w2 ⟨rfl, rfl⟩
  go_wp2_with fail
  refine (H3.out w1 hb1).mono ?_
  rintro e w3 ⟨rfl, hb3⟩
  go_wp2
  go_ret
  exact ⟨rfl, hb1.trans (hb3.mono hb1.size)⟩

theorem join_len {p : List UInt8} {l : List (List UInt8)} (h : pathNames p = some l) {n : Nat} (hs : p.length ≤ n) : (Lib.join (bl (l.map mk)) [47]).length ≤ n := by
  have h1 := join_path (l.map mk)
  rw [bl_mk, (pathNames_ok h).2] at h1
  have h2 := congrArg List.length h1
  rw [bl_mk]
  simp at h2
  omega
theorem few_names {p : List UInt8} {l : List (List UInt8)} (h : pathNames p = some l) : l.length ≤ 6 := by
  have := (pathNames_ok h).1
  unfold okNames at this
  simp only [Bool.and_eq_true, decide_eq_true_eq] at this
  exact this.1
theorem join_val {p : List UInt8} {l : List (List UInt8)} (h : pathNames p = some l) : JoinVal (l.map mk) = .tuple #[.string (mk p), .int .i64 0] := by
  unfold JoinVal
  rw [bl_mk, if_pos (pathNames_ok h).1, (pathNames_ok h).2]
theorem under_anti (a b : List UInt8) (h1 : underB a b = true) (h2 : underB b a = true) : a = b := by
  unfold underB at h1 h2
  cases ha : pathNames a with
  | none => rw [ha] at h1; cases h1
  | some x =>
    cases hb : pathNames b with
    | none => rw [ha, hb] at h1; cases h1
    | some y =>
      rw [ha, hb] at h1
      rw [hb, ha] at h2
      simp only [Bool.and_eq_true, decide_eq_true_eq] at h1 h2
      have hl : x.length = y.length := by omega
      have hxy : x = y := by rw [h1.2, hl, List.take_length]
      rw [← (pathNames_ok ha).2, ← (pathNames_ok hb).2, hxy]
theorem under_self (a : List UInt8) : underB a a = (pathNames a).isSome := by
  unfold underB
  cases pathNames a with
  | none => rfl
  | some x => simp

set_option maxHeartbeats 2000000 in
theorem lawSplits (s : ByteArray) (w : World) (hs : s.size ≤ 3000000) (hm : MaxLenAt w) :
    Calls Tryd.prog 3 #[.string s] w fun e w' => e = .returned (.bool true) ∧ Below w.heap.size w w' := by
  have H1 := Lib.hid (split_any s w (by omega) hm)
  have H2 := Lib.hid (fun w1 => refSplit_any s w1 (by omega))
  have H3 := Lib.hid (fun w1 (hb : Below w.heap.size w w1) => lives_any w1 (hm.later hb))
  go_enter Tryd.func3, Tryd.ntmps3
  go_wp2_with fail
  refine H1.out.mono ?_
  rintro e w1 ⟨hb1, hp1⟩
  have hb1' := hb1
  cases hx : pathNames s.data.toList with
  | none =>
    rw [hx] at hp1
    subst hp1
    have HX := Lib.hid hx
    clear hx
    go_wp2_with fail
    refine (H2.out w1).mono ?_
    rintro e w2 ⟨hb2, hp2⟩
    rw [HX.out] at hp2
    subst hp2
    have hb12 := hb1.trans (hb2.mono hb1.size)
    have hs0 := refSame (.slice none 0 0) (.slice none 0 0) [] [] w2 (strs_nil _) (strs_nil _)
    rw [decide_eq_true rfl] at hs0
    have HS := Lib.hid hs0
    clear hs0
    go_wp2_with fail
    refine HS.out.mono ?_
    rintro e w3 ⟨rfl, q, rfl⟩
    have hb123 := hb12.trans ((below_drewN w2 q).mono hb12.size)
    go_wp2_with fail
    refine (H3.out _ hb123).mono ?_
    rintro e w4 ⟨rfl, hb4⟩
    go_wp2
    go_ret
    exact ⟨rfl, hb123.trans (hb4.mono hb123.size)⟩
  | some l =>
    rw [hx] at hp1
    obtain ⟨v1, rfl, hv1⟩ := hp1
    have HX := Lib.hid hx
    clear hx
    go_wp2_with fail
    refine (H2.out w1).mono ?_
    rintro e w2 ⟨hb2, hp2⟩
    rw [HX.out] at hp2
    obtain ⟨v2, rfl, hv2⟩ := hp2
    have hb12 := hb1.trans (hb2.mono hb1.size)
    have hv1' := hv1.later hb2
    have hs0 := refSame v1 v2 _ _ w2 hv1' hv2
    rw [decide_eq_true rfl] at hs0
    have HS := Lib.hid hs0
    clear hs0
    go_wp2_with fail
    refine HS.out.mono ?_
    rintro e w3 ⟨rfl, q, rfl⟩
    have hb3 := below_drewN w2 q
    have hb123 := hb12.trans (hb3.mono hb12.size)
    have hok := pathNames_ok HX.out
    have hj := join_any v1 (l.map mk) (w2.drewN q) (hv1'.later hb3) (join_len HX.out (by rw [size_eq]; omega)) (by have := few_names HX.out; simp; omega) (hm.later hb123)
    rw [join_val HX.out] at hj
    have HJ := Lib.hid hj
    clear hj hok
    go_wp2_with fail
    refine HJ.out.mono ?_
    rintro e w4 ⟨rfl, hb4⟩
    have hb5 := hb123.trans (hb4.mono hb123.size)
    have HE : ((mk s.data.toList).toList == s.toList) = true := by rw [mk_data]; simp
    go_wp2_with fail
    refine (H3.out _ hb5).mono ?_
    rintro e w5 ⟨rfl, hb6⟩
    go_wp2
    go_ret
    exact ⟨rfl, hb5.trans (hb6.mono hb5.size)⟩

set_option maxHeartbeats 2000000 in
theorem lawJoins (v : Value) (l : List ByteArray) (w : World) (h : StrsAt w v l) (hlen : (Lib.join (bl l) [47]).length ≤ 3000000) (hN : l.length ≤ 3000000) (hsz : ∀ x ∈ l, x.size ≤ 3000000) (hm : MaxLenAt w) :
    Calls Tryd.prog 4 #[v] w fun e w' => e = .returned (.bool true) ∧ Below w.heap.size w w' := by
  have H1 := Lib.hid (join_any v l w h (by omega) (by omega) hm)
  have H2 := Lib.hid (fun w1 (hb : Below w.heap.size w w1) => refJoin v l w1 (h.later hb) (fun x hx => by have := hsz x hx; omega))
  have H3 := Lib.hid (fun w1 (hb : Below w.heap.size w w1) => lives_any w1 (hm.later hb))
  by_cases hok : okNames (bl l) = true
  · have hjv : JoinVal l = .tuple #[.string (mk (pathOf (bl l))), .int .i64 0] := by unfold JoinVal; rw [if_pos hok]
    rw [hjv] at H1 H2
    have hpn := pathNames_pathOf hok
    have hps : (mk (pathOf (bl l))).size ≤ 4000000000 := by rw [← size_eq, mk_toList, ← join_path]; simp; omega
    have HPN := Lib.hid hpn
    have HPS := Lib.hid hps
    have HV := Lib.hid h
    clear hpn hps hjv hok h hsz
    go_enter Tryd.func4, Tryd.ntmps4
    go_wp2_with fail
    refine H1.out.mono ?_
    rintro e w1 ⟨rfl, hb1⟩
    go_wp2_with fail
    refine (H2.out w1 hb1).mono ?_
    rintro e w2 ⟨rfl, rfl⟩
    go_wp2_with fail
    refine (split_any _ w1 HPS.out (hm.later hb1)).mono ?_
    rintro e w2 ⟨hb2, hp2⟩
    rw [mk_toList, HPN.out] at hp2
    obtain ⟨v2, rfl, hv2⟩ := hp2
    have hb12 := hb1.trans (hb2.mono hb1.size)
    rw [map_mk_bl] at hv2
    have hs0 := refSame v2 v _ _ w2 hv2 (HV.out.later hb12)
    rw [decide_eq_true rfl] at hs0
    have HS := Lib.hid hs0
    clear hs0
    go_wp2_with fail
    refine HS.out.mono ?_
    rintro e w3 ⟨rfl, q, rfl⟩
    have hb123 := hb12.trans ((below_drewN w2 q).mono hb12.size)
    go_wp2_with fail
    refine (H3.out _ hb123).mono ?_
    rintro e w4 ⟨rfl, hb4⟩
    go_wp2
    go_ret
    exact ⟨rfl, hb123.trans (hb4.mono hb123.size)⟩
  · have hjv : JoinVal l = .tuple #[.string (mk []), .int .i64 20] := by unfold JoinVal; rw [if_neg hok]
    rw [hjv] at H1 H2
    clear hjv hok h hsz
    go_enter Tryd.func4, Tryd.ntmps4
    go_wp2_with fail
    refine H1.out.mono ?_
    rintro e w1 ⟨rfl, hb1⟩
    go_wp2_with fail
    refine (H2.out w1 hb1).mono ?_
    rintro e w2 ⟨rfl, rfl⟩
    go_wp2_with fail
    refine (H3.out _ hb1).mono ?_
    rintro e w4 ⟨rfl, hb4⟩
    go_wp2
    go_ret
    exact ⟨rfl, hb1.trans (hb4.mono hb1.size)⟩

set_option maxHeartbeats 2000000 in
theorem lawUnder (s t : ByteArray) (w : World) (hs : s.size ≤ 3000000) (ht : t.size ≤ 3000000) (hm : MaxLenAt w) :
    Calls Tryd.prog 6 #[.string s, .string t] w fun e w' => e = .returned (.bool true) ∧ Below w.heap.size w w' := by
  have U1 := Lib.hid (fun w1 (hb : Below w.heap.size w w1) => under_any s t w1 (by omega) (by omega) (hm.later hb))
  have U2 := Lib.hid (fun w1 (hb : Below w.heap.size w w1) => under_any t s w1 (by omega) (by omega) (hm.later hb))
  have U3 := Lib.hid (fun w1 (hb : Below w.heap.size w w1) => under_any s s w1 (by omega) (by omega) (hm.later hb))
  have R1 := Lib.hid (fun w1 => refUnder s t w1 (by omega) (by omega))
  have R2 := Lib.hid (fun w1 => refUnder t s w1 (by omega) (by omega))
  have SP := Lib.hid (fun w1 (hb : Below w.heap.size w w1) => split_any s w1 (by omega) (hm.later hb))
  have H3 := Lib.hid (fun w1 (hb : Below w.heap.size w w1) => lives_any w1 (hm.later hb))
  have hanti := under_anti s.data.toList t.data.toList
  have hself := under_self s.data.toList
  generalize hx : underB s.data.toList t.data.toList = x at U1 R1 hanti
  generalize hy : underB t.data.toList s.data.toList = y at U2 R2 hanti
  generalize hz : underB s.data.toList s.data.toList = z at U3 hself
  have hst : (x = true → y = true → (s.toList == t.toList) = true) := fun h1 h2 => by
    rw [ByteArray.toList_eq, ByteArray.toList_eq, hanti h1 h2]; simp
  have HSELF := Lib.hid hself
  have HST := Lib.hid hst
  clear hx hy hz hanti hself hst
  go_enter Tryd.func6, Tryd.ntmps6
  go_wp2_with fail
  refine (U1.out w (Below.refl _ _)).mono ?_
  rintro e w1 ⟨rfl, hb1⟩
  go_wp2_with fail
  refine (U2.out w1 hb1).mono ?_
  rintro e w2 ⟨rfl, hb2'⟩
  have hb2 := hb1.trans (hb2'.mono hb1.size)
  go_wp2_with fail
  refine (SP.out w2 hb2).mono ?_
  rintro e w3 ⟨hb3', hp⟩
  have hb3 := hb2.trans (hb3'.mono hb2.size)
  have hzz : z = (pathNames s.data.toList).isSome := HSELF.out
  cases hpn : pathNames s.data.toList with
  | none =>
    rw [hpn] at hp hzz
    subst hp
    have hzz' : z = false := hzz
    subst hzz'
    clear hpn hzz HSELF
    cases x <;> cases y
    all_goals (try have hst := HST.out rfl rfl)
    all_goals
      go_wp2_with fail
      refine (R1.out w3).mono ?_
      rintro e w4 ⟨rfl, hb4'⟩
      have hb4 := hb3.trans (hb4'.mono hb3.size)
      go_wp2_with fail
      refine (R2.out w4).mono ?_
      rintro e w5 ⟨rfl, hb5'⟩
      have hb5 := hb4.trans (hb5'.mono hb4.size)
      go_wp2_with fail
      refine (U3.out w5 hb5).mono ?_
      rintro e w6 ⟨rfl, hb6'⟩
      have hb6 := hb5.trans (hb6'.mono hb5.size)
      go_wp2_with fail
      refine (H3.out w6 hb6).mono ?_
      rintro e w7 ⟨rfl, hb7'⟩
      go_wp2
      go_ret
      exact ⟨rfl, hb6.trans (hb7'.mono hb6.size)⟩
  | some l =>
    rw [hpn] at hp hzz
    obtain ⟨v1, rfl, hv1⟩ := hp
    have hzz' : z = true := hzz
    subst hzz'
    clear hpn hzz HSELF hv1
    cases x <;> cases y
    all_goals (try have hst := HST.out rfl rfl)
    all_goals
      go_wp2_with fail
      refine (R1.out w3).mono ?_
      rintro e w4 ⟨rfl, hb4'⟩
      have hb4 := hb3.trans (hb4'.mono hb3.size)
      go_wp2_with fail
      refine (R2.out w4).mono ?_
      rintro e w5 ⟨rfl, hb5'⟩
      have hb5 := hb4.trans (hb5'.mono hb4.size)
      go_wp2_with fail
      refine (U3.out w5 hb5).mono ?_
      rintro e w6 ⟨rfl, hb6'⟩
      have hb6 := hb5.trans (hb6'.mono hb5.size)
      go_wp2_with fail
      refine (H3.out w6 hb6).mono ?_
      rintro e w7 ⟨rfl, hb7'⟩
      go_wp2
      go_ret
      exact ⟨rfl, hb6.trans (hb7'.mono hb6.size)⟩
end Go.Proofs.YtomgaaladpcmoaaDoor
