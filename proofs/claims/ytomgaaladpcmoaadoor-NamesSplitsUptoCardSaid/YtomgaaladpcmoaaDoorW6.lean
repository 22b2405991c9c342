/-
  The walk of the program's Split.
-/
import Derived.Test.YtomgaaladpcmoaaDoorCuts
import Derived.Test.YtomgaaladpcmoaaDoorW5
namespace Go.Proofs.YtomgaaladpcmoaaDoor
open Go.RowKit
open Pl

/-- the library's variable MaxLen holds an int -/
def MaxLenAt (w : World) : Prop := ∃ m : Int, w.cell? ⟨0, 0, none⟩ = some (.int .i64 m)

theorem MaxLenAt.later {w w' : World} (h : MaxLenAt w) (hb : Below w.heap.size w w') : MaxLenAt w' := by
  obtain ⟨m, hm⟩ := h
  have hlt := World.block_lt_of_cell? w _ hm
  exact ⟨m, by rw [hb.cell hlt]; exact hm⟩

theorem StrsAt.later {w w' : World} {v : Value} {l : List ByteArray} (h : StrsAt w v l) (hb : Below w.heap.size w w') : StrsAt w' v l := by
  rcases h with h | ⟨b, o, c, hv, h1, h2, h3, h4, h5⟩
  · exact .inl h
  · refine .inr ⟨b, o, c, hv, h1, h2, h3, h4, fun j hj => ?_⟩
    have hlt := World.block_lt_of_cell? w _ (h5 j hj)
    rw [hb.cell hlt]; exact h5 j hj

/-- strings.Split at a slash -/
theorem libSplit (s : ByteArray) (w : World) (hs : s.size ≤ 4000000000) (hm : MaxLenAt w) (L : List (List UInt8)) (hL : pieces s.data.toList = L) (n : Nat) (hn : L.length = n) :
    Calls Tryd.prog 17 #[.string s, .string ⟨#[47]⟩] w fun e w' => e = .returned (.slice (some ⟨w.heap.size, 0, none⟩) n n) ∧ Below w.heap.size w w' ∧
      w'.heap.size = w.heap.size + 1 ∧ ∀ j, j < n → w'.cell? ⟨w.heap.size, j, none⟩ = some (.string (mk (L.getD j []))) := by
  obtain ⟨m, hm⟩ := hm
  subst hL; subst hn
  refine (Tryd.strings_Split s ⟨#[47]⟩ m w (by omega) hm (by decide)).mono ?_
  rintro e w' ⟨rfl, rfl⟩
  have hlen : Lib.countB s ⟨#[47]⟩ + 1 = (pieces s.data.toList).length := (pieces_length _).symm
  rw [hlen, splitB_pieces]
  refine ⟨rfl, (Below.refl _ _).alloc (Nat.le_refl _) _, by simp, fun j hj => ?_⟩
  rw [World.cell?_alloc_at _ _ _ _ rfl]
  simp [hj, List.getD]

/-- what the program's Split hands back -/
def SplitP (p : List UInt8) (w : World) (e : Ending) (w' : World) : Prop :=
  Below w.heap.size w w' ∧ match pathNames p with
    | some l => ∃ v, e = .returned (.tuple #[v, .int .i64 0]) ∧ StrsAt w' v (l.map mk)
    | none => e = .returned (.tuple #[.slice none 0 0, .int .i64 20])

theorem SplitP.no {p : List UInt8} {w w' : World} (h : pathNames p = none) (hb : Below w.heap.size w w') : SplitP p w (.returned (.tuple #[.slice none 0 0, .int .i64 20])) w' := by
  unfold SplitP; rw [h]; exact ⟨hb, rfl⟩
theorem SplitP.yes {p : List UInt8} {w w' : World} {l : List (List UInt8)} {v : Value} (h : pathNames p = some l) (hb : Below w.heap.size w w') (ho : StrsAt w' v (l.map mk)) :
    SplitP p w (.returned (.tuple #[v, .int .i64 0])) w' := by
  unfold SplitP; rw [h]; exact ⟨hb, v, rfl, ho⟩

theorem strs_nil (w : World) : StrsAt w (.slice none 0 0) [] := .inl ⟨none, 0, rfl, rfl, by omega⟩

def NamesTo (L : List (List UInt8)) (k : Nat) : Prop := ∀ j, j < k → nameB (L.getD (j + 1) []) = true
theorem NamesTo.step {L : List (List UInt8)} {k : Nat} (h : NamesTo L k) (hn : nameB (L.getD (k + 1) []) = true) : NamesTo L (k + 1) := by
  intro j hj
  by_cases e : j = k
  · subst e; exact hn
  · exact h j (by omega)
theorem NamesTo.all {L : List (List UInt8)} {N : Nat} (h : NamesTo L N) (hL : L.length = N + 1) : L.tail.all nameB = true := by
  rw [List.all_eq_true]
  intro x hx
  obtain ⟨j, hj, e⟩ := List.getElem_of_mem hx
  have hj' : j + 1 < L.length := by simp at hj; omega
  have := h j (by omega)
  simp only [List.getD, hj', List.getElem?_eq_getElem, Option.getD_some] at this
  rw [← e, List.getElem_tail]
  exact this
theorem not_all {L : List (List UInt8)} {N k : Nat} (hL : L.length = N + 1) (hk : k < N) (hn : nameB (L.getD (k + 1) []) = false) : ¬ L.tail.all nameB = true := by
  rw [List.all_eq_true]
  intro h
  have hj' : k + 1 < L.length := by omega
  have := h (L.tail[k]'(by simp; omega)) (List.getElem_mem _)
  simp only [List.getD, hj', List.getElem?_eq_getElem, Option.getD_some] at hn
  rw [List.getElem_tail, hn] at this
  cases this
theorem head_of_get {L : List (List UInt8)} {N : Nat} (hL : L.length = N + 1) {x : ByteArray} (h : mk (L.getD 0 []) = x) (hx : x.toList = []) : L.head? = some [] := by
  cases L with
  | nil => simp at hL
  | cons a r =>
    simp only [List.getD_cons_zero] at h
    rw [← h, ByteArray.toList_eq, mk_toList] at hx
    rw [hx]; rfl
theorem strs_tail {w : World} {L : List (List UInt8)} {N b : Nat} (hL : L.length = N + 1) (h1 : 1 ≤ N) (h7 : N ≤ 7)
    (hc : ∀ j, j < N + 1 → w.cell? ⟨b, j, none⟩ = some (.string (mk (L.getD j [])))) : StrsAt w (.slice (some ⟨b, 1, none⟩) N N) (L.tail.map mk) := by
  have e : (L.tail.map mk).length = N := by simp; omega
  refine .inr ⟨b, 1, N, by rw [e], by omega, by omega, by omega, by omega, fun j hj => ?_⟩
  rw [e] at hj
  rw [Nat.add_comm 1 j, hc (j + 1) (by omega)]
  have hj' : j + 1 < L.length := by omega
  simp [List.getD, hj']

theorem head_getD {L : List (List UInt8)} (h : L.head? = some []) : L.getD 0 [] = [] := by
  cases L with
  | nil => cases h
  | cons a r => simpa using h

set_option maxHeartbeats 1000000 in
theorem split_any (s : ByteArray) (w : World) (hs : s.size ≤ 4000000000) (hm : MaxLenAt w) :
    Calls Tryd.prog 7 #[.string s] w (SplitP s.data.toList w) := by
  by_cases hroot : s.data.toList = [47]
  · have e : (s.toList == [47]) = true := by rw [ByteArray.toList_eq, hroot]; rfl
    have hp : pathNames s.data.toList = some [] := by rw [hroot]; rfl
    have H := Lib.hid hp
    clear hroot hp
    go_enter Tryd.func7, Tryd.ntmps7
    go_wp2
    go_ret2
    exact SplitP.yes H.out (Below.refl _ _) (strs_nil _)
  · have e : (s.toList == [47]) = false := by rw [ByteArray.toList_eq]; exact beq_eq_false_iff_ne.2 hroot
    obtain ⟨L, hL⟩ : ∃ L, pieces s.data.toList = L := ⟨_, rfl⟩
    obtain ⟨n, hn⟩ : ∃ n, L.length = n := ⟨_, rfl⟩
    have hc := Lib.hid (libSplit s w hs hm L hL n hn)
    have hP := pathNames_pieces s.data.toList hroot L hL
    have hn1 : 1 ≤ n := by
      have := pieces_ne s.data.toList
      rw [hL] at this
      cases L with
      | nil => contradiction
      | cons => simp at hn; omega
    have HP := Lib.hid hP
    have HL := Lib.hid hL
    have HN := Lib.hid hn
    clear hP hL hn hroot
    go_enter Tryd.func7, Tryd.ntmps7
    go_wp2_with fail
    refine hc.out.mono ?_
    rintro e w1 ⟨rfl, hb, hz, hcells⟩
    have h0 : w1.cell? ⟨w.heap.size, 0, none⟩ = some (.string (mk (L.getD 0 []))) := hcells 0 (by omega)
    have hcells' := Lib.hid hcells
    clear hcells
    generalize hx : mk (L.getD 0 []) = x at h0
    have HX := Lib.hid hx
    clear hx
    go_wp2
    · have hk : (n : Int) < 2 ∨ 7 < (n : Int) := by assumption
      go_ret2
      exact SplitP.no (by rw [HP.out, if_neg (by rw [HN.out]; omega)]) hb
    · have hx0 : x.toList = [] := by assumption
      have hk : 2 ≤ (n : Int) ∧ (n : Int) ≤ 7 := by assumption
      have hxe := Lib.hid hx0
      clear hx0
      obtain ⟨N, hN⟩ : ∃ N, n = N + 1 := ⟨n - 1, by omega⟩
      subst hN
      go_loopg [28] N (fun g s28 wr => ∃ k : Nat, k ≤ N ∧ N - k ≤ g ∧ s28 = .int .i64 k ∧ NamesTo L k ∧ Below w1.heap.size w1 wr)
      case atStart => exact ⟨0, Nat.zero_le _, by omega, rfl, fun j hj => absurd hj (Nat.not_lt_zero _), Below.refl _ _⟩
      case round =>
        obtain ⟨k, hkN, hg, rfl, hnames, hbel⟩ := hrel
        by_cases hlt : k < N
        · have hcell : wr.cell? ⟨w.heap.size, 1 + k, none⟩ = some (.string (mk (L.getD (k + 1) []))) := by
            rw [hbel.cell (by simp; omega)]; rw [Nat.add_comm 1 k]; exact hcells'.out (k + 1) (by omega)
          have hsz : (mk (L.getD (k + 1) [])).size ≤ 9223372036854775807 := by
            rw [← size_eq, mk_toList, ← HL.out]
            have := piece_le s.data.toList (k + 1)
            rw [size_eq] at this; omega
          have hnx := name_any (mk (L.getD (k + 1) [])) wr hsz
          rw [mk_toList] at hnx
          generalize hy : mk (L.getD (k + 1) []) = y at hcell hnx
          clear hy hsz
          by_cases hgood : nameB (L.getD (k + 1) []) = true
          · rw [hgood] at hnx
            have HX := Lib.hid hnx
            have HG := Lib.hid hgood
            clear hnx hgood
            go_wp2_with fail
            refine HX.out.mono ?_
            rintro e w2 ⟨rfl, hb2⟩
            go_wp2
            go_roundg (N - (k + 1))
            case measure => omega
            case rel => exact ⟨k + 1, by omega, by omega, by go_num, hnames.step HG.out, hbel.trans (hb2.mono hbel.size)⟩
          · rw [Bool.not_eq_true] at hgood
            rw [hgood] at hnx
            have HX := Lib.hid hnx
            have HG := Lib.hid hgood
            clear hnx hgood
            go_wp2_with fail
            refine HX.out.mono ?_
            rintro e w2 ⟨rfl, hb2⟩
            go_wp2
            go_ret2
            have hsize := hb.size
            exact SplitP.no (by rw [HP.out, if_neg (fun h => not_all HN.out hlt HG.out h.2.2.2)]) (hb.trans ((hbel.trans (hb2.mono hbel.size)).mono hsize))
        · obtain rfl : k = N := by omega
          have hsize := hb.size
          go_wp2
          go_ret2
          refine SplitP.yes (l := L.tail) (by rw [HP.out, if_pos ⟨head_of_get HN.out HX.out hxe.out, by rw [HN.out]; omega, by rw [HN.out]; omega, hnames.all HN.out⟩]) (hb.trans (hbel.mono hsize)) ?_
          refine (strs_tail HN.out (by omega) (by omega) (fun j hj => ?_))
          rw [hbel.cell (by simp; omega)]; exact hcells'.out j hj
    · have hk : (n : Int) < 2 := by assumption
      go_ret2
      exact SplitP.no (by rw [HP.out, if_neg (by rw [HN.out]; omega)]) hb
    · have hx0 : ¬ x.toList = [] := by assumption
      go_ret2
      refine SplitP.no (by rw [HP.out, if_neg]; rintro ⟨hh, -⟩; apply hx0; rw [← HX.out, ByteArray.toList_eq, mk_toList]; exact head_getD hh) hb
end Go.Proofs.YtomgaaladpcmoaaDoor
