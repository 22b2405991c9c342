/-
  Plain facts: strings.Split at a slash is 'pieces'.
-/
import Derived.Test.YtomgaaladpcmoaaDoorJoins
import Derived.Lib.SplitLaws
namespace Go.Proofs.YtomgaaladpcmoaaDoor.Pl

theorem index_cases (s : List UInt8) : (Lib.index s [47] = -1 ∧ ∀ x ∈ s, x ≠ 47) ∨ ∃ i : Nat, Lib.index s [47] = i ∧ i < s.length ∧ s[i]? = some 47 ∧ ∀ x ∈ s.take i, x ≠ 47 := by
  rw [Lib.index_one]
  rcases Int.lt_or_le (Lib.indexByte s 47) 0 with h | h
  · have hge := Lib.indexByte_ge s 47
    have e : Lib.indexByte s 47 = -1 := by omega
    refine .inl ⟨e, fun x hx h47 => ?_⟩
    obtain ⟨k, hk, hx'⟩ := List.getElem_of_mem hx
    exact Lib.indexByte_none e k (by rw [List.getElem?_eq_getElem hk, hx', h47])
  · obtain ⟨i, hi⟩ := Int.eq_ofNat_of_zero_le h
    have := Lib.indexByte_some hi
    have hlt : i < s.length := by
      rcases Nat.lt_or_ge i s.length with h | h
      · exact h
      · have h1 := this.1
        simp [List.getElem?_eq_none h] at h1
    refine .inr ⟨i, hi, hlt, this.1, fun x hx h47 => ?_⟩
    obtain ⟨k, hk, hx'⟩ := List.getElem_of_mem hx
    have hk' : k < i := by simp at hk; omega
    refine this.2 k hk' ?_
    rw [← h47, ← hx']
    simp

theorem split_pieces : ∀ (n : Nat) (s : List UInt8), s.length ≤ n → Lib.split s [47] = pieces s := by
  intro n
  induction n with
  | zero =>
    intro s hs
    obtain rfl : s = [] := List.eq_nil_of_length_eq_zero (by omega)
    rfl
  | succ n ih =>
    intro s hs
    rcases index_cases s with ⟨hi, hno⟩ | ⟨i, hi, hlt, hat, hno⟩
    · unfold Lib.split
      rw [Lib.count_miss hi, pieces_self s hno]; rfl
    · unfold Lib.split
      rw [Lib.count_hit (by simp) hi, Nat.add_comm, Lib.splitK, hi]
      have hne : ¬ ((i : Int) == -1) = true := by simp
      rw [if_neg hne]
      have e := slice_split s 0 i 47 (Nat.zero_le _) hat
      simp only [List.drop_zero, Nat.sub_zero] at e
      have ih' := ih (s.drop (i + 1)) (by simp; omega)
      unfold Lib.split at ih'
      simp only [List.length_singleton, Int.toNat_natCast, Nat.add_zero]
      rw [ih']
      conv => rhs; rw [e]
      rw [pieces_append _ _ hno]

theorem pieces_length (s : List UInt8) : (pieces s).length = Lib.count s [47] + 1 := by
  induction s with
  | nil => rfl
  | cons b r ih =>
    rw [Lib.count_one] at ih ⊢
    unfold pieces
    by_cases h : b = 47
    · rw [if_pos h, h]; simp [ih]
    · rw [if_neg h, List.count_cons_of_ne (by simpa using h)]
      have := pieces_ne r
      split
      · contradiction
      · rename_i x xs e; rw [e] at ih; simpa using ih

theorem splitB_pieces (s : ByteArray) : Lib.splitB ⟨#[47]⟩ 0 (Lib.countB s ⟨#[47]⟩) s = (pieces s.data.toList).map mk := by
  have h := Lib.splitB_data ⟨#[47]⟩ 0 (Lib.countB s ⟨#[47]⟩) s
  have e : Lib.splitK [47] 0 (Lib.countB s ⟨#[47]⟩) s.data.toList = pieces s.data.toList := split_pieces _ _ (Nat.le_refl _)
  rw [show (⟨#[47]⟩ : ByteArray).data.toList = [47] from rfl, e] at h
  rw [← h, List.map_map]
  conv => lhs; rw [← List.map_id (Lib.splitB ⟨#[47]⟩ 0 (Lib.countB s ⟨#[47]⟩) s)]
  apply List.map_congr_left
  intro x _
  exact (mk_data x).symm

/-- how the program's Split sees a path: its pieces -/
theorem pathNames_pieces (p : List UInt8) (hne : p ≠ [47]) (l : List (List UInt8)) (hl : pieces p = l) :
    pathNames p = if l.head? = some [] ∧ 2 ≤ l.length ∧ l.length ≤ 7 ∧ l.tail.all nameB = true then some l.tail else none := by
  subst hl
  unfold pathNames
  rw [if_neg hne]
  cases p with
  | nil => simp [pieces]
  | cons b r =>
    by_cases hb : b = 47
    · subst hb
      have hp := pieces_ne r
      have h1 : 1 ≤ (pieces r).length := by
        cases h : pieces r with
        | nil => contradiction
        | cons => simp
      simp only [pieces, if_true, List.head?_cons, List.length_cons, List.tail_cons, true_and]
      by_cases h : (pieces r).length ≤ 6 ∧ (pieces r).all nameB = true
      · rw [if_pos h, if_pos ⟨by omega, by omega, h.2⟩]
      · rw [if_neg h, if_neg (fun h' => h ⟨by omega, h'.2.2⟩)]
    · have : ∃ x xs, pieces (b :: r) = (b :: x) :: xs := by
        rw [pieces, if_neg hb]
        split
        · exact ⟨[], [], rfl⟩
        · exact ⟨_, _, rfl⟩
      obtain ⟨x, xs, e⟩ := this
      rw [e, if_neg (by simp)]; simp [hb]

theorem pieces_le (p : List UInt8) : ∀ x ∈ pieces p, x.length ≤ p.length := by
  induction p with
  | nil => simp [pieces]
  | cons b r ih =>
    intro x hx
    unfold pieces at hx
    split at hx
    · rcases List.mem_cons.1 hx with rfl | h
      · simp
      · have := ih x h; simp; omega
    · split at hx
      · have := List.mem_singleton.1 hx; subst this; simp
      · rename_i y ys e
        rw [e] at ih
        rcases List.mem_cons.1 hx with rfl | h
        · have := ih y (by simp); simp; omega
        · have := ih x (by simp [h]); simp; omega

theorem piece_le (p : List UInt8) (j : Nat) : ((pieces p).getD j []).length ≤ p.length := by
  by_cases h : j < (pieces p).length
  · simp only [List.getD, h, List.getElem?_eq_getElem, Option.getD_some]
    exact pieces_le p _ (List.getElem_mem h)
  · simp [List.getD, List.getElem?_eq_none (by omega : (pieces p).length ≤ j)]

end Go.Proofs.YtomgaaladpcmoaaDoor.Pl
