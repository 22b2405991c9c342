/-
  Plain facts: names joined.
-/
import Derived.Test.YtomgaaladpcmoaaDoorPieces
namespace Go.Proofs.YtomgaaladpcmoaaDoor.Pl

def joinB : List (List UInt8) → List UInt8
  | [] => []
  | x :: r => 47 :: x ++ joinB r

def pathOf (l : List (List UInt8)) : List UInt8 := if l = [] then [47] else joinB l

def okNames (l : List (List UInt8)) : Bool := decide (l.length ≤ 6) && l.all nameB

theorem joinB_snoc (l : List (List UInt8)) (x : List UInt8) : joinB (l ++ [x]) = joinB l ++ 47 :: x := by
  induction l with
  | nil => simp [joinB]
  | cons y r ih => rw [List.cons_append, joinB, ih, joinB]; simp

theorem nameB_noSlash {x : List UInt8} (h : nameB x = true) : ∀ b ∈ x, b ≠ 47 := by
  intro b hb e
  subst e
  unfold nameB at h
  simp only [Bool.and_eq_true, List.all_eq_true] at h
  have := h.2 47 hb
  cases this

theorem nameB_ne {x : List UInt8} (h : nameB x = true) : x ≠ [] := by
  intro e; subst e; cases h

theorem pieces_joinB (x : List UInt8) (r : List (List UInt8)) (hx : ∀ b ∈ x, b ≠ 47) (h : ∀ y ∈ r, ∀ b ∈ y, b ≠ 47) : pieces (x ++ joinB r) = x :: r := by
  induction r generalizing x with
  | nil => rw [joinB, List.append_nil, pieces_self x hx]
  | cons y r ih =>
    rw [joinB, show x ++ (47 :: y ++ joinB r) = x ++ 47 :: (y ++ joinB r) from by simp]
    rw [pieces_append x _ hx, ih y (h y (by simp)) (fun z hz => h z (by simp [hz]))]

theorem joinB_pieces (r : List UInt8) : joinB (pieces r) = 47 :: r := by
  induction r with
  | nil => rfl
  | cons b r ih =>
    unfold pieces
    split
    · rename_i e; subst e; rw [joinB, ih]; rfl
    · have := pieces_ne r
      split
      · contradiction
      · rename_i x xs e
        rw [e, joinB] at ih
        rw [joinB]
        have ih' : x ++ joinB xs = r := by simpa using ih
        simp [ih']

theorem pathNames_cons (r : List UInt8) (h : r ≠ []) : pathNames (47 :: r) = if (pieces r).length ≤ 6 ∧ (pieces r).all nameB = true then some (pieces r) else none := by
  unfold pathNames
  rw [if_neg (by simpa using h)]
  simp

/-- the names of their path -/
theorem pathNames_pathOf {l : List (List UInt8)} (h : okNames l = true) : pathNames (pathOf l) = some l := by
  unfold okNames at h
  simp only [Bool.and_eq_true, decide_eq_true_eq, List.all_eq_true] at h
  obtain ⟨h6, hn⟩ := h
  unfold pathOf
  cases l with
  | nil => rfl
  | cons x r =>
    rw [if_neg (by simp), joinB]
    have hx := nameB_ne (hn x (by simp))
    have hp := pieces_joinB x r (nameB_noSlash (hn x (by simp))) (fun y hy => nameB_noSlash (hn y (by simp [hy])))
    rw [List.cons_append, pathNames_cons _ (by simp [hx]), hp, if_pos ⟨h6, List.all_eq_true.2 hn⟩]

theorem pathNames_ok {p : List UInt8} {l : List (List UInt8)} (h : pathNames p = some l) : okNames l = true ∧ pathOf l = p := by
  unfold pathNames at h
  split at h
  · rename_i e; cases h; subst e; exact ⟨rfl, rfl⟩
  · split at h
    · cases h
    · rename_i b r hne
      split at h
      · rename_i hc
        cases h
        obtain ⟨rfl, h6, hn⟩ := hc
        refine ⟨by unfold okNames; rw [hn]; simp [h6], ?_⟩
        unfold pathOf
        rw [if_neg (pieces_ne r), joinB_pieces]
      · cases h

theorem pathNames_of_eq {l : List (List UInt8)} {p : List UInt8} (h : pathNames p = some l) : pathOf l = p := (pathNames_ok h).2

theorem mk_append (a : List UInt8) (s : ByteArray) : mk a ++ s = mk (a ++ s.data.toList) := by
  unfold mk
  apply ByteArray.ext
  simp

theorem mk_data (s : ByteArray) : mk s.data.toList = s := by
  unfold mk; cases s; simp

theorem mk_toList (l : List UInt8) : (mk l).data.toList = l := by simp [mk]

end Go.Proofs.YtomgaaladpcmoaaDoor.Pl
