/-
  Plain facts on paths as lists of bytes: the pieces between the slashes; no program in sight.
-/
import Derived.Test.YtomgaaladpcmoaaDoorPlain
import Derived.Lib.Strings
namespace Go.Proofs.YtomgaaladpcmoaaDoor.Pl

def pieces : List UInt8 → List (List UInt8)
  | [] => [[]]
  | b :: r => if b = 47 then [] :: pieces r else match pieces r with
    | [] => [[b]]
    | x :: xs => (b :: x) :: xs

theorem pieces_ne (l : List UInt8) : pieces l ≠ [] := by
  cases l with
  | nil => simp [pieces]
  | cons b r =>
    unfold pieces
    split
    · simp
    · split <;> simp

theorem pieces_append (a r : List UInt8) (h : ∀ x ∈ a, x ≠ 47) : pieces (a ++ 47 :: r) = a :: pieces r := by
  induction a with
  | nil => simp [pieces]
  | cons b a ih =>
    have hb : b ≠ 47 := h b (by simp)
    rw [List.cons_append, pieces, if_neg hb, ih (fun x hx => h x (by simp [hx]))]

theorem pieces_self (a : List UInt8) (h : ∀ x ∈ a, x ≠ 47) : pieces a = [a] := by
  induction a with
  | nil => simp [pieces]
  | cons b a ih =>
    have hb : b ≠ 47 := h b (by simp)
    rw [pieces, if_neg hb, ih (fun x hx => h x (by simp [hx]))]

/-- the names of a path, or none -/
def pathNames (p : List UInt8) : Option (List (List UInt8)) :=
  if p = [47] then some []
  else match p with
    | [] => none
    | b :: r => if b = 47 ∧ (pieces r).length ≤ 6 ∧ (pieces r).all nameB = true then some (pieces r) else none

theorem slice_split (p : List UInt8) (i j : Nat) (b : UInt8) (hij : i ≤ j) (hj : p[j]? = some b) : p.drop i = (p.drop i).take (j - i) ++ b :: p.drop (j + 1) := by
  have hlt : j < p.length := by
    rcases Nat.lt_or_ge j p.length with h | h
    · exact h
    · simp [List.getElem?_eq_none h] at hj
  have e : p.drop j = b :: p.drop (j + 1) := by
    rw [List.drop_eq_getElem_cons hlt]
    congr 1
    rw [List.getElem?_eq_getElem hlt] at hj
    exact Option.some.inj hj
  rw [← e]
  have : p.drop j = (p.drop i).drop (j - i) := by rw [List.drop_drop]; congr 1; omega
  rw [this, List.take_append_drop]

def noSlash (p : List UInt8) (i j : Nat) : Prop := ∀ k, i ≤ k → k < j → p[k]? ≠ some 47

theorem noSlash_mem {p : List UInt8} {i j : Nat} (h : noSlash p i j) : ∀ x ∈ (p.drop i).take (j - i), x ≠ 47 := by
  intro x hx e
  subst e
  obtain ⟨k, hk, he⟩ := List.getElem_of_mem hx
  have h1 : ((p.drop i).take (j - i))[k]? = some 47 := by rw [List.getElem?_eq_getElem hk, he]
  rw [List.getElem?_take] at h1
  split at h1
  · rw [List.getElem?_drop] at h1
    exact h (i + k) (by omega) (by omega) h1
  · cases h1

theorem pieces_hit {p : List UInt8} {i j : Nat} (h : noSlash p i j) (hij : i ≤ j) (hj : p[j]? = some 47) :
    pieces (p.drop i) = (p.drop i).take (j - i) :: pieces (p.drop (j + 1)) := by
  rw [slice_split p i j 47 hij hj]
  rw [pieces_append _ _ (noSlash_mem h), ← slice_split p i j 47 hij hj]

theorem pieces_end {p : List UInt8} {i : Nat} (h : noSlash p i p.length) : pieces (p.drop i) = [(p.drop i).take (p.length - i)] := by
  have e : (p.drop i).take (p.length - i) = p.drop i := List.take_of_length_le (by simp)
  have := noSlash_mem h
  rw [e] at this
  rw [pieces_self _ this, e]

/-- what holds at the head of each round of the reference's Split -/
structure Inv (p : List UInt8) (i frm : Nat) (out : List (List UInt8)) : Prop where
  f1 : 1 ≤ frm
  fi : frm ≤ i
  names : out.all nameB = true
  few : out.length ≤ 6
  rest : (i ≤ p.length ∧ noSlash p frm i ∧ out ++ pieces (p.drop frm) = pieces (p.drop 1)) ∨ (i = p.length + 1 ∧ out = pieces (p.drop 1))

theorem Inv.start (p : List UInt8) (h : 1 ≤ p.length) : Inv p 1 1 [] :=
  ⟨Nat.le_refl _, Nat.le_refl _, rfl, by simp, .inl ⟨h, fun k h1 h2 => absurd h2 (by omega), by simp⟩⟩

theorem Inv.cont {p : List UInt8} {i frm : Nat} {out : List (List UInt8)} (h : Inv p i frm out) (hi : i < p.length) (hb : p[i]? ≠ some 47) : Inv p (i + 1) frm out := by
  refine ⟨h.f1, by have := h.fi; omega, h.names, h.few, .inl ?_⟩
  rcases h.rest with ⟨h1, h2, h3⟩ | ⟨h1, _⟩
  · refine ⟨by omega, fun k hk hlt => ?_, h3⟩
    by_cases e : k = i
    · subst e; exact hb
    · exact h2 k hk (by omega)
  · omega

theorem Inv.head {p : List UInt8} {i frm : Nat} {out : List (List UInt8)} (h : Inv p i frm out) (hi : i ≤ p.length) (hb : i < p.length → p[i]? = some 47) :
    ∃ t, pieces (p.drop 1) = out ++ ((p.drop frm).take (i - frm)) :: t ∧ (i < p.length → t = pieces (p.drop (i + 1))) ∧ (i = p.length → t = []) := by
  rcases h.rest with ⟨h1, h2, h3⟩ | ⟨h1, _⟩
  · by_cases hlt : i < p.length
    · exact ⟨pieces (p.drop (i + 1)), by rw [← h3, pieces_hit h2 h.fi (hb hlt)], fun _ => rfl, fun e => absurd hlt (by omega)⟩
    · obtain rfl : i = p.length := by omega
      exact ⟨[], by rw [← h3, pieces_end h2], fun e => absurd e hlt, fun _ => rfl⟩
  · omega

theorem Inv.bad {p : List UInt8} {i frm : Nat} {out : List (List UInt8)} (h : Inv p i frm out) (hi : i ≤ p.length) (hb : i < p.length → p[i]? = some 47) (hne : p ≠ [47])
    (hbad : nameB ((p.drop frm).take (i - frm)) = false ∨ out.length = 6) : pathNames p = none := by
  obtain ⟨t, ht, -, -⟩ := h.head hi hb
  unfold pathNames
  rw [if_neg hne]
  cases p with
  | nil => rfl
  | cons b r =>
    simp only [List.drop_succ_cons, List.drop_zero] at ht
    have hno : ¬ (b = 47 ∧ (pieces r).length ≤ 6 ∧ (pieces r).all nameB = true) := by
      rintro ⟨-, h1, h2⟩
      rw [ht] at h1 h2
      rcases hbad with e | e
      · simp at h2; rw [h2.2.1] at e; cases e
      · simp at h1; omega
    show (if _ then _ else _) = _
    rw [if_neg hno]

theorem Inv.good {p : List UInt8} {i frm : Nat} {out : List (List UInt8)} (h : Inv p i frm out) (hi : i ≤ p.length) (hb : i < p.length → p[i]? = some 47)
    (hg : nameB ((p.drop frm).take (i - frm)) = true) (hl : out.length ≠ 6) : Inv p (i + 1) (i + 1) (out ++ [(p.drop frm).take (i - frm)]) := by
  obtain ⟨t, ht, h1, h2⟩ := h.head hi hb
  refine ⟨by omega, Nat.le_refl _, ?_, by have := h.few; simp; omega, ?_⟩
  · rw [List.all_append, h.names]; simp [hg]
  · by_cases hlt : i < p.length
    · exact .inl ⟨by omega, fun k ha hb => absurd hb (by omega), by rw [ht, h1 hlt]; simp⟩
    · exact .inr ⟨by omega, by rw [ht, h2 (by omega)]⟩

theorem Inv.done {p : List UInt8} {frm : Nat} {out : List (List UInt8)} (h : Inv p (p.length + 1) frm out) (h0 : p[0]? = some 47) (hne : p ≠ [47]) : pathNames p = some out := by
  have e : out = pieces (p.drop 1) := by
    rcases h.rest with ⟨h1, _⟩ | ⟨_, h2⟩
    · omega
    · exact h2
  unfold pathNames
  rw [if_neg hne]
  cases p with
  | nil => cases h0
  | cons b r =>
    simp only [List.drop_succ_cons, List.drop_zero] at e
    show (if _ then _ else _) = _
    rw [if_pos ⟨by simpa using h0, by rw [← e]; exact h.few, by rw [← e]; exact h.names⟩, e]

def mk (l : List UInt8) : ByteArray := ⟨l.toArray⟩
theorem mk_extract (s : ByteArray) (a b : Nat) : s.extract a b = mk ((s.data.toList.drop a).take (b - a)) := by
  have := Lib.extract_data s a b
  unfold mk
  rw [← this]

end Go.Proofs.YtomgaaladpcmoaaDoor.Pl
