/-
  The law NamesJoins holds wherever what it reads is of bulk at most 1048576; the given card of the second form.
-/
import Derived.Test.YtomgaaladpcmoaaDoorUpto
import Derived.SliceStrings
namespace Go.Proofs.YtomgaaladpcmoaaDoor.cnamesjoins
open Go.ChangeShapes Go.WideShapes Go.ChangeAt Go.RowKit
open Go.ChangeMaps (setBlock shut_map_nil open_string shut_string keptBut_setBlock frozen?_setBlock heap_setBlock_same)
open Pl

theorem contract (H : Type) (enc : TypeId × Value → H) (W : World) (base : Nat) (args : Array Value) (ds gs : List (DataW H)) (before : List MemPlace)
    (hval : ∀ (j : Nat) t v, Tryd.f4.params[j]? = some t → args[j]? = some v → Value.okWide Tryd.prog W .any base t v)
    (hW : DataW.Whole enc Tryd.prog Tryd.f4.params.toList Rows.namesJoinsSpec.vars false W args.toList ds gs before) (hk : Rows.uptoSmall H (ds ++ gs) = true) (hm : MaxLenAt W) :
    Calls Tryd.prog 4 args W fun e W' => ∃ v, e = .returned v ∧ Rows.namesJoinsSpec.post enc Tryd.prog Tryd.f4 false true false false W args v W' := by
  have hW' := hW
  obtain ⟨p, q, hA0, hV, rfl, hfz, hnd⟩ := hW
  have hA : DataW.TrodAll enc Tryd.prog W 0 (fun _ => true) true Tryd.f4.params.toList args.toList ds p := hA0
  rw [Tryd.params4] at hA hval
  obtain ⟨v0, vs0, d0, ds0, p0, q0, hargs, rfl, rfl, h0, r0⟩ := trodAll_cons hA
  obtain ⟨rfl, rfl, rfl⟩ := trodAll_nil r0
  obtain rfl : args = #[v0] := by cases args; simp_all
  obtain ⟨rfl, rfl⟩ := trodVars_none hV
  obtain ⟨a0, len, cap, rfl⟩ := okWide_slice Tryd.underlying22 (hval 0 22 v0 rfl rfl)
  have h0' := h0
  obtain ⟨fuel, hf⟩ := h0
  clear hA0
  simp only [List.append_nil] at hW' hk
  have hb0 := bulk_bound hk
  have hread : ∃ l : List ByteArray, StrsAt W (.slice a0 len cap) l ∧ (Lib.join (bl l) [47]).length ≤ 3000000 ∧ l.length ≤ 3000000 ∧ ∀ x ∈ l, x.size ≤ 3000000 := by
    rcases open_strings Tryd.underlying22 Tryd.underlying9 cells9 hf with ⟨hcs, hx⟩ | ⟨a, len', cap', ss, hcs, _, hl, hmx, hz, hx, hcell, _⟩
    · simp [Value.cells] at hcs
      obtain ⟨rfl, rfl, rfl⟩ := hcs
      exact ⟨[], strs_nil W, by decide, by simp, by simp⟩
    · simp [Value.cells] at hcs
      obtain ⟨rfl, rfl, rfl⟩ := hcs
      simp only [Prod.mk.injEq] at hx
      obtain ⟨rfl, -⟩ := hx
      simp only [if_true] at hz
      have hbl : Rows.uptoBulkAll (strs (H := H) (ss.take len)) ≤ 1048576 := by
        rw [Rows.uptoBulkAll, Rows.uptoBulk] at hb0; omega
      have h1 := bulk_join (H := H) (ss.take len)
      have h2 := bulk_len (H := H) (ss.take len)
      have h3 := bulk_mem (H := H) (ss.take len)
      unfold maxLen at hmx
      refine ⟨ss.take len, ?_, by omega, by omega, fun x hx => by have := h3 x hx; omega⟩
      have hlen : (ss.take len).length = len := by simp; omega
      by_cases hz0 : len = 0
      · subst hz0; exact .inl ⟨_, cap, rfl, by simp, by omega⟩
      · obtain ⟨b, off, spot⟩ := a
        have hspot : spot = none := by simpa [Addr.add] using World.cell?_spot (hcell 0 (by omega))
        subst hspot
        refine .inr ⟨b, off, cap, by rw [hlen], by omega, by omega, by omega, by omega, fun j hj => ?_⟩
        rw [hlen] at hj
        have hc := hcell j (by omega)
        have e : (⟨b, off, none⟩ : Addr).add j = ⟨b, off + j, none⟩ := by unfold Addr.add; split <;> simp_all
        rw [e] at hc
        rw [hc]
        simp [List.getD, hj]
  obtain ⟨l, hst, h1, h2, h3⟩ := hread
  refine (lawJoins _ l W hst h1 h2 h3 hm).mono fun e W' ⟨he, hb⟩ => ?_
  subst he
  have hlt : ∀ x ∈ p0, x.block < W.heap.size := fun x hx => hW'.lt x (by simpa using hx)
  exact ⟨_, rfl, post_kept2 hW' rfl (fun _ _ _ => trodAll_cons_mk (shut_bool Tryd.underlying4 _) trodAll_mk0) (by
    have := trodAll_cons_mk (Below.trod laidOut readable22 row22 h0' hb hlt) trodAll_mk0
    simp only [List.append_nil] at this ⊢
    exact this) rfl hb⟩

theorem laid_met (os : Os) : laidMet Tryd.prog Rows.namesJoinsUptoRow.laid ((laidWorld os).forCall (fun _ _ => 0) ⟨#[], #[.slice none 0 0], []⟩).memory :=
  laidMet_of_run' 8 (by kernel_rfl) (by kernel_rfl)
theorem reads (os : Os) {H : Type} (enc : TypeId × Value → H) : ∃ places, DataW.whole enc Tryd.prog ((laidWorld os).forCall (fun _ _ => 0) ⟨#[], #[.slice none 0 0], []⟩).memory Tryd.f4.params.toList Rows.namesJoinsSpec.vars false #[Value.slice none 0 0].toList 8 = some ([.nil], [], places) :=
  ⟨[], by kernel_rfl⟩

set_option maxRecDepth 100000 in
theorem lifted (os : Os) (started : os.Started) (H : Type) (enc : TypeId × Value → H) (F : Stop.Interp) :
    ReturnsInHanded {} Tryd.checked os 4 .any ((Rows.OpenSpec.upto Rows.namesJoinsSpec).preRow enc Tryd.prog Tryd.f4 Rows.namesJoinsUptoRow.domain false Rows.namesJoinsUptoRow.laid) (((Rows.OpenSpec.upto Rows.namesJoinsSpec).at F).post enc Tryd.prog Tryd.f4 false true false false) := by
  obtain ⟨places, hx⟩ := reads os enc
  refine returnsInHanded_of_row (C := Tryd.checked) (s := Rows.OpenSpec.upto Rows.namesJoinsSpec) own started (by kernel_rfl) Tryd.func4
    (witness_row_at (enc := enc) (C := Tryd.checked) false (laidWorld os) #[.slice none 0 0] rfl (by kernel_rfl) (by kernel_rfl) (by kernel_rfl)
      (OpenSpec.preRow_of_cond 8 hx (by kernel_rfl) (fun k hk => by cases hk; kernel_rfl) (by kernel_rfl) (laid_met os))) ?_
  intro W base args ds gs before hval hW _ hcond _ _ hsh _
  exact contract H enc W base args ds gs before hval hW (hcond _ rfl) (maxLen_of_shape hsh)

theorem said : Rows.NamesJoinsUptoSaid :=
  OpenClaim.holds_of_cond 4 Tryd.f4 rfl rfl rfl rfl rfl rfl rfl ⟨rfl, rfl, rfl, rfl, rfl⟩ rfl rfl rfl rfl rfl (by kernel_rfl) Tryd.func4 (by kernel_rfl)
    (of_decide_eq_true (by kernel_rfl)) (by unfold Func.isWrapper; rw [if_neg (of_decide_eq_false (by kernel_rfl))]; exact ⟨rfl, rfl⟩)
    (fun os started H enc _ F => by rw [OpenClaim.pre_eq_preRow]; exact lifted os started H enc F)

theorem card : Rows.NamesJoinsUptoCardSaid :=
  Claim7.holds_tied_plain_at .later [] _ _ _ _ said (fun _ h => by cases h) (by kernel_rfl) (fun _ h => by cases h) namesJoinsUpto_row_tie rfl ⟨rfl, rfl⟩ (by kernel_rfl) rfl
    (plain_of (f0 := 4) (fn0 := Tryd.f4) (ts := #[22]) (by kernel_rfl) Tryd.func4 (by kernel_rfl) rfl strs_plain) (by kernel_rfl)
#print axioms card
end Go.Proofs.YtomgaaladpcmoaaDoor.cnamesjoins
