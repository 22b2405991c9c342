/-
  The law PackTells holds for every input: a change within 32 bits side by side among the bytes of a raw form is told.
-/
import Derived.Test.YtkneigeejgblkaaGreatZTa
namespace Go.Proofs.YtkneigeejgblkaaGreat.ctells
open Go.ChangeShapes Go.WideShapes Go.ChangeAt Go.RowKit
open Go.ChangeMaps (setBlock shut_map_nil open_string shut_string keptBut_setBlock frozen?_setBlock heap_setBlock_same)

set_option maxRecDepth 100000 in
theorem contract (H : Type) (enc : TypeId × Value → H) (W : World) (base : Nat) (args : Array Value) (ds gs : List (DataW H)) (before : List MemPlace)
    (hval : ∀ (j : Nat) t v, Tryz.f6.params[j]? = some t → args[j]? = some v → Value.okWide Tryz.prog W .any base t v)
    (hW : DataW.Whole enc Tryz.prog Tryz.f6.params.toList Rows.packTellsSpec.vars false W args.toList ds gs before) :
    Calls Tryz.prog 6 args W fun e W' => ∃ v, e = .returned v ∧ Rows.packTellsSpec.post enc Tryz.prog Tryz.f6 false true false false W args v W' := by
  have hW' := hW
  obtain ⟨p, q, hA0, hV, rfl, hfz, hnd⟩ := hW
  have hA : DataW.TrodAll enc Tryz.prog W 0 (fun _ => true) true Tryz.f6.params.toList args.toList ds p := hA0
  rw [Tryz.params6] at hA hval
  obtain ⟨v0, vs0, d0, ds0, p0, q0, hargs, rfl, rfl, h0, r0⟩ := trodAll_cons hA
  obtain ⟨v1, vs1, d1, ds1, p1, q1, hargs1, rfl, rfl, h1, r1⟩ := trodAll_cons r0
  obtain ⟨v2, vs2, d2, ds2, p2, q2, hargs2, rfl, rfl, h2, r2⟩ := trodAll_cons r1
  obtain ⟨rfl, rfl, rfl⟩ := trodAll_nil r2
  obtain rfl : vs1 = [v2] := hargs2
  obtain rfl : vs0 = [v1, v2] := hargs1
  obtain rfl : args = #[v0, v1, v2] := by cases args; simp_all
  obtain ⟨rfl, rfl⟩ := trodVars_none hV
  obtain ⟨A, n, c, l, rfl, hl, hr, hc, hc2, hnil, hlow, hbk⟩ := open_bytes (hval 0 22 v0 rfl rfl) h0
  obtain ⟨at_, rfl, rfl, rfl, hwf⟩ := open_int Tryz.underlying3 (hval 1 3 v1 rfl rfl) h1
  obtain ⟨z, rfl, rfl, rfl, hwf2⟩ := open_int Tryz.underlying32 (hval 2 32 v2 rfl rfl) h2
  clear hA0
  simp only [List.append_nil] at hW'
  have hw := hwf
  simp only [Lit.wf, Bool.and_eq_true, decide_eq_true_eq] at hw
  have hw1 : -9223372036854775808 ≤ at_ := hw.1
  have hw2 : at_ ≤ 9223372036854775807 := hw.2
  have hv := hwf2
  simp only [Lit.wf, Bool.and_eq_true, decide_eq_true_eq] at hv
  have hv1 : 0 ≤ z := hv.1
  have hv2 : z ≤ 4294967295 := hv.2
  obtain ⟨mask, hmask⟩ : ∃ mask : Nat, (mask : Int) = z := ⟨z.toNat, by omega⟩
  subst hmask
  refine (lawTells A n c l at_ mask W hl hr hc hc2 hlow hw1 hw2 (by omega)).mono fun e W' ⟨he, hb⟩ => ?_
  subst he
  have hlt : ∀ x ∈ p0, x.block < W.heap.size := fun x hx => hW'.lt x (by simpa using hx)
  exact ⟨_, rfl, post_kept2 hW' rfl (fun _ _ _ => trodAll_cons_mk (shut_bool Tryz.underlying4 _) trodAll_mk0) (by
    have := trodAll_cons_mk (Below.trod laidOut readable_bytes row_bytes h0 hb hlt) (trodAll_cons_mk (shut_int Tryz.underlying3 hwf) (trodAll_cons_mk (shut_int Tryz.underlying32 hwf2) trodAll_mk0))
    simp only [List.append_nil] at this ⊢
    exact this) rfl hb⟩

theorem reads (os : Os) {H : Type} (enc : TypeId × Value → H) : ∃ places, DataW.whole enc Tryz.prog ((laidWorld os).forCall (fun _ _ => 0) ⟨#[], #[.slice none 0 0, .int .i64 0, .int .u32 0], []⟩).memory Tryz.f6.params.toList Rows.packTellsSpec.vars false #[Value.slice none 0 0, .int .i64 0, .int .u32 0].toList 8 = some ([.nil, .lit (.int .i64 0), .lit (.int .u32 0)], [], places) :=
  ⟨[], by kernel_rfl⟩

set_option maxRecDepth 100000 in
theorem lifted (os : Os) (started : os.Started) (H : Type) (enc : TypeId × Value → H) (F : Stop.Interp) :
    ReturnsInHanded {} Tryz.checked os 6 .any ((OpenSpec.ofChange Rows.packTellsSpec).preRow enc Tryz.prog Tryz.f6 Rows.packTellsRow.domain false Rows.packTellsRow.laid) (((OpenSpec.ofChange Rows.packTellsSpec).at F).post enc Tryz.prog Tryz.f6 false true false false) := by
  obtain ⟨places, hx⟩ := reads os enc
  refine returnsInHanded_of_row (C := Tryz.checked) (s := OpenSpec.ofChange Rows.packTellsSpec) own started (by kernel_rfl) Tryz.func6
    (witness_row_at (enc := enc) (C := Tryz.checked) false (laidWorld os) #[.slice none 0 0, .int .i64 0, .int .u32 0] rfl (by kernel_rfl) (by kernel_rfl) (by kernel_rfl)
      (OpenSpec.preRow_of_cond 8 hx (by kernel_rfl) (fun k hk => by cases hk) (by kernel_rfl) (show laidMet Tryz.prog [] _ from ⟨[], by first | trivial | exact rfl | simp [DataW.LaidVars], List.nodup_nil, fun b off h => by cases h⟩))) ?_
  intro W base args ds gs before hval hW _ _ _ _ hsh _
  exact contract H enc W base args ds gs before hval hW

theorem said : Rows.PackTellsSaid :=
  OpenClaim.holds_of_cond 6 Tryz.f6 rfl rfl rfl rfl rfl rfl rfl ⟨rfl, rfl, rfl, rfl, rfl⟩ rfl rfl rfl rfl rfl (by kernel_rfl) Tryz.func6 (by kernel_rfl)
    (of_decide_eq_true (by kernel_rfl)) (by unfold Func.isWrapper; rw [if_neg (of_decide_eq_false (by kernel_rfl))]; exact ⟨rfl, rfl⟩)
    (fun os started H enc _ F => by rw [OpenClaim.pre_eq_preRow]; exact lifted os started H enc F)
#print axioms said
end Go.Proofs.YtkneigeejgblkaaGreat.ctells
