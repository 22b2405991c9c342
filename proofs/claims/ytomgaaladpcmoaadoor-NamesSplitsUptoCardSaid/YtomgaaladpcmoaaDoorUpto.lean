/-
  What the bound on the bulk of the arguments gives; what the three cards with that bound share.
-/
import Derived.Test.YtomgaaladpcmoaaDoorBase
import Derived.SliceStrings
namespace Go.Proofs.YtomgaaladpcmoaaDoor
open Go.ChangeShapes Go.WideShapes Go.ChangeAt Go.RowKit
open Pl

/-- the law's post where nothing that was there has turned (the arguments read in old memory) -/
theorem post_kept2 {H : Type} {enc : TypeId × Value → H} {f : Func} {s : ChangeSpec} {W W' : World} {args : Array Value} {v : Value} {ds : List (DataW H)} {before : List MemPlace}
    (hW : DataW.Whole enc Tryd.prog f.params.toList s.vars false W args.toList ds [] before) (hv : s.vars = [])
    (hres : ∀ (b : Nat) (sp : Nat → Bool) (hd : Bool), DataW.TrodAll enc Tryd.prog W' b sp hd f.resultTypes.toList (v.resultList f.resultTypes.size) (s.fn H (ds ++ [])).results [])
    (hargs : DataW.TrodAll enc Tryd.prog W' 0 (fun b => decide (b < W.heap.size)) true f.params.toList args.toList (s.fn H (ds ++ [])).args before)
    (hvars : (s.fn H (ds ++ [])).vars = []) (hb : Below W.heap.size W W') :
    s.post enc Tryd.prog f false true false false W args v W' := by
  refine ⟨ds, [], before, [], before, [], hW, hres _ _ _, hargs, ?_, hb.frame _ |> World.keptBut_mono (fun p hp => ⟨hp, .inr (.inl hp)⟩), fun h => by cases h⟩
  rw [hv, hvars]
  exact rfl

theorem cells9 : Tryd.prog.cellsOf 9 = 1 := by kernel_rfl
theorem laidOut : laidOutB Tryd.prog = true := by kernel_rfl
theorem readable22 : Tryd.prog.readableRec 22 = true := by kernel_rfl
theorem row22 : (22 : Nat) < Tryd.prog.types.size := of_decide_eq_true (by kernel_rfl)

theorem bulk_bound {H : Type} {l : List (DataW H)} (hk : Rows.uptoSmall H l = true) : Rows.uptoBulkAll l ≤ 1048576 := of_decide_eq_true hk

theorem bulk_string {H : Type} (b : List UInt8) : Rows.uptoBulk (DataW.lit (H := H) (.string b)) = b.length + 1 := by simp [Rows.uptoBulk]

theorem bulk_len {H : Type} (l : List ByteArray) : l.length ≤ Rows.uptoBulkAll (strs (H := H) l) := by
  induction l with
  | nil => simp
  | cons x r ih =>
    have e : strs (H := H) (x :: r) = .lit (.string x.data.toList) :: strs r := rfl
    rw [e, Rows.uptoBulkAll, bulk_string]
    simp; omega

theorem bulk_mem {H : Type} (l : List ByteArray) : ∀ x ∈ l, x.size ≤ Rows.uptoBulkAll (strs (H := H) l) := by
  induction l with
  | nil => simp
  | cons y r ih =>
    intro x hx
    have e : strs (H := H) (y :: r) = .lit (.string y.data.toList) :: strs r := rfl
    rw [e, Rows.uptoBulkAll, bulk_string, size_eq]
    rcases List.mem_cons.1 hx with rfl | h
    · omega
    · have := ih x h; omega

theorem join_cons (x y : List UInt8) (r : List (List UInt8)) : Lib.join (x :: y :: r) [47] = x ++ ([47] ++ Lib.join (y :: r) [47]) := by simp [Lib.join, List.intercalate]

theorem bulk_join {H : Type} : ∀ (l : List ByteArray), (Lib.join (bl l) [47]).length ≤ Rows.uptoBulkAll (strs (H := H) l)
  | [] => by simp [bl, Lib.join, List.intercalate]
  | [x] => by
    have e : strs (H := H) [x] = [.lit (.string x.data.toList)] := rfl
    have e2 : Lib.join (bl [x]) [47] = x.data.toList := by simp [bl, Lib.join, List.intercalate]
    rw [e, e2, Rows.uptoBulkAll, bulk_string]; omega
  | x :: y :: r => by
    have ih := bulk_join (H := H) (y :: r)
    have e : strs (H := H) (x :: y :: r) = .lit (.string x.data.toList) :: strs (y :: r) := rfl
    have e2 : bl (x :: y :: r) = x.data.toList :: y.data.toList :: bl r := rfl
    have e3 : bl (y :: r) = y.data.toList :: bl r := rfl
    rw [e3] at ih
    rw [e, e2, join_cons, Rows.uptoBulkAll, bulk_string]
    simp only [List.length_append, List.length_singleton]
    omega
end Go.Proofs.YtomgaaladpcmoaaDoor
