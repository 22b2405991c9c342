/-
  What the four cards share: the world of the witness (the two tables laid), the variable MaxLen.
-/
import Derived.Test.YtomgaaladpcmoaaDoorW11
import Derived.Test.YtomgaaladpcmoaaDoorCards
import Derived.Test.YtomgaaladpcmoaaDoorTie
import Derived.ProofKit
import Derived.OpenShut
import Derived.Deep.DeepHandedRow
import Derived.Lib.LaidTab
namespace Go.Proofs.YtomgaaladpcmoaaDoor
open Go.ChangeShapes Go.WideShapes Go.ChangeAt Go.RowKit
open Go.ChangeMaps (setBlock shut_map_nil open_string shut_string keptBut_setBlock frozen?_setBlock heap_setBlock_same)

theorem own : ownKnob Tryd.prog.godebug = none := by kernel_rfl

theorem maxLen_of_shape {W : World} (h : W.ShapedOpen Tryd.prog) : MaxLenAt W :=
  Go.Proofs.cell_of_shapedOpen_int (zero := #[.int .i64 0]) (t := 3) h (of_decide_eq_true (by kernel_rfl)) (by kernel_rfl) rfl (by kernel_rfl) (by kernel_rfl) Tryd.underlying3

/-- A WORLD FOR THE WITNESS: the settled one, the two tables holding what their initialisers lay. -/
noncomputable def laidWorld (os : Os) : World :=
  let w0 := World.holding Tryd.prog os ⟨#[], #[], []⟩
  let put (h : Array Obj) (g : Nat) (cs : Array Value) : Array Obj := h.modify g fun
    | .cells _ t frozen => .cells cs t frozen
    | o => o
  let h1 := put w0.heap 1 (Go.Pinned.utf8FirstZ.map fun (z : Nat) => Value.int .u8 (z : Int)).toArray
  let h2 := put h1 2 #[.int .u8 128, .int .u8 191, .int .u8 160, .int .u8 191, .int .u8 128, .int .u8 159, .int .u8 144, .int .u8 191, .int .u8 128, .int .u8 143, .int .u8 0, .int .u8 0, .int .u8 0, .int .u8 0, .int .u8 0, .int .u8 0,
    .int .u8 0, .int .u8 0, .int .u8 0, .int .u8 0, .int .u8 0, .int .u8 0, .int .u8 0, .int .u8 0, .int .u8 0, .int .u8 0, .int .u8 0, .int .u8 0, .int .u8 0, .int .u8 0, .int .u8 0, .int .u8 0]
  { w0 with heap := h2 }

/-- the law's post where nothing that was there has turned, the result is a bool and the arguments read as before -/
theorem post_kept {H : Type} {enc : TypeId × Value → H} {f : Func} {s : ChangeSpec} {W W' : World} {args : Array Value} {v : Value} {ds : List (DataW H)} {before : List MemPlace}
    (hW : DataW.Whole enc Tryd.prog f.params.toList s.vars false W args.toList ds [] before) (hv : s.vars = [])
    (hres : ∀ (b : Nat) (sp : Nat → Bool) (hd : Bool), DataW.TrodAll enc Tryd.prog W' b sp hd f.resultTypes.toList (v.resultList f.resultTypes.size) (s.fn H (ds ++ [])).results [])
    (hargs : ∀ sp : Nat → Bool, (∀ p ∈ before, sp p.block = true) → DataW.TrodAll enc Tryd.prog W' 0 sp true f.params.toList args.toList (s.fn H (ds ++ [])).args before)
    (hvars : (s.fn H (ds ++ [])).vars = []) (hb : Below W.heap.size W W') :
    s.post enc Tryd.prog f false true false false W args v W' := by
  have hold : ∀ p ∈ before, (fun b => decide (b < W.heap.size)) p.block = true := fun p hp => by simpa using hW.lt p hp
  refine ⟨ds, [], before, [], before, [], hW, hres _ _ _, hargs _ hold, ?_, hb.frame _ |> World.keptBut_mono (fun p hp => ⟨hp, .inr (.inl hp)⟩), fun h => by cases h⟩
  rw [hv, hvars]
  exact rfl

theorem plain_of {f0 : FuncId} {fn0 : Func} {name : String} {ts : Array TypeId} (h0 : Tryd.prog.funcNamed name = some f0) (h1 : Tryd.prog.funcs[f0]? = some fn0) (hl : false = Tryd.prog.looks []) (hp : fn0.params = ts)
    (ht : ∀ t ∈ ts, Tryd.prog.wantsStandIn t = false) (f : FuncId) (fn : Func) (hf : Tryd.pinned.checked.prog.funcNamed name = some f) (hfn : Tryd.pinned.checked.prog.funcs[f]? = some fn) :
    false = Tryd.pinned.checked.prog.looks [] ∧ ∀ (j : Nat) t, fn.params[j]? = some t → Tryd.pinned.checked.prog.wantsStandIn t = false := by
  obtain rfl : f = f0 := Option.some.inj (h0.symm.trans hf) |>.symm
  obtain rfl : fn = fn0 := (Option.some.inj (h1.symm.trans hfn)).symm
  refine ⟨hl, fun j t hj => ht t ?_⟩
  rw [hp] at hj
  exact Array.mem_of_getElem? hj
theorem string_plain : ∀ t ∈ #[(9 : TypeId)], Tryd.prog.wantsStandIn t = false := by
  intro t ht
  obtain rfl : t = 9 := by simpa using ht
  exact (show Tryd.prog.wantsStandIn 9 = false by kernel_rfl)
theorem strings2_plain : ∀ t ∈ #[(9 : TypeId), 9], Tryd.prog.wantsStandIn t = false := by
  intro t ht
  obtain rfl : t = 9 := by simpa using ht
  exact (show Tryd.prog.wantsStandIn 9 = false by kernel_rfl)
theorem strs_plain : ∀ t ∈ #[(22 : TypeId)], Tryd.prog.wantsStandIn t = false := by
  intro t ht
  obtain rfl : t = 22 := by simpa using ht
  exact (show Tryd.prog.wantsStandIn 22 = false by kernel_rfl)
end Go.Proofs.YtomgaaladpcmoaaDoor
