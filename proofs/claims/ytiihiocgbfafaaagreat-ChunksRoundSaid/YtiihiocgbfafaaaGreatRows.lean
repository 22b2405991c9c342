/-
  No cell of these rows narrows 'for every input' (looked for: loops, veiled, ifaces, maps, wideKeys, modest, calm, conditions, laid).
  DERIVED. THE GIVEN ROWS OF THIS SEAT. 5 by the template 'for every input the law returns true; each argument reads behind the call as it read before'; 0 by the template 'total and deterministic' (their statements: YtiihiocgbfafaaaGreatTotals.lean).
  GIVEN WITH THE SEED: the statements are not yours to turn. If you find one false, say at which input.
  Laid BY PROGRAM, IN A SANDBOX (cutbox-rows.mjs): the forced cells as the released guide's own fill.sh prints them over the translation 1cae771eb6c7def3… (all of the seat's roots in one cut). By AI agents, Wed Nov 11 2026. No macro, syntax, notation, axiom, sorry.
-/
import Derived.Test.YtiihiocgbfafaaaGreatChecked
import GoSem.Claim
import GoSem.ClaimJoined
import GoSem.ClaimMapViews
import Derived.JoinedTies
import Derived.KernelRfl
namespace Go.Proofs.YtiihiocgbfafaaaGreat
/- THE CELL 'sum', in the pinned program and in every row, IS THE sha256 OF THE DUMP (.gsa) THAT YtiihiocgbfafaaaGreatProg.lean LOADS. Nothing in Lean hashes anything: it is a label: what it is worth is what the hold of that sum in a sandbox is worth. -/
noncomputable def Tryz.pinned : Pinned := { name := "ytiihiocgbfafaaagreat", sum := "1cae771eb6c7def35eb1afeb64751e40ba5b462e7962dd0b46b5e4ad245e9d01", checked := Tryz.checked }
namespace Rows
def none {H : Type} : Left H := { results := [], args := [] }

/-- 'kistlaw16.ChunksTotal': WHATEVER THE INPUT: true; the input reads as it did. -/
def chunksTotalSpec : ChangeSpec := { name := "chunksTotal", fn := fun _ => fun
  | [d1, d2] => { results := [.lit (.bool true)], args := [d1, d2] }
  | _ => none }
def chunksTotalRow : OpenClaim := { program := "ytiihiocgbfafaaagreat", sum := "1cae771eb6c7def35eb1afeb64751e40ba5b462e7962dd0b46b5e4ad245e9d01", func := "kist/kistlaw16.ChunksTotal", spec := "chunksTotal", inPlace := ["internal/bytealg.MakeNoZero", "internal/bytealg.Count", "internal/bytealg.IndexByte", "internal/bytealg.Index"], unfollowed := true, recurses := true, named := ["internal/bytealg.MaxLen"], plainKeys := false, apart := false }
def ChunksTotalSaid : Prop := chunksTotalRow.holds Tryz.pinned (OpenSpec.ofChange chunksTotalSpec)

/-- ITS FALSE NEIGHBOUR: 'it returns false'. Refute it at one input. -/
def chunksTotalWrong : ChangeSpec := { name := "chunksTotal", fn := fun _ => fun
  | [d1, d2] => { results := [.lit (.bool false)], args := [d1, d2] }
  | _ => none }
def ChunksTotalWrongFalsely : Prop := chunksTotalRow.holds Tryz.pinned (OpenSpec.ofChange chunksTotalWrong)

/-- 'kistlaw16.ChunksApart': WHATEVER THE INPUT: true; the input reads as it did. -/
def chunksApartSpec : ChangeSpec := { name := "chunksApart", fn := fun _ => fun
  | [d] => { results := [.lit (.bool true)], args := [d] }
  | _ => none }
def chunksApartRow : OpenClaim := { program := "ytiihiocgbfafaaagreat", sum := "1cae771eb6c7def35eb1afeb64751e40ba5b462e7962dd0b46b5e4ad245e9d01", func := "kist/kistlaw16.ChunksApart", spec := "chunksApart", inPlace := ["internal/bytealg.MakeNoZero", "internal/bytealg.Count", "internal/bytealg.IndexByte", "internal/bytealg.Index"], unfollowed := true, recurses := true, named := ["internal/bytealg.MaxLen"], plainKeys := false, apart := false }
def ChunksApartSaid : Prop := chunksApartRow.holds Tryz.pinned (OpenSpec.ofChange chunksApartSpec)

/-- ITS FALSE NEIGHBOUR: 'it returns false'. Refute it at one input. -/
def chunksApartWrong : ChangeSpec := { name := "chunksApart", fn := fun _ => fun
  | [d] => { results := [.lit (.bool false)], args := [d] }
  | _ => none }
def ChunksApartWrongFalsely : Prop := chunksApartRow.holds Tryz.pinned (OpenSpec.ofChange chunksApartWrong)

/-- 'kistlaw16.ChunksRound': WHATEVER THE INPUT: true; the input reads as it did. -/
def chunksRoundSpec : ChangeSpec := { name := "chunksRound", fn := fun _ => fun
  | [d1, d2] => { results := [.lit (.bool true)], args := [d1, d2] }
  | _ => none }
def chunksRoundRow : OpenClaim := { program := "ytiihiocgbfafaaagreat", sum := "1cae771eb6c7def35eb1afeb64751e40ba5b462e7962dd0b46b5e4ad245e9d01", func := "kist/kistlaw16.ChunksRound", spec := "chunksRound", inPlace := ["internal/bytealg.MakeNoZero", "internal/bytealg.Count", "internal/bytealg.IndexByte", "internal/bytealg.Index"], unfollowed := true, recurses := true, named := ["internal/bytealg.MaxLen"], plainKeys := false, apart := false }
def ChunksRoundSaid : Prop := chunksRoundRow.holds Tryz.pinned (OpenSpec.ofChange chunksRoundSpec)

/-- ITS FALSE NEIGHBOUR: 'it returns false'. Refute it at one input. -/
def chunksRoundWrong : ChangeSpec := { name := "chunksRound", fn := fun _ => fun
  | [d1, d2] => { results := [.lit (.bool false)], args := [d1, d2] }
  | _ => none }
def ChunksRoundWrongFalsely : Prop := chunksRoundRow.holds Tryz.pinned (OpenSpec.ofChange chunksRoundWrong)

/-- 'kistlaw16.ChunksUndo': WHATEVER THE INPUT: true; the input reads as it did. -/
def chunksUndoSpec : ChangeSpec := { name := "chunksUndo", fn := fun _ => fun
  | [d1, d2] => { results := [.lit (.bool true)], args := [d1, d2] }
  | _ => none }
def chunksUndoRow : OpenClaim := { program := "ytiihiocgbfafaaagreat", sum := "1cae771eb6c7def35eb1afeb64751e40ba5b462e7962dd0b46b5e4ad245e9d01", func := "kist/kistlaw16.ChunksUndo", spec := "chunksUndo", inPlace := ["internal/bytealg.MakeNoZero", "internal/bytealg.Count", "internal/bytealg.IndexByte", "internal/bytealg.Index"], unfollowed := true, recurses := true, named := ["internal/bytealg.MaxLen"], plainKeys := false, apart := false }
def ChunksUndoSaid : Prop := chunksUndoRow.holds Tryz.pinned (OpenSpec.ofChange chunksUndoSpec)

/-- ITS FALSE NEIGHBOUR: 'it returns false'. Refute it at one input. -/
def chunksUndoWrong : ChangeSpec := { name := "chunksUndo", fn := fun _ => fun
  | [d1, d2] => { results := [.lit (.bool false)], args := [d1, d2] }
  | _ => none }
def ChunksUndoWrongFalsely : Prop := chunksUndoRow.holds Tryz.pinned (OpenSpec.ofChange chunksUndoWrong)

/-- 'kistlaw16.ChunksLearn': WHATEVER THE INPUT: true; the input reads as it did. -/
def chunksLearnSpec : ChangeSpec := { name := "chunksLearn", fn := fun _ => fun
  | [d] => { results := [.lit (.bool true)], args := [d] }
  | _ => none }
def chunksLearnRow : OpenClaim := { program := "ytiihiocgbfafaaagreat", sum := "1cae771eb6c7def35eb1afeb64751e40ba5b462e7962dd0b46b5e4ad245e9d01", func := "kist/kistlaw16.ChunksLearn", spec := "chunksLearn", inPlace := ["internal/bytealg.MakeNoZero", "internal/bytealg.Count", "internal/bytealg.IndexByte", "internal/bytealg.Index"], unfollowed := true, recurses := true, named := ["internal/bytealg.MaxLen"], plainKeys := false, apart := false }
def ChunksLearnSaid : Prop := chunksLearnRow.holds Tryz.pinned (OpenSpec.ofChange chunksLearnSpec)

/-- ITS FALSE NEIGHBOUR: 'it returns false'. Refute it at one input. -/
def chunksLearnWrong : ChangeSpec := { name := "chunksLearn", fn := fun _ => fun
  | [d] => { results := [.lit (.bool false)], args := [d] }
  | _ => none }
def ChunksLearnWrongFalsely : Prop := chunksLearnRow.holds Tryz.pinned (OpenSpec.ofChange chunksLearnWrong)

/- THE SECOND FORM. 'bulk': how many values and letters a reading holds, each counted each time it is reached (what is shared counts as often as it is met; a slice's spare places count too). A statement '..UptoSaid' is the law's where the arguments, and the package variables that the reading takes, are together of bulk at most 1048576: NARROWER than '..Said'. Prove '..Said' where nothing that the law and all that it calls make is longer than what came in: it says more and counts as full. Else prove '..UptoSaid'. A law counts once. -/
mutual
def uptoBulk {H : Type} : DataW H → Nat
  | .lit (.string bytes) => bytes.length + 1
  | .lit _ => 1
  | .nil => 1
  | .ptr d => uptoBulk d + 1
  | .slice elems spare => uptoBulkAll elems + uptoBulkAll spare + 1
  | .agg parts => uptoBulkAll parts + 1
  | .iface _ d => uptoBulk d + 1
  | .map entries => uptoBulkEntries entries + 1
  | .held _ => 1
def uptoBulkAll {H : Type} : List (DataW H) → Nat
  | [] => 0
  | d :: r => uptoBulk d + uptoBulkAll r
def uptoBulkEntries {H : Type} : List (Lit × DataW H) → Nat
  | [] => 0
  | x :: r => uptoBulkEntry x + uptoBulkEntries r
def uptoBulkEntry {H : Type} : Lit × DataW H → Nat
  | (.string bytes, d) => bytes.length + uptoBulk d + 1
  | (_, d) => uptoBulk d + 1
 end
def uptoSmall : (H : Type) → List (DataW H) → Bool := fun _ ds => decide (uptoBulkAll ds ≤ 1048576)
def OpenSpec.upto (s : _root_.Go.ChangeSpec) : _root_.Go.OpenSpec := { _root_.Go.OpenSpec.ofChange s with cond := some uptoSmall }

/-- 'kistlaw16.ChunksTotal', WHERE WHAT IT READS IS OF BULK AT MOST 1048576: true; the input reads as it did. -/
def chunksTotalUptoRow : OpenClaim := { program := "ytiihiocgbfafaaagreat", sum := "1cae771eb6c7def35eb1afeb64751e40ba5b462e7962dd0b46b5e4ad245e9d01", func := "kist/kistlaw16.ChunksTotal", spec := "chunksTotal", inPlace := ["internal/bytealg.MakeNoZero", "internal/bytealg.Count", "internal/bytealg.IndexByte", "internal/bytealg.Index"], unfollowed := true, recurses := true, named := ["internal/bytealg.MaxLen"], plainKeys := false, apart := false, narrowed := true }
def ChunksTotalUptoSaid : Prop := chunksTotalUptoRow.holds Tryz.pinned (OpenSpec.upto chunksTotalSpec)

/-- 'kistlaw16.ChunksApart', WHERE WHAT IT READS IS OF BULK AT MOST 1048576: true; the input reads as it did. -/
def chunksApartUptoRow : OpenClaim := { program := "ytiihiocgbfafaaagreat", sum := "1cae771eb6c7def35eb1afeb64751e40ba5b462e7962dd0b46b5e4ad245e9d01", func := "kist/kistlaw16.ChunksApart", spec := "chunksApart", inPlace := ["internal/bytealg.MakeNoZero", "internal/bytealg.Count", "internal/bytealg.IndexByte", "internal/bytealg.Index"], unfollowed := true, recurses := true, named := ["internal/bytealg.MaxLen"], plainKeys := false, apart := false, narrowed := true }
def ChunksApartUptoSaid : Prop := chunksApartUptoRow.holds Tryz.pinned (OpenSpec.upto chunksApartSpec)

/-- 'kistlaw16.ChunksRound', WHERE WHAT IT READS IS OF BULK AT MOST 1048576: true; the input reads as it did. -/
def chunksRoundUptoRow : OpenClaim := { program := "ytiihiocgbfafaaagreat", sum := "1cae771eb6c7def35eb1afeb64751e40ba5b462e7962dd0b46b5e4ad245e9d01", func := "kist/kistlaw16.ChunksRound", spec := "chunksRound", inPlace := ["internal/bytealg.MakeNoZero", "internal/bytealg.Count", "internal/bytealg.IndexByte", "internal/bytealg.Index"], unfollowed := true, recurses := true, named := ["internal/bytealg.MaxLen"], plainKeys := false, apart := false, narrowed := true }
def ChunksRoundUptoSaid : Prop := chunksRoundUptoRow.holds Tryz.pinned (OpenSpec.upto chunksRoundSpec)

/-- 'kistlaw16.ChunksUndo', WHERE WHAT IT READS IS OF BULK AT MOST 1048576: true; the input reads as it did. -/
def chunksUndoUptoRow : OpenClaim := { program := "ytiihiocgbfafaaagreat", sum := "1cae771eb6c7def35eb1afeb64751e40ba5b462e7962dd0b46b5e4ad245e9d01", func := "kist/kistlaw16.ChunksUndo", spec := "chunksUndo", inPlace := ["internal/bytealg.MakeNoZero", "internal/bytealg.Count", "internal/bytealg.IndexByte", "internal/bytealg.Index"], unfollowed := true, recurses := true, named := ["internal/bytealg.MaxLen"], plainKeys := false, apart := false, narrowed := true }
def ChunksUndoUptoSaid : Prop := chunksUndoUptoRow.holds Tryz.pinned (OpenSpec.upto chunksUndoSpec)

/-- 'kistlaw16.ChunksLearn', WHERE WHAT IT READS IS OF BULK AT MOST 1048576: true; the input reads as it did. -/
def chunksLearnUptoRow : OpenClaim := { program := "ytiihiocgbfafaaagreat", sum := "1cae771eb6c7def35eb1afeb64751e40ba5b462e7962dd0b46b5e4ad245e9d01", func := "kist/kistlaw16.ChunksLearn", spec := "chunksLearn", inPlace := ["internal/bytealg.MakeNoZero", "internal/bytealg.Count", "internal/bytealg.IndexByte", "internal/bytealg.Index"], unfollowed := true, recurses := true, named := ["internal/bytealg.MaxLen"], plainKeys := false, apart := false, narrowed := true }
def ChunksLearnUptoSaid : Prop := chunksLearnUptoRow.holds Tryz.pinned (OpenSpec.upto chunksLearnSpec)

end Rows
end Go.Proofs.YtiihiocgbfafaaaGreat
