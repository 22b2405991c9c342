/-
  The walk of the reference's Split.
-/
import Derived.Test.YtomgaaladpcmoaaDoorPieces
import Derived.Test.YtomgaaladpcmoaaDoorW1
import Derived.Test.YtomgaaladpcmoaaDoorW2
namespace Go.Proofs.YtomgaaladpcmoaaDoor
open Go.RowKit
open Pl

def strVals (out : List (List UInt8)) : List Value := out.map fun x => Value.string (mk x)

theorem Tryd.info9 : (Tryd.prog.info? 9).map (fun i => (i.zero, i.size, i.bytes)) = some (some (.string .empty), 1, 16) := by kernel_rfl

/-- what Split hands back: the names and OK, or none and ErrPath -/
def SplitPost (p : List UInt8) (w : World) (e : Ending) (w' : World) : Prop :=
  Below w.heap.size w w' ∧ match pathNames p with
    | some l => ∃ v, e = .returned (.tuple #[v, .int .i64 0]) ∧ w'.ownsRow w.heap.size 9 1 v l.length (strVals l)
    | none => e = .returned (.tuple #[.slice none 0 0, .int .i64 20])

theorem SplitPost.none {p : List UInt8} {w w' : World} (h : pathNames p = none) (hb : Below w.heap.size w w') : SplitPost p w (.returned (.tuple #[.slice none 0 0, .int .i64 20])) w' := by
  unfold SplitPost; rw [h]; exact ⟨hb, rfl⟩
theorem SplitPost.some {p : List UInt8} {w w' : World} {l : List (List UInt8)} {v : Value} (h : pathNames p = some l) (hb : Below w.heap.size w w') (ho : w'.ownsRow w.heap.size 9 1 v l.length (strVals l)) :
    SplitPost p w (.returned (.tuple #[v, .int .i64 0])) w' := by
  unfold SplitPost; rw [h]; exact ⟨hb, v, rfl, ho⟩

theorem ownsRow_slice {w : World} {base : Nat} {e : TypeId} {size : Nat} {v : Value} {n : Nat} {xs : List Value} (h : w.ownsRow base e size v n xs) : ∃ a c, v = .slice a n c := by
  rcases h.2 with ⟨rfl, rfl⟩ | ⟨g, cap, cur, rfl, -⟩
  · exact ⟨none, 0, rfl⟩
  · exact ⟨_, cap, rfl⟩

set_option maxHeartbeats 1000000 in
theorem refSplit (s : ByteArray) (w : World) (hs : s.size ≤ 9223372036854775806) :
    Calls Tryd.prog 8 #[.string s] w (SplitPost s.data.toList w) := by
  obtain ⟨i0, hi, hz0, hz1, hz2⟩ := info_parts Tryd.info9
  by_cases hroot : s.data.toList = [47]
  · have e : (s.toList == [47]) = true := by rw [ByteArray.toList_eq, hroot]; rfl
    have hp : pathNames s.data.toList = some [] := by rw [hroot]; rfl
    have H := Lib.hid hp
    clear hroot hp
    go_enter Tryd.func8, Tryd.ntmps8
    go_wp2
    go_ret2
    exact SplitPost.some H.out (Below.refl _ _) (World.ownsRow_nil _ _ _ _)
  · have e : (s.toList == [47]) = false := by rw [ByteArray.toList_eq]; exact beq_eq_false_iff_ne.2 hroot
    have E := Lib.hid hroot
    clear hroot
    by_cases hsz : s.size < 1
    · have hp : pathNames s.data.toList = none := by
        have : s.data.toList = [] := List.eq_nil_of_length_eq_zero (by rw [size_eq]; omega)
        rw [this]; rfl
      have H := Lib.hid hp
      clear hp
      go_enter Tryd.func8, Tryd.ntmps8
      go_wp2
      go_ret2
      exact SplitPost.none H.out (Below.refl _ _)
    · have h0 : 0 < s.size := by omega
      by_cases hb : s[0] = 47
      · have hb' : ((s[0].toNat : Int) != 47) = false := by rw [hb]; rfl
        have hp0 : s.data.toList[0]? = some 47 := by rw [← hb]; exact List.getElem?_eq_getElem (l := s.data.toList) h0
        have P0 := Lib.hid hp0
        clear hp0 hb
        go_enter Tryd.func8, Tryd.ntmps8
        go_wp2
        go_loopg [4, 5, 6] (s.size + 1) (fun g s4 s5 s6 wr => ∃ (i frm : Nat) (out : List (List UInt8)), i ≤ s.size + 1 ∧ frm ≤ i ∧ s.size + 1 - i ≤ g ∧ s5 = .int .i64 frm ∧ s6 = .int .i64 i ∧ Inv s.data.toList i frm out ∧ Below w.heap.size w wr ∧ wr.ownsRow w.heap.size 9 1 s4 out.length (strVals out))
        case atStart => exact ⟨1, 1, [], by omega, by omega, by omega, rfl, rfl, Inv.start _ (by rw [size_eq]; omega), Below.refl _ _, World.ownsRow_nil _ _ _ _⟩
        case round =>
          obtain ⟨i, frm, out, hisz, hfi, hg, rfl, rfl, hinv, hbel, hown⟩ := hrel
          have hlen := size_eq s
          have hBw := hbel.size
          by_cases hend : i = s.size + 1
          · subst hend
            have hd := Lib.hid (hinv.done P0.out E.out)
            clear hinv hlen
            go_wp2
            go_ret2
            exact SplitPost.some hd.out hbel hown
          · by_cases hcont : i < s.size ∧ s.data.toList[i]? ≠ some 47
            · obtain ⟨hlt, hne⟩ := hcont
              have hbne : ((s[i].toNat : Int) != 47) = true := by
                rw [bne_iff_ne]; intro h; apply hne
                rw [show s.data.toList[i]? = some s[i] from List.getElem?_eq_getElem (l := s.data.toList) hlt]
                exact congrArg _ (UInt8.toNat_inj.1 (by simpa using (by omega : s[i].toNat = 47)))
              have hinv' := Lib.hid (hinv.cont hlt hne)
              clear hinv hne hlen
              go_wp2
              go_roundg (s.size + 1 - (i + 1))
              case measure => omega
              case rel => exact ⟨i + 1, frm, out, by omega, by omega, by omega, rfl, by go_num, hinv'.out, hbel, hown⟩
            · have hpc : i < s.size → s.data.toList[i]? = some 47 := fun h => Decidable.byContradiction fun h' => hcont ⟨h, h'⟩
              clear hcont
              have hcases : (∃ hlt : i < s.size, ((s[i].toNat : Int) != 47) = false) ∨ i = s.size := by
                by_cases hlt : i < s.size
                · refine .inl ⟨hlt, ?_⟩
                  have := hpc hlt
                  rw [show s.data.toList[i]? = some s[i] from List.getElem?_eq_getElem (l := s.data.toList) hlt] at this
                  rw [Option.some.inj this]; rfl
                · exact .inr (by omega)
              have hext := mk_extract s frm i
              have hc0 := refName (s.extract frm i) wr (by have := Lib.extract_data s frm i; have h2 := size_eq (s.extract frm i); rw [← h2, this]; simp; omega)
              have hnm : nameB (s.extract frm i).data.toList = nameB ((s.data.toList.drop frm).take (i - frm)) := by rw [Lib.extract_data]
              rw [hnm] at hc0
              have HX := Lib.hid hext
              have HP := Lib.hid hpc
              have HI := Lib.hid hinv
              clear hpc hinv hlen hnm hext
              by_cases hgood : nameB ((s.data.toList.drop frm).take (i - frm)) = true
              · rw [hgood] at hc0
                have HG := Lib.hid hgood
                clear hgood
                have HC := Lib.hid hc0
                clear hc0
                by_cases hfew : out.length = 6
                · have hbad := Lib.hid (HI.out.bad (by rw [size_eq]; omega) HP.out E.out (.inr hfew))
                  have h6 : ((out.length : Int) == 6) = true := by rw [hfew]; rfl
                  have hn := ownsRow_slice hown
                  obtain ⟨a4, c4, rfl⟩ := hn
                  have HO := Lib.hid hown
                  clear hfew
                  rcases hcases with ⟨hlt, hb47⟩ | heq
                  · go_wp2_with fail
                    refine HC.out.mono ?_
                    rintro e w' ⟨rfl, rfl⟩
                    go_wp2
                    go_ret2
                    exact SplitPost.none hbad.out hbel
                  · subst heq
                    go_wp2_with fail
                    refine HC.out.mono ?_
                    rintro e w' ⟨rfl, rfl⟩
                    go_wp2
                    go_ret2
                    exact SplitPost.none hbad.out hbel
                · have hinv' := Lib.hid (HI.out.good (by rw [size_eq]; omega) HP.out HG.out hfew)
                  have h6 : ((out.length : Int) == 6) = false := by apply beq_eq_false_iff_ne.2; omega
                  have hlt6 : out.length ≤ 5 := by have := HI.out.few; omega
                  have hn := ownsRow_slice hown
                  obtain ⟨a4, c4, rfl⟩ := hn
                  have HO := Lib.hid hown
                  clear hfew
                  rcases hcases with ⟨hlt, hb47⟩ | heq
                  · go_wp2_with fail
                    refine HC.out.mono ?_
                    rintro e w' ⟨rfl, rfl⟩
                    go_wp2_with (at_builtin; refine wpList_append_own _ rfl _ _ 22 rfl w.heap.size 9 i0 (.string .empty) 1 16 Tryd.underlying22 hi hz0 hz1 hz2 rfl (by decide) _ _ _ rfl (hown.alloc _) ⟨wr.heap.size, 0, none⟩ 1 1 [.string (s.extract frm i)] rfl rfl ?c1 ?c2 ?c3 ?c4 ?c5 ?_)
                    case c1 => exact cell_one_new _ _ _
                    case c2 => intro u hu; simp at hu; subst hu; rfl
                    case c3 => unfold maxLen; omega
                    case c4 => omega
                    case c5 => simp; omega
                    intro v' w1 hown' hgrow _
                    clear hown HC
                    go_wp2
                    go_roundg (s.size + 1 - (i + 1))
                    case measure => omega
                    case rel => exact ⟨i + 1, i + 1, out ++ [(s.data.toList.drop frm).take (i - frm)], by omega, Nat.le_refl _, by omega, by go_num, by go_num, hinv'.out, (hbel.alloc hBw _).grown hgrow (by simp; omega) (fun k hk => (HO.out.lt k hk).1), by rw [HX.out] at hown'; simpa [strVals] using hown'⟩
                  · subst heq
                    go_wp2_with fail
                    refine HC.out.mono ?_
                    rintro e w' ⟨rfl, rfl⟩
                    go_wp2_with (at_builtin; refine wpList_append_own _ rfl _ _ 22 rfl w.heap.size 9 i0 (.string .empty) 1 16 Tryd.underlying22 hi hz0 hz1 hz2 rfl (by decide) _ _ _ rfl (hown.alloc _) ⟨wr.heap.size, 0, none⟩ 1 1 [.string (s.extract frm s.size)] rfl rfl ?c1 ?c2 ?c3 ?c4 ?c5 ?_)
                    case c1 => exact cell_one_new _ _ _
                    case c2 => intro u hu; simp at hu; subst hu; rfl
                    case c3 => unfold maxLen; omega
                    case c4 => omega
                    case c5 => simp; omega
                    intro v' w1 hown' hgrow _
                    clear hown HC
                    go_wp2
                    go_roundg (s.size + 1 - (s.size + 1))
                    case measure => omega
                    case rel => exact ⟨s.size + 1, s.size + 1, out ++ [(s.data.toList.drop frm).take (s.size - frm)], by omega, Nat.le_refl _, by omega, by go_num, by go_num, hinv'.out, (hbel.alloc hBw _).grown hgrow (by simp; omega) (fun k hk => (HO.out.lt k hk).1), by rw [HX.out] at hown'; simpa [strVals] using hown'⟩
              · rw [Bool.not_eq_true] at hgood
                rw [hgood] at hc0
                have hbad := Lib.hid (HI.out.bad (by rw [size_eq]; omega) HP.out E.out (.inl hgood))
                clear hgood
                have HC := Lib.hid hc0
                clear hc0
                rcases hcases with ⟨hlt, hb47⟩ | heq
                · go_wp2_with fail
                  refine HC.out.mono ?_
                  rintro e w' ⟨rfl, rfl⟩
                  go_wp2
                  go_ret2
                  exact SplitPost.none hbad.out hbel
                · subst heq
                  go_wp2_with fail
                  refine HC.out.mono ?_
                  rintro e w' ⟨rfl, rfl⟩
                  go_wp2
                  go_ret2
                  exact SplitPost.none hbad.out hbel
      · have hb' : ((s[0].toNat : Int) != 47) = true := by
          rw [bne_iff_ne]; intro h; exact hb (UInt8.toNat_inj.1 (by simpa using (by omega : s[0].toNat = 47)))
        have hp : pathNames s.data.toList = none := by
          unfold pathNames
          rw [if_neg E.out]
          have hp0 : s.data.toList[0]? = some s[0] := List.getElem?_eq_getElem (l := s.data.toList) h0
          revert hp0
          cases s.data.toList with
          | nil => intro _; rfl
          | cons b r => intro hp0; simp at hp0; simp [hp0, hb]
        have H := Lib.hid hp
        clear hp hb
        go_enter Tryd.func8, Tryd.ntmps8
        go_wp2
        go_ret2
        exact SplitPost.none H.out (Below.refl _ _)
end Go.Proofs.YtomgaaladpcmoaaDoor
