/-
  Parts of the proofs, in the order in which they build: R1, M2, M3, M4, M5, T8a, T8b, T8c, T8d, I2, I3, T8e, I4.
-/
import Derived.Test.YtaelgbbnmjbjiaaGreatKb
import Derived.Test.YtaelgbbnmjbjiaaGreatKc
import Derived.Test.YtaelgbbnmjbjiaaGreatKd
import Derived.WalkMore
import Derived.StillTailTactics
import Derived.Deep.QuietTactic
set_option linter.unusedSimpArgs false
set_option linter.unusedVariables false
namespace Go.Proofs.YtaelgbbnmjbjiaaGreat
open Go.RowKit
def copyL (d : Nat) : Nat → List UInt8 → List UInt8
  | 0, out => out
  | n + 1, out => copyL d n (out ++ [out.getD (out.length - d) 0])
theorem copyL_len (d : Nat) : ∀ (n : Nat) (out : List UInt8), (copyL d n out).length = out.length + n
  | 0, _ => rfl
  | n + 1, out => by rw [copyL, copyL_len d n]; simp; omega
theorem copyL_succ (d : Nat) : ∀ (n : Nat) (out : List UInt8), copyL d (n + 1) out = copyL d n out ++ [(copyL d n out).getD ((copyL d n out).length - d) 0]
  | 0, _ => rfl
  | n + 1, out => by rw [copyL, copyL_succ d n]; rfl
def runBad (x : Sq) (have_ left most : Nat) : Bool :=
  decide (left < x.lits) || ((decide (0 < x.len) && (decide (x.dist < 1) || decide (have_ < x.dist))) || (decide (x.len = 0) && decide (x.dist ≠ 0))) || (decide (most < have_) || decide (most - have_ < x.len))
def runGo (most : Nat) : List Sq → List UInt8 → List UInt8 → Option (List UInt8 × List UInt8)
  | [], out, rest => some (out, rest)
  | x :: r, out, rest => if runBad x (out.length + x.lits) rest.length most then none else runGo most r (copyL x.dist x.len (out ++ rest.take x.lits)) (rest.drop x.lits)
def runEnd (most : Nat) : Option (List UInt8 × List UInt8) → Option (List UInt8)
  | none => none
  | some (out, rest) => if most - out.length < rest.length then none else some (out ++ rest)
def runL (lits : List UInt8) (l : List Sq) (most : Nat) : Option (List UInt8) := runEnd most (runGo most l [] lits)
theorem runGo_step {most k : Nat} {l : List Sq} {x : Sq} (h : l[k]? = some x) (out rest : List UInt8) :
    runGo most (l.drop k) out rest = if runBad x (out.length + x.lits) rest.length most then none else runGo most (l.drop (k + 1)) (copyL x.dist x.len (out ++ rest.take x.lits)) (rest.drop x.lits) := by
  have hk : k < l.length := by
    rcases Nat.lt_or_ge k l.length with h' | h'
    · exact h'
    · rw [List.getElem?_eq_none h'] at h; cases h
  rw [List.drop_eq_getElem_cons hk, runGo]
  rw [List.getElem?_eq_getElem hk] at h
  injection h with h
  rw [h]
theorem OwnB.at_back {w : World} {base n c d : Nat} {A : Option Addr} {l : List UInt8} (h : OwnB w base A n c l) (hd1 : 1 ≤ d) (hd : d ≤ n) :
    ∃ g, A = some ⟨g, 0, none⟩ ∧ w.cell? ⟨g, n - d, none⟩ = some (.int .u8 ((l.getD (l.length - d) 0).toNat : Int)) := by
  have hlen := OwnB.length h
  obtain ⟨g, v, hA, -, -, hv, hc, -⟩ := Own.at_ h (k := n - d) (by omega)
  refine ⟨g, hA, ?_⟩
  rw [hc]
  rw [List.getElem?_map, List.getElem?_eq_getElem (by omega)] at hv
  rw [hlen]
  simp only [List.getD, List.getElem?_eq_getElem (show n - d < l.length by omega), Option.getD_some]
  simpa [u8v] using hv.symm
set_option maxHeartbeats 8000000 in
set_option maxRecDepth 10000 in
theorem matchRun (A : Option Addr) (n c : Nat) (lits : List UInt8) (A2 : Option Addr) (n2 c2 : Nat) (l : List Sq) (most : Nat) (w : World) (hl : lits.length = n) (hr : Bs w A lits) (hn : n ≤ 140737488351232) (hc : n ≤ c) (hc2 : c ≤ 9223372036854775807)
    (hl2 : l.length = n2) (hr2 : Ss w A2 l) (hn2 : n2 ≤ 140737488351232) (hb : ∀ x ∈ l, x.lits ≤ 140737488351232 ∧ x.len ≤ 140737488351232 ∧ x.dist ≤ 140737488351232) (hm : most ≤ 65536) :
    Calls Tryz.prog 53 #[.slice A n c, .slice A2 n2 c2, .int .i64 (most : Int)] w (decPost (runL lits l most) w) := by
  have HR2 := Lib.hid hr2
  have HL2 := Lib.hid hl2
  have HB := Lib.hid hb
  have HR0 := Lib.hid hr
  have HL0 := Lib.hid hl
  clear hr2 hl2 hb hr hl
  go_enter Tryz.func53, Tryz.ntmps53
  go_wp2
  go_loopg [8, 9, 22] n2 (fun gg s8 s9 s22 wr => ∃ (k no co nr cr : Nat) (Ao Ar : Option Addr) (out rest : List UInt8), k ≤ n2 ∧ n2 - k ≤ gg ∧ s8 = .slice Ao no co ∧ s9 = .slice Ar nr cr ∧ s22 = .int .i64 (k : Int) ∧ OwnB wr w.heap.size Ao no co out ∧ no ≤ most ∧
    Bs w Ar rest ∧ rest.length = nr ∧ nr ≤ n ∧ nr ≤ cr ∧ cr ≤ 9223372036854775807 ∧ runL lits l most = runEnd most (runGo most (l.drop k) out rest) ∧ Below w.heap.size w wr)
  case atStart => exact ⟨0, 0, 0, n, c, none, A, [], lits, by omega, by omega, rfl, rfl, rfl, OwnB.nil _ _, by omega, HR0.out, HL0.out, by omega, hc, hc2, rfl, Below.refl _ _⟩
  case round =>
    obtain ⟨k, no, co, nr, cr, Ao, Ar, out, rest, hk, hgg, rfl, rfl, rfl, hown, hno, hrr, hrl, hnr, hcr, hcr2, hrun, hbel⟩ := hrel
    have HO := Lib.hid hown
    have HR := Lib.hid hrr
    have HL := Lib.hid hrl
    have HRun := Lib.hid hrun
    have HBel := Lib.hid hbel
    have HOl := Lib.hid (OwnB.length hown)
    clear hown hrr hrl hrun hbel
    by_cases hkn : k < n2
    · obtain ⟨b, o, x, hA, hx, c0, c1, c2⟩ := (HR2.out.later HBel.out).at_ (by rw [HL2.out]; exact hkn : k < l.length)
      subst hA
      have hxb := HB.out x (List.mem_of_getElem? hx)
      have hstep := HRun.out.trans (congrArg _ (runGo_step hx out rest))
      rw [HOl.out, HL.out] at hstep
      have HStep := Lib.hid hstep
      obtain ⟨x1, x2, x3⟩ := x
      simp only at c0 c1 c2 hxb
      clear hstep hx
      have hP5 := Lib.hid (Blk.new wr 52 #[.int .i64 (x1 : Int), .int .i64 (x2 : Int), .int .i64 (x3 : Int)])
      have HBA := Lib.hid (HBel.out.alloc HBel.out.size (.cells #[.int .i64 (x1 : Int), .int .i64 (x2 : Int), .int .i64 (x3 : Int)] 52))
      have HOA := Lib.hid (Own.alloc HO.out (.cells #[.int .i64 (x1 : Int), .int .i64 (x2 : Int), .int .i64 (x3 : Int)] 52))
      have hcases : (runBad ⟨x1, x2, x3⟩ (no + x1) nr most = true ∧ (nr < x1 ∨ (x1 ≤ nr ∧ 0 < x2 ∧ x3 < 1) ∨ (x1 ≤ nr ∧ 0 < x2 ∧ 1 ≤ x3 ∧ no + x1 < x3) ∨ (x1 ≤ nr ∧ x2 = 0 ∧ x3 ≠ 0) ∨
          (x1 ≤ nr ∧ x2 = 0 ∧ x3 = 0 ∧ most < no + x1) ∨ (x1 ≤ nr ∧ 0 < x2 ∧ 1 ≤ x3 ∧ x3 ≤ no + x1 ∧ most < no + x1) ∨ (x1 ≤ nr ∧ 0 < x2 ∧ 1 ≤ x3 ∧ x3 ≤ no + x1 ∧ no + x1 ≤ most ∧ most - (no + x1) < x2))) ∨
          (runBad ⟨x1, x2, x3⟩ (no + x1) nr most = false ∧ x1 ≤ nr ∧ no + x1 + x2 ≤ most ∧ ((x2 = 0 ∧ x3 = 0) ∨ (0 < x2 ∧ 1 ≤ x3 ∧ x3 ≤ no + x1))) := by
        clear HStep c0 c1 c2 hP5 HBA HOA
        unfold runBad
        simp only [Bool.or_eq_true, Bool.and_eq_true, decide_eq_true_eq, Bool.or_eq_false_iff, Bool.and_eq_false_iff, decide_eq_false_iff_not]
        omega
      rcases hcases with ⟨hbad, hc7⟩ | ⟨hgood, hx1, hx2, hc2⟩
      · have HD := Lib.hid (HStep.out.trans (by rw [if_pos hbad]; rfl) : runL lits l most = none)
        clear hbad HStep hP5 HOA
        rcases hc7 with h | ⟨h, h1, h2⟩ | ⟨h, h1, h2, h3⟩ | ⟨h, rfl, h2⟩ | ⟨h, rfl, rfl, h3⟩ | ⟨h, h1, h2, h3, h4⟩ | ⟨h, h1, h2, h3, h4, h5⟩
        all_goals go_wp2
        all_goals go_ret2
        all_goals exact decPost_bad HD.out (by omega) HBA.out
      · have HD := Lib.hid (HStep.out.trans (by rw [if_neg (by rw [hgood]; simp)]))
        clear hgood HStep
        have HT := Lib.hid (Bs.take x1 HR.out)
        have HTl : (rest.take x1).length = x1 := by rw [List.length_take, HL.out]; omega
        have HTL := Lib.hid HTl
        have HC := Lib.hid (Bs.cut (c := cr) HR.out (n := x1) (by rw [HL.out]; exact hx1) (by rw [HL.out]; exact hcr))
        have HCl := Lib.hid (by rw [List.length_drop, HL.out] : (rest.drop x1).length = nr - x1)
        clear HTl
        generalize rest.take x1 = tk at *
        generalize hbase : out ++ tk = bs at *
        have HBase := Lib.hid hbase
        clear hbase
        have hc3 : ((x2 : Int) ≤ 0 ∧ ((x2 : Int) == 0) = true ∧ ((x3 : Int) != 0) = false) ∨ (0 < x2 ∧ 1 ≤ x3 ∧ x3 ≤ no + x1) := by
          rcases hc2 with ⟨rfl, rfl⟩ | h
          · exact .inl ⟨by omega, rfl, rfl⟩
          · exact .inr h
        have HC2 := Lib.hid hc2
        clear hc2
        rcases hc3 with ⟨hz2, hz3, hz4⟩ | ⟨hz2, hz3, hz4⟩
        all_goals
          go_wp2_with (first | (at_builtin; refine wpList_append_rd rfl _ _ elemB rfl w.heap.size Ao no co (out.map u8v) rfl HOA.out Ar x1 cr (tk.map u8v) rfl ?a1 ?a2 (u8_one _) ?a3 ?a4 ?a5 ?_) | (with_reducible refine wpList_slice_hi ?g ?s ?h elemB ?ho Ar nr cr x1 ?hs ?hh ?hk ?_; (case ho => exact rfl); (case g => exact rfl); (case hs => exact rfl); (case hh => exact rfl); (case hk => omega)))
          case a1 => exact HT.out.later HBA.out
          case a2 => exact HTL.out
          case a3 => omega
          case a4 => omega
          case a5 => have := HBel.out.size; omega
          intro A' c' w2 hown2 hb2 hgr2 hat2
          have HO2 := Lib.hid (by unfold OwnB; rw [← HBase.out, List.map_append]; exact hown2 : OwnB w2 w.heap.size A' (no + x1) c' bs)
          have HP2 := Lib.hid (hP5.out.kept hgr2 (Own.ne_blk HOA.out hP5.out (by decide)))
          have HB2 := Lib.hid (HBA.out.trans hb2)
          clear hown2 hb2 hgr2 hat2 HOA hP5 HBA c0 c1 c2
          generalize wr.heap.size = pb at *
          have p0 := HP2.out.cell 0
          have p1 := HP2.out.cell 1
          simp only [List.getElem?_toArray, List.getElem?_cons_zero, List.getElem?_cons_succ] at p0 p1
          go_wp2_with (with_reducible refine wpList_slice_lo ?g ?s ?h elemB ?ho Ar nr cr x1 ?hs ?hh ?hk ?_; (case ho => exact rfl); (case g => exact rfl); (case hs => simp [Act.eval]); (case hh => simp [Act.eval]); (case hk => omega))
          clear p0 p1
          go_loopg [8, 96] x2 (fun gg s8 s96 wi => ∃ (j co' : Nat) (Ao' : Option Addr), j ≤ x2 ∧ x2 - j ≤ gg ∧ s8 = .slice Ao' (no + x1 + j) co' ∧ s96 = .int .i64 (j : Int) ∧ OwnB wi w.heap.size Ao' (no + x1 + j) co' (copyL x3 j bs) ∧
            Blk wi pb 52 #[.int .i64 (x1 : Int), .int .i64 (x2 : Int), .int .i64 (x3 : Int)] ∧ Below w.heap.size w wi)
          case atStart => exact ⟨0, c', A', by omega, by omega, rfl, rfl, HO2.out, HP2.out, HB2.out⟩
          case round =>
            obtain ⟨j, co', Ao', hj, hgj, rfl, rfl, hown, hblk, hbel⟩ := hrel
            have HO3 := Lib.hid hown
            have HP3 := Lib.hid hblk
            have HB3 := Lib.hid hbel
            clear hown hblk hbel
            by_cases hjx : j < x2
            · first
              | (exfalso; omega)
              | skip
              all_goals
                have hz4' : x3 ≤ no + x1 := by omega
                have hz3' : 1 ≤ x3 := by omega
                have p2 := HP3.out.cell 2
                simp only [List.getElem?_toArray, List.getElem?_cons_zero, List.getElem?_cons_succ] at p2
                obtain ⟨gq, hA', hcv⟩ := OwnB.at_back HO3.out hz3' (by omega : x3 ≤ no + x1 + j)
                have HCS := Lib.hid (copyL_succ x3 j bs)
                generalize (copyL x3 j bs).getD ((copyL x3 j bs).length - x3) 0 = u at *
                subst hA'
                go_wp2_with (at_builtin; go_loud (refine wpList_append_one rfl _ _ elemB rfl w.heap.size (some ⟨gq, 0, none⟩) (no + x1 + j) co' ((copyL x3 j bs).map u8v) wr (.int .u8 (u.toNat : Int)) rfl ?hs HO3.out ?hh ?d0 ?d1 ?d2 ?d3 ?_; (case hs => simp [Act.eval]); (case hh => simp [Act.eval]); (case d0 => exact rfl)))
                case d1 => omega
                case d2 => omega
                case d3 => exact HB3.out.size
                intro A3 c3 w3 hown3 hb3 hgr3 hat3
                have HO4 := Lib.hid (by unfold OwnB; rw [HCS.out, List.map_append]; exact hown3 : OwnB w3 w.heap.size A3 (no + x1 + j + 1) c3 (copyL x3 (j + 1) bs))
                have HP4 := Lib.hid (HP3.out.kept hgr3 (Own.ne_blk HO3.out HP3.out (by decide)))
                have HB4 := Lib.hid (HB3.out.trans hb3)
                clear hown3 hb3 hgr3 hat3 p2
                go_wp2
                go_roundg (x2 - (j + 1))
                case measure => omega
                case rel => exact ⟨j + 1, c3, A3, by omega, by omega, rfl, by go_num, HO4.out, HP4.out, HB4.out⟩
            · obtain rfl : j = x2 := by omega
              go_wp2
              go_roundg (n2 - (k + 1))
              case measure => omega
              case rel => exact ⟨k + 1, no + x1 + j, co', nr - x1, cr - x1, Ao', cutA Ar cr x1, copyL x3 j bs, rest.drop x1, by omega, by omega, rfl, rfl, by go_num, HO3.out, by omega, HC.out, HCl.out, by omega, by omega, by omega, HD.out, HB3.out⟩
    · have hkk : k = n2 := by omega
      subst hkk
      have HD := Lib.hid (by rw [HRun.out, List.drop_of_length_le (by rw [HL2.out]; exact Nat.le_refl _), runGo, runEnd, HOl.out, HL.out] : runL lits l most = if most - no < nr then none else some (out ++ rest))
      by_cases hbad : most - no < nr
      · have HD2 := Lib.hid (HD.out.trans (if_pos hbad))
        have hbad' : (most : Int) - no < nr := by omega
        clear hbad HD
        go_wp2
        go_ret2
        exact decPost_bad HD2.out (by omega) HBel.out
      · have HD2 := Lib.hid (HD.out.trans (if_neg hbad))
        have hbad' : (nr : Int) ≤ (most : Int) - no := by omega
        clear hbad HD
        go_wp2_with (at_builtin; go_loud (refine wpList_append_rd rfl _ _ elemB rfl w.heap.size Ao no co (out.map u8v) ?hs HO.out Ar nr cr (rest.map u8v) ?hh ?a1 ?a2 (u8_one _) ?a3 ?a4 ?a5 ?_; (case hs => simp [Act.eval]); (case hh => simp [Act.eval])))
        case a1 => exact HR.out.later HBel.out
        case a2 => rw [List.length_map]; exact HL.out
        case a3 => omega
        case a4 => omega
        case a5 => exact HBel.out.size
        intro A' c' w2 hown2 hb2 hgr2 hat2
        have HO2 := Lib.hid (by unfold OwnB; rw [List.map_append]; exact hown2 : OwnB w2 w.heap.size A' (no + nr) c' (out ++ rest))
        have HB2 := Lib.hid (HBel.out.trans hb2)
        clear hown2 hb2 hgr2 hat2
        go_wp2
        go_ret2
        exact decPost_ok HD2.out (by rw [List.length_append, HOl.out, HL.out]) HO2.out HB2.out
end Go.Proofs.YtaelgbbnmjbjiaaGreat
namespace Go.Proofs.YtaelgbbnmjbjiaaGreat
open Go.RowKit
def fourL (l : List UInt8) (i : Nat) : Nat := (l.getD i 0).toNat + (l.getD (i + 1) 0).toNat * 256 + (l.getD (i + 2) 0).toNat * 65536 + (l.getD (i + 3) 0).toNat * 16777216
def markL (l : List UInt8) (i : Nat) : Nat := fourL l i * 2654435761 % 4294967296 / 1048576
theorem markL_lt (l : List UInt8) (i : Nat) : markL l i < 4096 := by unfold markL; omega
theorem u32_or_nat (a b : Nat) (ha : a < 4294967296) (hb : b < 4294967296) : bits .or .u32 (a : Int) (b : Int) = ((a ||| b : Nat) : Int) := by
  unfold bits
  show IntKind.u32.wrap ((BitVec.ofInt 32 (a : Int) ||| BitVec.ofInt 32 (b : Int)).toNat : Int) = _
  rw [BitVec.toNat_or, ofInt32 (by omega), ofInt32 (by omega)]
  exact wrapu32_nat (Nat.or_lt_two_pow (n := 32) ha hb)
theorem four_or {a b c d : Nat} (ha : a < 256) (hb : b < 256) (hc : c < 256) (hd : d < 256) :
    bits .or .u32 (bits .or .u32 (bits .or .u32 (a : Int) ((b : Int) * 256)) ((c : Int) * 65536)) ((d : Int) * 16777216) = ((a + b * 256 + c * 65536 + d * 16777216 : Nat) : Int) := by
  have w1 : (b : Int) * 256 = ((b * 256 : Nat) : Int) := by omega
  have w2 : (c : Int) * 65536 = ((c * 65536 : Nat) : Int) := by omega
  have w3 : (d : Int) * 16777216 = ((d * 16777216 : Nat) : Int) := by omega
  rw [w1, w2, w3, u32_or_nat _ _ (by omega) (by omega)]
  have e1 : a ||| b * 256 = a + b * 256 := or_add (v := a) (i := 8) (y := b) (by simpa using ha)
  rw [e1, u32_or_nat _ _ (by omega) (by omega)]
  have e2 : (a + b * 256) ||| c * 65536 = a + b * 256 + c * 65536 := or_add (v := a + b * 256) (i := 16) (y := c) (by simp; omega)
  rw [e2, u32_or_nat _ _ (by omega) (by omega)]
  have e3 : (a + b * 256 + c * 65536) ||| d * 16777216 = a + b * 256 + c * 65536 + d * 16777216 := or_add (v := a + b * 256 + c * 65536) (i := 24) (y := d) (by simp; omega)
  rw [e3]
set_option maxHeartbeats 2000000 in
set_option maxRecDepth 10000 in
theorem mMark (g : Nat) (A : Option Addr) (n c i : Nat) (l : List UInt8) (w : World) (hc0 : w.cell? ⟨g, 0, none⟩ = some (.slice A n c)) (hl : l.length = n) (hr : Bs w A l) (hn : n ≤ 1000000000) (hc : n ≤ c) (hi : i + 4 ≤ n) :
    Calls Tryz.prog 61 #[.pointer (some ⟨g, 0, none⟩), .int .i64 (i : Int)] w fun e w' => e = .returned (.int .i64 (markL l i : Nat)) ∧ ∃ q, w' = w.drewN q := by
  obtain ⟨b, o, rfl, hcell⟩ := hr (by simp; omega)
  have hx : ∀ k, k < 4 → w.cell? ⟨b, o + i + k, none⟩ = some (.int .u8 ((l.getD (i + k) 0).toNat : Int)) := by
    intro k hk
    have hlt : i + k < l.length := by omega
    rw [Nat.add_assoc, hcell (i + k) (by simpa using hlt), List.getElem?_map, List.getElem?_eq_getElem hlt]
    simp [List.getD, List.getElem?_eq_getElem hlt, u8v]
  have x0 := hx 0 (by omega)
  have x1 := hx 1 (by omega)
  have x2 := hx 2 (by omega)
  have x3 := hx 3 (by omega)
  rw [Nat.add_zero, Nat.add_zero] at x0
  obtain ⟨M, hM⟩ : ∃ M, markL l i = M := ⟨_, rfl⟩
  rw [hM]
  unfold markL fourL at hM
  have b0 : (l.getD i 0).toNat < 256 := UInt8.toNat_lt _
  have b1 : (l.getD (i + 1) 0).toNat < 256 := UInt8.toNat_lt _
  have b2 : (l.getD (i + 2) 0).toNat < 256 := UInt8.toNat_lt _
  have b3 : (l.getD (i + 3) 0).toNat < 256 := UInt8.toNat_lt _
  generalize (l.getD i 0).toNat = y0 at *
  generalize (l.getD (i + 1) 0).toNat = y1 at *
  generalize (l.getD (i + 2) 0).toNat = y2 at *
  generalize (l.getD (i + 3) 0).toNat = y3 at *
  have HM := Lib.hid hM
  clear hM
  have HE := Lib.hid (four_or b0 b1 b2 b3)
  have i1 : (0 : Int) < ((n - i : Nat) : Int) := by omega
  have i2 : (1 : Int) < ((n - i : Nat) : Int) := by omega
  have i3 : (2 : Int) < ((n - i : Nat) : Int) := by omega
  have i4 : (3 : Int) < ((n - i : Nat) : Int) := by omega
  have i5 : ¬ c = i := by omega
  clear hx hcell hr hl
  go_enter Tryz.func61, Tryz.ntmps61
  go_wp2
  go_quiet (fail)
  go_wp2
  go_ret
  exact ⟨ret_int (by rw [HE.out, ← HM.out]; omega), _, rfl⟩
theorem drewN_add (w : World) (q : Nat) : ∀ p, (w.drewN q).drewN p = w.drewN (q + p)
  | 0 => rfl
  | p + 1 => by
    show ((w.drewN q).drewN p).drew = (w.drewN (q + p)).drew
    rw [drewN_add w q p]
def SameN (l : List UInt8) (a b n : Nat) : Prop := n ≤ 259 ∧ b + n ≤ l.length ∧ ∀ j, j < n → l.getD (a + j) 0 = l.getD (b + j) 0
set_option maxHeartbeats 2000000 in
set_option maxRecDepth 10000 in
theorem mSame (g : Nat) (A : Option Addr) (n c a b : Nat) (l : List UInt8) (w : World) (hc0 : w.cell? ⟨g, 0, none⟩ = some (.slice A n c)) (hl : l.length = n) (hr : Bs w A l) (hn : n ≤ 1000000000) (hab : a ≤ b) (hb : b ≤ n) :
    Calls Tryz.prog 62 #[.pointer (some ⟨g, 0, none⟩), .int .i64 (a : Int), .int .i64 (b : Int)] w fun e w' => ∃ m : Nat, e = .returned (.int .i64 (m : Int)) ∧ SameN l a b m ∧ ∃ q, w' = w.drewN q := by
  have HL := Lib.hid hl
  have HR := Lib.hid hr
  have HC := Lib.hid hc0
  clear hl hr hc0
  go_enter Tryz.func62, Tryz.ntmps62
  go_wp2
  go_loopg [7] 259 (fun gg s7 wr => ∃ m : Nat, m ≤ 259 ∧ 259 - m ≤ gg ∧ s7 = .int .i64 (m : Int) ∧ b + m ≤ n ∧ (∀ j, j < m → l.getD (a + j) 0 = l.getD (b + j) 0) ∧ ∃ q, wr = w.drewN q)
  case atStart => exact ⟨0, by omega, by omega, rfl, by omega, by simp, 0, rfl⟩
  case round =>
    obtain ⟨m, hm, hgg, rfl, hbm, hsame, q, rfl⟩ := hrel
    have HS := Lib.hid hsame
    clear hsame
    have c0 := HC.out
    by_cases h259 : m < 259
    · by_cases hbn : b + m < n
      · obtain ⟨bb, o, x, hA, hx, hcx⟩ := HR.out.at_ (by rw [HL.out]; omega : a + m < l.length)
        obtain ⟨bb2, o2, y, hA2, hy, hcy⟩ := HR.out.at_ (by rw [HL.out]; omega : b + m < l.length)
        rw [hA] at hA2
        obtain ⟨rfl, rfl⟩ : bb = bb2 ∧ o = o2 := by
          injection hA2 with h; injection h with h1 h2; exact ⟨h1, h2⟩
        subst hA
        have E1 : l.getD (a + m) 0 = x := by simp [List.getD, hx]
        have E2 : l.getD (b + m) 0 = y := by simp [List.getD, hy]
        clear hx hy hA2
        have g1 : decide ((m : Int) < 259) = true := decide_eq_true (by omega)
        have g2 : decide ((b : Int) + m < n) = true := decide_eq_true (by omega)
        have i1 : (0 : Int) ≤ (a : Int) + m := by omega
        have i2 : (a : Int) + m < (n : Int) := by omega
        have i3 : (0 : Int) ≤ (b : Int) + m := by omega
        have t1 : ((a : Int) + m).toNat = a + m := by omega
        have t2 : ((b : Int) + m).toNat = b + m := by omega
        have e1 : IntKind.i64.wrap ((a : Int) + m) = (a : Int) + m := wrapi64 (by omega) (by omega)
        have e2 : IntKind.i64.wrap ((b : Int) + m) = (b : Int) + m := wrapi64 (by omega) (by omega)
        have HE1 := Lib.hid E1
        have HE2 := Lib.hid E2
        clear E1 E2
        go_wp2
        go_quiet (fail)
        clear g1 g2 i1 i2 i3 t1 t2 e1 e2
        by_cases hxy : x = y
        · have hb : ((x.toNat : Int) == y.toNat) = true := by rw [hxy]; simp
          have HS2 := Lib.hid (show ∀ j, j < m + 1 → l.getD (a + j) 0 = l.getD (b + j) 0 from fun j hj => by
            by_cases e : j = m
            · rw [e, HE1.out, HE2.out, hxy]
            · exact HS.out j (by omega))
          clear hxy
          go_wp2
          go_roundg (259 - (m + 1))
          case measure => omega
          case rel => exact ⟨m + 1, by omega, by omega, by go_num, by omega, HS2.out, _, rfl⟩
        · have hb : ((x.toNat : Int) == y.toNat) = false := beq_eq_false_iff_ne.2 (fun e => hxy (UInt8.toNat_inj.1 (by omega)))
          clear hxy
          go_wp2
          go_ret
          exact ⟨m, rfl, ⟨by omega, by rw [HL.out]; omega, HS.out⟩, _, drewN_add w q _⟩
      · have g1 : decide ((m : Int) < 259) = true := decide_eq_true (by omega)
        have g2 : decide ((b : Int) + m < n) = false := decide_eq_false (by omega)
        have e2 : IntKind.i64.wrap ((b : Int) + m) = (b : Int) + m := wrapi64 (by omega) (by omega)
        go_wp2
        go_quiet (fail)
        clear g1 g2 e2
        go_wp2
        go_ret
        exact ⟨m, rfl, ⟨by omega, by rw [HL.out]; omega, HS.out⟩, _, drewN_add w q _⟩
    · have g1 : decide ((m : Int) < 259) = false := decide_eq_false (by omega)
      go_wp2
      go_quiet (fail)
      clear g1
      go_wp2
      go_ret
      exact ⟨m, rfl, ⟨by omega, by rw [HL.out]; omega, HS.out⟩, _, drewN_add w q _⟩
end Go.Proofs.YtaelgbbnmjbjiaaGreat
namespace Go.Proofs.YtaelgbbnmjbjiaaGreat
open Go.RowKit
def finF (A : Option Addr) (n c win : Nat) (head : Nat → Nat) (Aa : Option Addr) (ca known : Nat) (i : Nat) : Value :=
  if i = 0 then .slice A n c else if i = 1 then .int .i64 (win : Int) else if i < 4098 then .int .i64 (head (i - 2) : Nat) else if i = 4098 then .slice Aa n ca else .int .i64 (known : Int)
structure Fin_ (w : World) (B g : Nat) (l : List UInt8) (A : Option Addr) (n c win : Nat) (head : Nat → Nat) (Aa : Option Addr) (ca known : Nat) (ah : List Nat) : Prop where
  cells : Cells w g 48 4100 (finF A n c win head Aa ca known)
  data : Bs w A l
  ahead : OwnN w B Aa n ca ah
  h1 : ∀ m, m < 4096 → head m ≤ known
  h2 : ∀ p, p < known → ah.getD p 0 ≤ p
  h3 : known ≤ n
  low : ∀ b, bk A = some b → b < B
  base : B ≤ g
  size : B ≤ w.heap.size
theorem Fin_.later {w w' : World} {B g n c win ca known : Nat} {l : List UInt8} {A Aa : Option Addr} {head : Nat → Nat} {ah : List Nat} (h : Fin_ w B g l A n c win head Aa ca known ah) (hb : Below w.heap.size w w') : Fin_ w' B g l A n c win head Aa ca known ah :=
  ⟨h.cells.later hb, h.data.later hb, Own.later h.ahead hb, h.h1, h.h2, h.h3, h.low, h.base, Nat.le_trans h.size hb.size⟩
theorem Fin_.c0 {w : World} {B g n c win ca known : Nat} {l : List UInt8} {A Aa : Option Addr} {head : Nat → Nat} {ah : List Nat} (h : Fin_ w B g l A n c win head Aa ca known ah) : w.cell? ⟨g, 0, none⟩ = some (.slice A n c) := h.cells.cell (by omega)
theorem Fin_.c1 {w : World} {B g n c win ca known : Nat} {l : List UInt8} {A Aa : Option Addr} {head : Nat → Nat} {ah : List Nat} (h : Fin_ w B g l A n c win head Aa ca known ah) : w.cell? ⟨g, 1, none⟩ = some (.int .i64 (win : Int)) := h.cells.cell (by omega)
theorem Fin_.cA {w : World} {B g n c win ca known : Nat} {l : List UInt8} {A Aa : Option Addr} {head : Nat → Nat} {ah : List Nat} (h : Fin_ w B g l A n c win head Aa ca known ah) : w.cell? ⟨g, 4098, none⟩ = some (.slice Aa n ca) := h.cells.cell (by omega)
theorem Fin_.cK {w : World} {B g n c win ca known : Nat} {l : List UInt8} {A Aa : Option Addr} {head : Nat → Nat} {ah : List Nat} (h : Fin_ w B g l A n c win head Aa ca known ah) : w.cell? ⟨g, 4099, none⟩ = some (.int .i64 (known : Int)) := h.cells.cell (by omega)
theorem Fin_.cH {w : World} {B g n c win ca known m : Nat} {l : List UInt8} {A Aa : Option Addr} {head : Nat → Nat} {ah : List Nat} (h : Fin_ w B g l A n c win head Aa ca known ah) (hm : m < 4096) : w.cell? ⟨g, 2 + m, none⟩ = some (.int .i64 (head m : Nat)) := by
  rw [h.cells.cell (i := 2 + m) (by omega)]
  unfold finF
  rw [if_neg (by omega), if_neg (by omega), if_pos (by omega), show 2 + m - 2 = m by omega]
theorem Fin_.step {w : World} {B g n c win ca known m ga : Nat} {l : List UInt8} {A : Option Addr} {head : Nat → Nat} {ah : List Nat} (h : Fin_ w B g l A n c win head (some ⟨ga, 0, none⟩) ca known ah) (hm : m < 4096) (hk : known < n) :
    Fin_ (((w.setCell ⟨ga, known, none⟩ (.int .i64 (head m : Nat))).setCell ⟨g, 2 + m, none⟩ (.int .i64 ((known + 1 : Nat) : Int))).setCell ⟨g, 4099, none⟩ (.int .i64 ((known + 1 : Nat) : Int))) B g l A n c win (fun j => if j = m then known + 1 else head j) (some ⟨ga, 0, none⟩) ca (known + 1) (ah.set known (head m)) := by
  have hga : ga ≠ g := by simpa [bk] using h.cells.ne_own h.ahead (by decide)
  have hgB := (Own.lt h.ahead (k := ga) rfl).1
  have hal := OwnN.length h.ahead
  have hs1 := Own.stored h.ahead known (.int .i64 (head m : Nat))
  have gr1 := hs1.2
  have gr2 := grown_set (w.setCell ⟨ga, known, none⟩ (.int .i64 (head m : Nat))) ⟨g, 2 + m, none⟩ (.int .i64 ((known + 1 : Nat) : Int))
  have gr3 := grown_set ((w.setCell ⟨ga, known, none⟩ (.int .i64 (head m : Nat))).setCell ⟨g, 2 + m, none⟩ (.int .i64 ((known + 1 : Nat) : Int))) ⟨g, 4099, none⟩ (.int .i64 ((known + 1 : Nat) : Int))
  have hAg : bk A = none ∨ bk A ≠ some g := by
    cases hA : bk A with
    | none => exact .inl rfl
    | some b => right; have := h.low b hA; have := h.base; simp only [ne_eq, Option.some.injEq]; omega
  have hAa : bk A = none ∨ bk A ≠ some ga := by
    cases hA : bk A with
    | none => exact .inl rfl
    | some b => right; have := h.low b hA; simp only [ne_eq, Option.some.injEq]; omega
  refine ⟨(((h.cells.kept gr1 (by simpa using hga)).set (2 + m) _).set 4099 _).ext ?_, Rd.keptB (Rd.keptB (Rd.keptB h.data gr1 hAa) gr2 hAg) gr3 hAg, ?_, ?_, ?_, by omega, h.low, h.base, by have := h.size; simpa [World.setCell] using this⟩
  · intro i hi
    unfold finF
    by_cases e1 : i = 4099
    · subst e1
      rw [if_pos rfl, if_neg (by omega), if_neg (by omega), if_neg (by omega), if_neg (by omega)]
    · rw [if_neg e1]
      by_cases e2 : i = 2 + m
      · subst e2
        rw [if_pos rfl, if_neg (by omega), if_neg (by omega), if_pos (by omega), show 2 + m - 2 = m by omega]
        simp only [if_true]
      · rw [if_neg e2]
        by_cases e3 : i = 0
        · rw [if_pos e3, if_pos e3]
        · rw [if_neg e3, if_neg e3]
          by_cases e4 : i = 1
          · rw [if_pos e4, if_pos e4]
          · rw [if_neg e4, if_neg e4]
            by_cases e5 : i < 4098
            · have e6 : ¬ i - 2 = m := by omega
              rw [if_pos e5, if_pos e5]
              simp only [if_neg e6]
            · rw [if_neg e5, if_neg e5, if_pos (by omega), if_pos (by omega)]
  · have : (ah.set known (head m)).map natv = (ah.map natv).set known (.int .i64 (head m : Nat)) := by rw [List.map_set]; rfl
    unfold OwnN
    rw [this]
    exact Own.kept (Own.kept hs1.1 gr2 (.inr (by simpa [bk] using hga))) gr3 (.inr (by simpa [bk] using hga))
  · intro j hj
    show (if j = m then known + 1 else head j) ≤ known + 1
    split
    · exact Nat.le_refl _
    · have := h.h1 j hj; omega
  · intro p hp
    by_cases e : p = known
    · subst e
      simp only [List.getD, List.getElem?_set, if_true]
      rw [if_pos (by omega)]
      simpa using h.h1 m hm
    · have h5 := h.h2 p (by omega)
      simp only [List.getD, List.getElem?_set] at h5 ⊢
      rw [if_neg (fun e' => e e'.symm)]
      exact h5
theorem Fin_.kept {w w' : World} {row : Option Nat} {B g n c win ca known : Nat} {l : List UInt8} {A Aa : Option Addr} {head : Nat → Nat} {ah : List Nat} (h : Fin_ w B g l A n c win head Aa ca known ah) (hg : w.grownBy w' row) (h1 : row ≠ some g) (h2 : bk Aa = none ∨ bk Aa ≠ row) (h3 : ∀ k, row = some k → B ≤ k) : Fin_ w' B g l A n c win head Aa ca known ah := by
  refine ⟨h.cells.kept hg h1, Rd.keptB h.data hg ?_, Own.kept h.ahead hg h2, h.h1, h.h2, h.h3, h.low, h.base, Nat.le_trans h.size hg.size⟩
  cases hA : bk A with
  | none => exact .inl rfl
  | some b =>
    right
    intro e
    have := h.low b hA
    have := h3 b e.symm
    omega
theorem OwnS.two {g : Nat} {Aa : Option Addr} {w w' : World} {base n c : Nat} {A : Option Addr} {l : List Sq} (h : OwnS w base A n c l) (ht : Two g Aa w w') (h1 : bk A ≠ some g) (h2 : bk A = none ∨ bk A ≠ bk Aa) : OwnS w' base A n c l := by
  refine ⟨h.1, ?_⟩
  rcases h.2 with h3 | ⟨b, cap, cur, hv, h3, h4, h5⟩
  · exact .inl h3
  · refine .inr ⟨b, cap, cur, hv, h3, ?_, h5⟩
    simp only [Value.slice.injEq] at hv
    have hb : bk A = some b := by rw [hv.1]; rfl
    rw [ht.block b (Array.getElem?_eq_some_iff.1 h4).1 (fun e => h1 (by rw [hb, e])) (fun e => by
      rcases h2 with h2 | h2
      · rw [hb] at h2; cases h2
      · exact h2 (by rw [hb, e]))]
    exact h4
set_option maxHeartbeats 4000000 in
set_option maxRecDepth 10000 in
theorem mLink (B g : Nat) (l : List UInt8) (A : Option Addr) (n c win : Nat) (head : Nat → Nat) (Aa : Option Addr) (ca known : Nat) (ah : List Nat) (i : Nat) (w : World) (h : Fin_ w B g l A n c win head Aa ca known ah) (hl : l.length = n) (hn : n ≤ 65536) (hc : n ≤ c) (hi : i ≤ n) (hki : known ≤ i) :
    Calls Tryz.prog 60 #[.pointer (some ⟨g, 0, none⟩), .int .i64 (i : Int)] w fun e w' => (∃ v, e = .returned v) ∧ Below B w w' ∧ Two g Aa w w' ∧ ∃ head' known' ah', known' ≤ i ∧ Fin_ w' B g l A n c win head' Aa ca known' ah' := by
  have HF0 := Lib.hid h
  have HL := Lib.hid hl
  clear h hl
  go_enter Tryz.func60, Tryz.ntmps60
  go_wp2
  go_loopg [4] (i - known) (fun gg s4 wr => ∃ (head' : Nat → Nat) (known' : Nat) (ah' : List Nat), known' ≤ i ∧ i - known' ≤ gg ∧ Fin_ wr B g l A n c win head' Aa ca known' ah' ∧ Below B w wr ∧ Two g Aa w wr)
  case atStart => exact ⟨head, known, ah, hki, by omega, HF0.out, Below.refl _ _, Two.refl _ _ _⟩
  case round =>
    obtain ⟨head', k, ah', hk, hgg, hf, hbel, htwo⟩ := hrel
    have HT := Lib.hid htwo
    clear htwo
    have HF := Lib.hid hf
    have HB := Lib.hid hbel
    have c0 := hf.c0
    have cK := hf.cK
    have cA := hf.cA
    clear hf hbel
    by_cases hki : k < i
    · have g1 : decide ((k : Int) < i) = true := decide_eq_true (by omega)
      by_cases h4 : k + 4 ≤ n
      · have g2 : decide ((k : Int) + 4 ≤ n) = true := decide_eq_true (by omega)
        have e2 : IntKind.i64.wrap ((k : Int) + 4) = (k : Int) + 4 := wrapi64 (by omega) (by omega)
        go_wp2
        go_quiet (fail)
        clear g1 g2 e2
        have HF2 := Lib.hid (HF.out.later (below_drewN wr nq))
        obtain ⟨m, hmk, hcall⟩ : ∃ m, m < 4096 ∧ Calls Tryz.prog 61 #[.pointer (some ⟨g, 0, none⟩), .int .i64 (k : Int)] (wr.drewN nq) fun e w' => e = .returned (.int .i64 (m : Nat)) ∧ ∃ q, w' = (wr.drewN nq).drewN q :=
          ⟨_, markL_lt l k, mMark g A n c k l (wr.drewN nq) HF2.out.c0 HL.out HF2.out.data (by omega) hc h4⟩
        have HMk := Lib.hid hcall
        clear hcall
        go_wp2_with fail
        refine HMk.out.mono ?_
        rintro e w3 ⟨rfl, q2, rfl⟩
        have HF3 := Lib.hid (HF2.out.later (below_drewN (wr.drewN nq) q2))
        have HT3 := Lib.hid ((HT.out.drewN nq).drewN q2)
        have HB3 := Lib.hid ((HB.out.trans ((below_drewN wr nq).mono HF.out.size)).trans ((below_drewN (wr.drewN nq) q2).mono HF2.out.size))
        clear HMk HF2 c0 cK cA
        obtain ⟨w3, hw3⟩ : ∃ w3, w3 = (wr.drewN nq).drewN q2 := ⟨_, rfl⟩
        rw [← hw3] at HF3 HB3 HT3 ⊢
        clear hw3
        obtain ⟨ga, xa, hAa, hga1, hga2, -, hcga, hfga⟩ := Own.at_ HF3.out.ahead (k := k) (by omega)
        subst hAa
        have cK := HF3.out.cK
        have cA := HF3.out.cA
        have cH := HF3.out.cH hmk
        have i1 : (0 : Int) ≤ (m : Int) := by omega
        have i2 : (m : Int) < 4096 := by omega
        have HMK := Lib.hid hmk
        have i3 : (0 : Int) ≤ (k : Int) := by omega
        have i4 : (k : Int) < (n : Int) := by omega
        have HHk := Lib.hid (show k < n by omega)
        go_wp2
        go_region
        have hga : ga ≠ g := by simpa [bk] using HF3.out.cells.ne_own HF3.out.ahead (by decide)
        have HS := Lib.hid (show Fin_ (((w3.setCell ⟨ga, k, none⟩ (.int .i64 (head' m : Nat))).setCell ⟨g, 2 + m, none⟩ (.int .i64 ((k : Int) + 1))).setCell ⟨g, 4099, none⟩ (.int .i64 ((k : Int) + 1))) B g l A n c win (fun j => if j = m then k + 1 else head' j) (some ⟨ga, 0, none⟩) ca (k + 1) (ah'.set k (head' m)) from HF3.out.step HMK.out HHk.out)
        obtain ⟨w4, hw4⟩ : ∃ w4, w4 = w3.setCell ⟨ga, k, none⟩ (.int .i64 (head' m : Nat)) := ⟨_, rfl⟩
        rw [← hw4] at HS ⊢
        have HC4 : Cells w4 g 48 4100 (finF A n c win head' (some ⟨ga, 0, none⟩) ca k) := by
          rw [hw4]; exact HF3.out.cells.kept (grown_set w3 ⟨ga, k, none⟩ _) (by simpa using hga)
        have HT4 := Lib.hid (show Two g (some ⟨ga, 0, none⟩) w w4 by rw [hw4]; exact HT3.out.set_a _)
        have HB4 := Lib.hid (show Below B w w4 by rw [hw4]; exact HB3.out.setCell hga1 _)
        clear hw4 cK cA cH hcga hfga
        have cK : w4.cell? ⟨g, 4099, none⟩ = some (.int .i64 (k : Int)) := HC4.cell (by omega)
        have cH : w4.cell? ⟨g, 2 + m, none⟩ = some (.int .i64 (head' m : Nat)) := by
          rw [HC4.cell (i := 2 + m) (by omega)]
          unfold finF
          rw [if_neg (by omega), if_neg (by omega), if_pos (by omega), show 2 + m - 2 = m by omega]
        have cf : w4.frozen? ⟨g, 2 + m, none⟩ = false := HC4.frozen _
        have HC4' := Lib.hid HC4
        clear HC4
        have e1 : IntKind.i64.wrap ((k : Int) + 1) = ((k + 1 : Nat) : Int) := by rw [wrapi64 (by omega) (by omega)]; rfl
        go_wp2
        go_region
        have HB5 := Lib.hid (show Below B w (w4.setCell ⟨g, 2 + m, none⟩ (.int .i64 ((k : Int) + 1))) from HB4.out.setCell HF3.out.base _)
        have HC5 := HC4'.out.set (2 + m) (.int .i64 ((k : Int) + 1))
        have HT5 := Lib.hid (show Two g (some ⟨ga, 0, none⟩) w (w4.setCell ⟨g, 2 + m, none⟩ (.int .i64 ((k : Int) + 1))) from HT4.out.set_g _)
        obtain ⟨w5, hw5⟩ : ∃ w5, w5 = w4.setCell ⟨g, 2 + m, none⟩ (.int .i64 ((k : Int) + 1)) := ⟨_, rfl⟩
        rw [← hw5] at HS HB5 HC5 HT5 ⊢
        have cK5 : w5.cell? ⟨g, 4099, none⟩ = some (.int .i64 (k : Int)) := by
          rw [HC5.cell (i := 4099) (by omega), if_neg (by omega)]
          unfold finF
          rw [if_neg (by omega), if_neg (by omega), if_neg (by omega), if_neg (by omega)]
        have cf5 : w5.frozen? ⟨g, 4099, none⟩ = false := HC5.frozen _
        clear hw5 cK cH cf HC5
        go_wp2
        go_roundg (i - (k + 1))
        case measure => omega
        case rel => exact ⟨_, k + 1, _, by omega, by omega, HS.out.later (((Below.refl _ _).drew).drew), ((HB5.out.setCell (p := ⟨g, 4099, none⟩) HF3.out.base _).drew).drew, (HT5.out.set_g (i := 4099) _).trans (.of_below (((Below.refl _ _).drew).drew))⟩
      · have g2 : decide ((k : Int) + 4 ≤ n) = false := decide_eq_false (by omega)
        have e2 : IntKind.i64.wrap ((k : Int) + 4) = (k : Int) + 4 := wrapi64 (by omega) (by omega)
        go_wp2
        go_quiet (fail)
        clear g1 g2 e2
        go_wp2
        go_end0
        exact ⟨⟨_, rfl⟩, HB.out.trans ((below_drewN wr nq).mono HF.out.size), HT.out.drewN nq, _, k, _, hk, HF.out.later (below_drewN wr nq)⟩
    · have g1 : decide ((k : Int) < i) = false := decide_eq_false (by omega)
      go_wp2
      go_quiet (fail)
      clear g1
      go_wp2
      go_end0
      exact ⟨⟨_, rfl⟩, HB.out.trans ((below_drewN wr nq).mono HF.out.size), HT.out.drewN nq, _, k, _, hk, HF.out.later (below_drewN wr nq)⟩
end Go.Proofs.YtaelgbbnmjbjiaaGreat
namespace Go.Proofs.YtaelgbbnmjbjiaaGreat
open Go.RowKit
def BestOk (l : List UInt8) (i L D : Nat) : Prop := (L = 0 ∧ D = 0) ∨ (4 ≤ L ∧ L ≤ 259 ∧ i + L ≤ l.length ∧ 1 ≤ D ∧ D ≤ i ∧ ∀ j, j < L → l.getD (i - D + j) 0 = l.getD (i + j) 0)
set_option maxHeartbeats 4000000 in
set_option maxRecDepth 10000 in
theorem mBest (B g : Nat) (l : List UInt8) (A : Option Addr) (n c win : Nat) (head : Nat → Nat) (Aa : Option Addr) (ca known : Nat) (ah : List Nat) (i : Nat) (w : World) (h : Fin_ w B g l A n c win head Aa ca known ah) (hl : l.length = n) (hn : n ≤ 65536) (hc : n ≤ c) (hi : i ≤ n) (hki : known ≤ i) (hwin : win ≤ 65536) :
    Calls Tryz.prog 25 #[.pointer (some ⟨g, 0, none⟩), .int .i64 (i : Int)] w fun e w' => (∃ L D : Nat, e = .returned (.tuple #[.int .i64 (L : Int), .int .i64 (D : Int)]) ∧ BestOk l i L D) ∧ Below B w w' ∧ Two g Aa w w' ∧ ∃ head' known' ah', known' ≤ i ∧ Fin_ w' B g l A n c win head' Aa ca known' ah' := by
  have HF0 := Lib.hid h
  have HL := Lib.hid hl
  have c0 := h.c0
  clear h hl
  have e1 : IntKind.i64.wrap ((i : Int) + 4) = (i : Int) + 4 := wrapi64 (by omega) (by omega)
  go_enter Tryz.func25, Tryz.ntmps25
  by_cases h4 : i + 4 ≤ n
  · have g1 : decide ((n : Int) < (i : Int) + 4) = false := decide_eq_false (by omega)
    have HK := Lib.hid (mLink B g l A n c win head Aa ca known ah i w HF0.out HL.out hn hc hi hki)
    go_wp2_with fail
    go_step3
    go_wp2_with fail
    clear e1 g1 c0
    refine HK.out.mono ?_
    rintro e w1 ⟨⟨v, rfl⟩, hb1, ht1, head1, known1, ah1, hk1, hf1⟩
    have HB1 := Lib.hid hb1
    have HF1 := Lib.hid hf1
    have HT1 := Lib.hid ht1
    clear hb1 hf1 ht1 HK
    obtain ⟨m, hmk, hcall⟩ : ∃ m, m < 4096 ∧ ∀ q, Calls Tryz.prog 61 #[.pointer (some ⟨g, 0, none⟩), .int .i64 (i : Int)] (w1.drewN q) fun e w' => e = .returned (.int .i64 (m : Nat)) ∧ ∃ p, w' = (w1.drewN q).drewN p :=
      ⟨_, markL_lt l i, fun q => mMark g A n c i l (w1.drewN q) (HF1.out.later (below_drewN w1 q)).c0 HL.out (HF1.out.later (below_drewN w1 q)).data (by omega) hc h4⟩
    have HMk := Lib.hid hcall
    clear hcall
    go_wp2_with fail
    go_step3
    go_wp2_with fail
    have cH := HF1.out.cH hmk
    have i1 : (0 : Int) ≤ (m : Int) := by omega
    have i2 : (m : Int) < 4096 := by omega
    go_quiet ((go_at_call 61; exact Calls.quiet_of (HMk.out _)))
    clear cH i1 i2 HMk
    go_wp2_with fail
    have hm1 := HF1.out.h1 m hmk
    have HH2 := Lib.hid HF1.out.h2
    go_loopg [6, 7, 8] (head1 m) (fun gg s6 s7 s8 wr => ∃ L D a q : Nat, s6 = .int .i64 (L : Int) ∧ s7 = .int .i64 (D : Int) ∧ s8 = .int .i64 (a : Int) ∧ a ≤ known1 ∧ a ≤ gg ∧ BestOk l i L D ∧ wr = w1.drewN q)
    case atStart => exact ⟨0, 0, head1 m, nq, rfl, rfl, rfl, hm1, Nat.le_refl _, .inl ⟨rfl, rfl⟩, rfl⟩
    case round =>
      obtain ⟨L, D, a, q, rfl, rfl, rfl, hak, hag, hok, rfl⟩ := hrel
      have HOK := Lib.hid hok
      clear hok
      by_cases ha : 0 < a
      · have g1 : decide ((0 : Int) < a) = true := decide_eq_true (by omega)
        have e1 : IntKind.i64.wrap ((a : Int) - 1) = ((a - 1 : Nat) : Int) := by rw [wrapi64 (by omega) (by omega)]; omega
        obtain ⟨d, hd⟩ : ∃ d, i - (a - 1) = d := ⟨_, rfl⟩
        have e2 : IntKind.i64.wrap ((i : Int) - ((a - 1 : Nat) : Int)) = (d : Int) := by rw [wrapi64 (by omega) (by omega)]; omega
        have HD := Lib.hid hd
        clear hd
        have HFq := Lib.hid (HF1.out.later (below_drewN w1 q))
        have HSame := Lib.hid (mSame g A n c (a - 1) i l (w1.drewN q) HFq.out.c0 HL.out HFq.out.data (by omega) (by omega) (by omega))
        go_wp2_with fail
        refine HSame.out.mono ?_
        rintro e w2 ⟨M, rfl, hs, q2, rfl⟩
        clear HSame
        have HS := Lib.hid hs
        have hM : M ≤ 259 := hs.1
        clear hs
        have c1 := HF1.out.c1
        obtain ⟨ga, xa, hAa, -, -, hxa, hcga, -⟩ := Own.at_ HF1.out.ahead (k := a - 1) (by omega)
        subst hAa
        have hlen := OwnN.length HF1.out.ahead
        have hxv : xa = .int .i64 ((ah1.getD (a - 1) 0 : Nat) : Int) := by
          rw [List.getElem?_map, List.getElem?_eq_getElem (by omega)] at hxa
          rw [← Option.some.inj hxa]
          simp [List.getD, List.getElem?_eq_getElem (show a - 1 < ah1.length by omega), natv]
        subst hxv
        have hle := HH2.out (a - 1) (by omega)
        clear hxa hlen
        have cA := HF1.out.cA
        obtain ⟨y, hy⟩ : ∃ y, ah1.getD (a - 1) 0 = y := ⟨_, rfl⟩
        rw [hy] at hcga hle
        clear hy
        have i3 : (0 : Int) ≤ ((a - 1 : Nat) : Int) := by omega
        have i4 : ((a - 1 : Nat) : Int) < (n : Int) := by omega
        by_cases hw : win < d ∨ L = 259
        · have gw : (decide ((win : Int) < (d : Int)) = true) ∨ (decide ((win : Int) < (d : Int)) = false ∧ ((L : Int) == 259) = true) := by
            by_cases h : win < d
            · exact .inl (decide_eq_true (by omega))
            · refine .inr ⟨decide_eq_false (by omega), ?_⟩
              have : L = 259 := by omega
              rw [this]; rfl
          clear hw
          rcases gw with gw | ⟨gw, gl⟩
          · have gn := of_decide_eq_true gw
            go_wp2
            all_goals first
              | (exfalso; omega)
              | (rw [Exit.noGoto_ret]
                 go_ret2
                 exact ⟨⟨L, D, rfl, HOK.out⟩, HB1.out.trans ((below_drewN w1 _).mono HF1.out.size), HT1.out.drewN _, _, _, _, hk1, HF1.out.later (below_drewN w1 _)⟩)
          · have gn := of_decide_eq_false gw
            have gn2 : L = 259 := by have := eq_of_beq gl; omega
            go_wp2
            all_goals first
              | (exfalso; omega)
              | (rw [Exit.noGoto_ret]
                 go_ret2
                 exact ⟨⟨259, D, rfl, gn2 ▸ HOK.out⟩, HB1.out.trans ((below_drewN w1 _).mono HF1.out.size), HT1.out.drewN _, _, _, _, hk1, HF1.out.later (below_drewN w1 _)⟩)
        · have gw : decide ((win : Int) < (d : Int)) = false := decide_eq_false (by omega)
          have gl : ((L : Int) == 259) = false := beq_eq_false_iff_ne.2 (by omega)
          have gn : d ≤ win := by have := of_decide_eq_false gw; omega
          clear hw
          by_cases hm : 4 ≤ M ∧ L < M
          · have g4 : decide ((4 : Int) ≤ (M : Int)) = true := decide_eq_true (by omega)
            have g5 : decide ((L : Int) < (M : Int)) = true := decide_eq_true (by omega)
            have HOK2 := Lib.hid (show BestOk l i M d from .inr ⟨hm.1, hM, by have := HS.out.2.1; omega, by have := HD.out; omega, by have := HD.out; omega, fun j hj => by rw [show i - d = a - 1 by have := HD.out; omega]; exact HS.out.2.2 j hj⟩)
            go_wp2
            go_roundg y
            case measure => omega
            case rel => exact ⟨M, d, y, _, rfl, rfl, rfl, by omega, Nat.le_refl _, HOK2.out, rfl⟩
          · by_cases h4m : 4 ≤ M
            · have g4 : decide ((4 : Int) ≤ (M : Int)) = true := decide_eq_true (by omega)
              have g5 : decide ((L : Int) < (M : Int)) = false := decide_eq_false (by omega)
              go_wp2
              go_roundg y
              case measure => omega
              case rel => exact ⟨L, D, y, _, rfl, rfl, rfl, by omega, Nat.le_refl _, HOK.out, rfl⟩
            · have g4 : decide ((4 : Int) ≤ (M : Int)) = false := decide_eq_false (by omega)
              go_wp2
              go_roundg y
              case measure => omega
              case rel => exact ⟨L, D, y, _, rfl, rfl, rfl, by omega, Nat.le_refl _, HOK.out, rfl⟩
      · have g1 : decide ((0 : Int) < a) = false := decide_eq_false (by omega)
        go_wp2
        rw [Exit.noGoto_ret]
        go_ret2
        exact ⟨⟨L, D, rfl, HOK.out⟩, HB1.out.trans ((below_drewN w1 _).mono HF1.out.size), HT1.out.drewN _, _, _, _, hk1, HF1.out.later (below_drewN w1 _)⟩
  · have g1 : decide ((n : Int) < (i : Int) + 4) = true := decide_eq_true (by omega)
    go_wp2
    go_step3
    go_wp2
    try rw [Exit.noGoto_ret]
    go_ret2
    exact ⟨⟨0, 0, rfl, .inl ⟨rfl, rfl⟩⟩, Below.refl _ _, Two.refl _ _ _, head, known, ah, hki, HF0.out⟩
end Go.Proofs.YtaelgbbnmjbjiaaGreat
namespace Go.Proofs.YtaelgbbnmjbjiaaGreat
open Go.RowKit
def FitL (l : List UInt8) : Nat → List Sq → Prop
  | p, [] => p ≤ l.length
  | p, x :: r => 4 ≤ x.len ∧ x.len ≤ 259 ∧ p + x.lits + x.len ≤ l.length ∧ 1 ≤ x.dist ∧ x.dist ≤ p + x.lits ∧ (∀ j, j < x.len → l.getD (p + x.lits - x.dist + j) 0 = l.getD (p + x.lits + j) 0) ∧ FitL l (p + x.lits + x.len) r
def fitEnd : Nat → List Sq → Nat
  | p, [] => p
  | p, x :: r => fitEnd (p + x.lits + x.len) r
theorem FitL.append {l : List UInt8} {x : Sq} : ∀ {L : List Sq} {p : Nat}, FitL l p L → FitL l (fitEnd p L) [x] → FitL l p (L ++ [x])
  | [], _, _, h => h
  | _ :: _, _, h, h2 => ⟨h.1, h.2.1, h.2.2.1, h.2.2.2.1, h.2.2.2.2.1, h.2.2.2.2.2.1, FitL.append h.2.2.2.2.2.2 h2⟩
theorem fitEnd_append (x : Sq) : ∀ (L : List Sq) (p : Nat), fitEnd p (L ++ [x]) = fitEnd p L + x.lits + x.len
  | [], _ => rfl
  | _ :: r, _ => fitEnd_append x r _
theorem elemN_info : (Tryz.prog.info? 3).map (fun i => (i.zero, i.size, i.bytes)) = some (some (.int .i64 0), 1, 8) := by kernel_rfl
theorem made_zeros (n : Nat) : (madeCells #[Value.int .i64 0] n).toList = (List.replicate n 0).map natv := by
  unfold madeCells
  apply List.ext_getElem
  · simp
  · intro i h1 h2
    simp [natv, Nat.mod_one]
theorem zero_gen2 (p : Nat) (a b v y z x0 x1 x2 : Value) : (((((a :: b :: (List.replicate p v ++ [y, z])).toArray).setIfInBounds 0 x0).setIfInBounds 1 x1).setIfInBounds (p + 2) x2).size = p + 4 ∧
    ∀ i, i < p + 4 → (((((a :: b :: (List.replicate p v ++ [y, z])).toArray).setIfInBounds 0 x0).setIfInBounds 1 x1).setIfInBounds (p + 2) x2)[i]? = some (if i = 0 then x0 else if i = 1 then x1 else if i < p + 2 then v else if i = p + 2 then x2 else z) := by
  constructor
  · simp
  · intro i hi
    simp only [Array.getElem?_setIfInBounds]
    by_cases e1 : p + 2 = i
    · subst e1; simp
    · rw [if_neg e1]
      by_cases e2 : 1 = i
      · subst e2; simp
      · rw [if_neg e2]
        by_cases e3 : 0 = i
        · subst e3; simp
        · rw [if_neg e3, if_neg (fun e => e3 e.symm), if_neg (fun e => e2 e.symm), List.getElem?_toArray]
          obtain ⟨j, rfl⟩ : ∃ j, i = j + 1 + 1 := ⟨i - 2, by omega⟩
          rw [List.getElem?_cons_succ, List.getElem?_cons_succ]
          by_cases e4 : j < p
          · rw [if_pos (by omega), List.getElem?_append_left (by rw [List.length_replicate]; omega), List.getElem?_replicate, if_pos e4]
          · have : j = p + 1 := by omega
            subst this
            rw [if_neg (by omega), if_neg (by omega), List.getElem?_append_right (by rw [List.length_replicate]; omega), List.length_replicate, show p + 1 - p = 1 by omega]
            rfl
theorem zero_finder : Tryz.zeroCells48 = (Value.slice none 0 0 :: Value.int .i64 0 :: (List.replicate 4096 (Value.int .i64 0) ++ [Value.slice none 0 0, Value.int .i64 0])).toArray := by kernel_rfl
theorem zero_fin (A : Option Addr) (n c win : Nat) (Aa : Option Addr) (ca : Nat) (x y z : Value) (hx : x = .slice A n c) (hy : y = .int .i64 (win : Int)) (hz : z = .slice Aa n ca) :
    (((Tryz.zeroCells48.setIfInBounds 0 x).setIfInBounds 1 y).setIfInBounds 4098 z).size = 4100 ∧ ∀ i, i < 4100 → (((Tryz.zeroCells48.setIfInBounds 0 x).setIfInBounds 1 y).setIfInBounds 4098 z)[i]? = some (finF A n c win (fun _ => 0) Aa ca 0 i) := by
  subst hx hy hz
  rw [zero_finder]
  obtain ⟨h1, h2⟩ := zero_gen2 4096 (Value.slice none 0 0) (Value.int .i64 0) (Value.int .i64 0) (Value.slice none 0 0) (Value.int .i64 0) (.slice A n c) (.int .i64 (win : Int)) (.slice Aa n ca)
  refine ⟨h1, fun i hi => (h2 i hi).trans ?_⟩
  unfold finF
  rfl
set_option maxHeartbeats 4000000 in
set_option maxRecDepth 10000 in
theorem mFind (A : Option Addr) (n c : Nat) (l : List UInt8) (w : World) (hl : l.length = n) (hr : Bs w A l) (hn : n ≤ 65536) (hc : n ≤ c) (hlow : ∀ b, bk A = some b → b < w.heap.size) :
    Calls Tryz.prog 11 #[.slice A n c, .int .i64 65536] w fun e w' => ∃ S m cs L, e = .returned (.tuple #[.slice S m cs, .int .i64 0]) ∧ OwnS w' w.heap.size S m cs L ∧ FitL l 0 L ∧ Below w.heap.size w w' := by
  have HL := Lib.hid hl
  have HR := Lib.hid hr
  have HLow := Lib.hid hlow
  clear hl hr hlow
  have g1 : decide ((65536 : Int) < (n : Int)) = false := decide_eq_false (by omega)
  obtain ⟨ti, hi, hz0, hz1, hz2⟩ := info_parts elemN_info
  go_enter Tryz.func11, Tryz.ntmps11
  go_wp2_with (at_make; refine wpList_make_full _ rfl _ _ 45 rfl w.heap.size 3 ti _ 1 Tryz.underlying45 hi hz0 hz1 .i64 .i64 n n n rfl rfl rfl rfl (by rw [hz2]; omega) (by unfold maxLen; omega) (Nat.le_refl _) ?_)
  intro w1 hown1 hg1
  rw [made_zeros] at hown1
  have hb1 : Below w.heap.size w w1 := (Below.refl _ _).grown hg1 (Nat.le_refl _) (fun k hk => by cases hk)
  have hfin : Fin_ (w1.alloc (.cells (((Tryz.zeroCells48.setIfInBounds 0 (.slice A n c)).setIfInBounds 1 (.int .i64 65536)).setIfInBounds 4098 (.slice (some ⟨w.heap.size, 0, none⟩) n n)) 48)) w.heap.size w1.heap.size l A n c 65536 (fun _ => 0) (some ⟨w.heap.size, 0, none⟩) n 0 (List.replicate n 0) := by
    have hz := zero_fin A n c 65536 (some ⟨w.heap.size, 0, none⟩) n _ _ _ rfl rfl rfl
    refine ⟨Cells.new w1 48 _ hz.1 hz.2, (HR.out.later hb1).later ((Below.refl _ _).alloc (Nat.le_refl _) _), Own.later (w := w1) hown1 ((Below.refl _ _).alloc (Nat.le_refl _) _), fun _ _ => Nat.le_refl _, fun p hp => by omega, Nat.zero_le _, HLow.out, hb1.size, ?_⟩
    have := ((Below.refl w1.heap.size w1).alloc (Nat.le_refl _) (.cells (((Tryz.zeroCells48.setIfInBounds 0 (.slice A n c)).setIfInBounds 1 (.int .i64 65536)).setIfInBounds 4098 (.slice (some ⟨w.heap.size, 0, none⟩) n n)) 48)).size
    have := hb1.size
    omega
  have HF1 := Lib.hid hfin
  have HB1 := Lib.hid (hb1.alloc hb1.size (.cells (((Tryz.zeroCells48.setIfInBounds 0 (.slice A n c)).setIfInBounds 1 (.int .i64 65536)).setIfInBounds 4098 (.slice (some ⟨w.heap.size, 0, none⟩) n n)) 48))
  clear hfin hb1 hown1 hg1 hi hz0 hz1 hz2
  go_wp2_with fail
  obtain ⟨w2, hw2⟩ : ∃ w2, w2 = w1.alloc (.cells (((Tryz.zeroCells48.setIfInBounds 0 (.slice A n c)).setIfInBounds 1 (.int .i64 65536)).setIfInBounds 4098 (.slice (some ⟨w.heap.size, 0, none⟩) n n)) 48) := ⟨_, rfl⟩
  rw [← hw2] at HF1 HB1 ⊢
  clear hw2
  obtain ⟨g, hg⟩ : ∃ g, g = w1.heap.size := ⟨_, rfl⟩
  rw [← hg] at HF1 ⊢
  clear hg
  refine (mBest w.heap.size g l A n c 65536 _ _ n 0 _ 0 w2 HF1.out HL.out hn hc (Nat.zero_le _) (Nat.le_refl _) (Nat.le_refl _)).mono ?_
  rintro e w3 ⟨⟨nn, dd, rfl, hok⟩, hb3, -, head3, known3, ah3, hk3, hf3⟩
  have HF3 := Lib.hid hf3
  have HB3 := Lib.hid (HB1.out.trans hb3)
  have HOK := Lib.hid hok
  clear hf3 hb3 hok HF1 HB1
  go_wp2_with fail
  go_loopg [7, 8, 9, 10, 11] n (fun gg s7 s8 s9 s10 s11 wr => ∃ (So : Option Addr) (mo co : Nat) (L : List Sq) (from_ i nn dd : Nat) (head : Nat → Nat) (known : Nat) (ah : List Nat), s7 = .slice So mo co ∧ s8 = .int .i64 (from_ : Int) ∧ s9 = .int .i64 (nn : Int) ∧ s10 = .int .i64 (dd : Int) ∧ s11 = .int .i64 (i : Int) ∧ OwnS wr w.heap.size So mo co L ∧ mo ≤ i ∧ fitEnd 0 L = from_ ∧ FitL l 0 L ∧ from_ ≤ i ∧ i ≤ n ∧ n - i ≤ gg ∧ BestOk l i nn dd ∧ known ≤ i ∧ Fin_ wr w.heap.size g l A n c 65536 head (some ⟨w.heap.size, 0, none⟩) n known ah ∧ Below w.heap.size w wr)
  case atStart => exact ⟨none, 0, 0, [], 0, 0, nn, dd, head3, known3, ah3, rfl, rfl, rfl, rfl, rfl, OwnS.nil _ _, Nat.le_refl _, rfl, Nat.zero_le _, Nat.le_refl _, Nat.zero_le _, by omega, HOK.out, hk3, HF3.out, HB3.out⟩
  case round =>
    clear HF3 HB3 HOK hk3
    obtain ⟨So, mo, co, L, from_, i, nn, dd, head, known, ah, rfl, rfl, rfl, rfl, rfl, hso, hmo, hend, hfit, hfi, hi, hgg, hok, hki, hf, hb⟩ := hrel
    have HSo := Lib.hid hso
    have HEnd := Lib.hid hend
    have HFit := Lib.hid hfit
    have HOK := Lib.hid hok
    have HF := Lib.hid hf
    have HB := Lib.hid hb
    clear hso hend hfit hok hf hb
    have hn1 : bk So ≠ some g := by
      obtain ⟨cs, h1, -⟩ := HF.out.cells
      exact HSo.out.ne_blk h1 (by decide)
    have hn2 := HSo.out.ne_own HF.out.ahead (by decide)
    by_cases hin : i < n
    · have g1 : decide ((i : Int) < n) = true := decide_eq_true (by omega)
      have hbe : Calls Tryz.prog 25 #[.pointer (some ⟨g, 0, none⟩), .int .i64 ((i : Int) + 1)] wr _ := mBest w.heap.size g l A n c 65536 _ _ n known _ (i + 1) wr HF.out HL.out hn hc (by omega) (by omega) (Nat.le_refl _)
      have HBe := Lib.hid hbe
      clear hbe
      by_cases h0 : nn = 0
      · have g2 : ((nn : Int) == 0) = true := by rw [h0]; rfl
        clear h0
        go_wp2_with fail
        refine HBe.out.mono ?_
        rintro e w4 ⟨⟨nn4, dd4, rfl, hok4⟩, hb4, ht4, head4, known4, ah4, hk4, hf4⟩
        have HF4 := Lib.hid hf4
        have HB4 := Lib.hid (HB.out.trans hb4)
        have HSo4 := Lib.hid (HSo.out.two ht4 hn1 hn2)
        have HOK4 := Lib.hid hok4
        clear hf4 hb4 ht4 hok4 g2 HBe
        go_wp2
        go_roundg (n - (i + 1))
        case measure => omega
        case rel => exact ⟨So, mo, co, L, from_, i + 1, nn4, dd4, head4, known4, ah4, rfl, rfl, rfl, rfl, by go_num, HSo4.out, by omega, HEnd.out, HFit.out, by omega, by omega, by omega, HOK4.out, hk4, HF4.out, HB4.out⟩
      · have g2 : ((nn : Int) == 0) = false := beq_eq_false_iff_ne.2 (by omega)
        have HOKn := Lib.hid (HOK.out.resolve_left (fun h => h0 h.1))
        clear h0
        go_wp2_with fail
        refine HBe.out.mono ?_
        rintro e w4 ⟨⟨nn4, dd4, rfl, hok4⟩, hb4, ht4, head4, known4, ah4, hk4, hf4⟩
        have HF4 := Lib.hid hf4
        have HB4 := Lib.hid (HB.out.trans hb4)
        have HSo4 := Lib.hid (HSo.out.two ht4 hn1 hn2)
        have HOK4 := Lib.hid hok4
        clear hf4 hb4 ht4 hok4 g2 HBe
        by_cases hm : nn < nn4
        · have g3 : decide ((nn : Int) < nn4) = true := decide_eq_true (by omega)
          go_wp2
          go_roundg (n - (i + 1))
          case measure => omega
          case rel => exact ⟨So, mo, co, L, from_, i + 1, nn4, dd4, head4, known4, ah4, rfl, rfl, rfl, rfl, by go_num, HSo4.out, by omega, HEnd.out, HFit.out, by omega, by omega, by omega, HOK4.out, hk4, HF4.out, HB4.out⟩
        · have g3 : decide ((nn : Int) < nn4) = false := decide_eq_false (by omega)
          have e1 : IntKind.i64.wrap ((i : Int) - from_) = ((i - from_ : Nat) : Int) := by rw [wrapi64 (by omega) (by omega)]; omega
          have HN2 := Lib.hid (show nn ≤ 259 ∧ i + nn ≤ n ∧ 4 ≤ nn from ⟨HOKn.out.2.1, by have := HOKn.out.2.2.1; rw [HL.out] at this; exact this, HOKn.out.1⟩)
          have hi2 := HN2.out
          go_wp2_with (at_builtin; go_loud (refine wpList_append_sq rfl _ _ rfl w.heap.size So mo co L w4 ⟨i - from_, nn, dd⟩ ?hw ?hs HSo4.out ?hx ?hb ?hbase ?_; (case hs => simp [Act.eval]); (case hx => simp [Act.eval])))
          case hw => rfl
          case hb => omega
          case hbase => exact HB4.out.size
          intro A9 c9 w9 hown9 hg9
          have hf9 := HF4.out.kept hg9 hn1 (hn2.elim (fun h => .inr (by rw [h]; simp [bk])) (fun h => .inr (fun e => h e.symm))) (fun k hk => (HSo.out.lt hk).1)
          have HF9 := Lib.hid hf9
          have HB9 := Lib.hid (HB4.out.grown hg9 HB4.out.size (fun k hk => (HSo.out.lt hk).1))
          have HSo9 := Lib.hid hown9
          have hfit9 : FitL l 0 (L ++ [⟨i - from_, nn, dd⟩]) := by
            refine HFit.out.append ?_
            rw [HEnd.out]
            have h := HOKn.out
            show 4 ≤ nn ∧ nn ≤ 259 ∧ from_ + (i - from_) + nn ≤ l.length ∧ 1 ≤ dd ∧ dd ≤ from_ + (i - from_) ∧ (∀ j, j < nn → l.getD (from_ + (i - from_) - dd + j) 0 = l.getD (from_ + (i - from_) + j) 0) ∧ from_ + (i - from_) + nn ≤ l.length
            rw [show from_ + (i - from_) = i by omega]
            exact ⟨h.1, h.2.1, h.2.2.1, h.2.2.2.1, h.2.2.2.2.1, h.2.2.2.2.2, h.2.2.1⟩
          have HFit9 := Lib.hid hfit9
          have HEnd9 := Lib.hid (show fitEnd 0 (L ++ [⟨i - from_, nn, dd⟩]) = i + nn by rw [fitEnd_append, HEnd.out]; show from_ + (i - from_) + nn = _; omega)
          clear hf9 hown9 hg9 hfit9
          have hbe : Calls Tryz.prog 25 #[.pointer (some ⟨g, 0, none⟩), .int .i64 ((i : Int) + nn)] w9 _ := mBest w.heap.size g l A n c 65536 _ _ n known4 _ (i + nn) w9 HF9.out HL.out hn hc (by omega) (by omega) (Nat.le_refl _)
          have HBe := Lib.hid hbe
          clear hbe
          go_wp2_with fail
          refine HBe.out.mono ?_
          rintro e w5 ⟨⟨nn5, dd5, rfl, hok5⟩, hb5, ht5, head5, known5, ah5, hk5, hf5⟩
          have hn3 : bk A9 ≠ some g := by
            obtain ⟨cs, h1, -⟩ := HF9.out.cells
            exact HSo9.out.ne_blk h1 (by decide)
          have hn4 := HSo9.out.ne_own HF9.out.ahead (by decide)
          have HF5 := Lib.hid hf5
          have HB5 := Lib.hid (HB9.out.trans hb5)
          have HSo5 := Lib.hid (HSo9.out.two ht5 hn3 hn4)
          have HOK5 := Lib.hid hok5
          clear hf5 hb5 ht5 hok5 HBe
          go_wp2
          go_roundg (n - (i + nn))
          case measure => omega
          case rel => exact ⟨A9, mo + 1, c9, L ++ [⟨i - from_, nn, dd⟩], i + nn, i + nn, nn5, dd5, head5, known5, ah5, by go_num, by go_num, rfl, rfl, by go_num, HSo5.out, by omega, HEnd9.out, HFit9.out, by omega, by omega, by omega, HOK5.out, hk5, HF5.out, HB5.out⟩
    · have g1 : decide ((i : Int) < n) = false := decide_eq_false (by omega)
      go_wp2
      go_ret2
      exact ⟨So, mo, co, L, rfl, HSo.out, HFit.out, HB.out⟩
end Go.Proofs.YtaelgbbnmjbjiaaGreat
namespace Go.Proofs.YtaelgbbnmjbjiaaGreat
open Go.RowKit
def PartsR (w : World) (go : Nat) (l : List Th) : Prop := ∀ x ∈ l, OwnN w (go + 1) x.pa x.pn x.pc x.ps
theorem PartsR.perm {w : World} {go : Nat} {l l' : List Th} (h : PartsR w go l) (hp : ∀ x ∈ l', x ∈ l) : PartsR w go l' := fun x hx => h x (hp x hx)
theorem PartsR.later {w w' : World} {go : Nat} {l : List Th} (h : PartsR w go l) (hb : Below w.heap.size w w') : PartsR w' go l := fun x hx => Own.later (h x hx) hb
theorem PartsR.two {w w' : World} {go B hb n c : Nat} {A : Option Addr} {l ts : List Th} (h : PartsR w go l) (hh : HeapR w B hb A n c ts) (ht : Two hb A w w') : PartsR w' go l := fun x hx =>
  ht.own (h x hx) (Own.ne_blk (h x hx) hh.box (by decide)) (by
    rcases hh.row.ne_own (h x hx) (by decide) with h1 | h1
    · cases hA : bk x.pa with
      | none => exact .inl rfl
      | some k => exact .inr (by rw [h1]; simp)
    · exact .inr (fun e => h1 e.symm))
theorem own_one (w : World) (v : Value) (t : TypeId) : Own (w.alloc (.cells #[v] t)) w.heap.size t (some ⟨w.heap.size, 0, none⟩) 1 1 [v] :=
  ⟨rfl, .inr ⟨w.heap.size, 1, #[v], rfl, Nat.le_refl _, World.alloc_heap_new w _, Nat.le_refl _, by unfold maxLen; omega, rfl, rfl⟩⟩
theorem two_below {w w' : World} {B b hb n c : Nat} {A : Option Addr} {l : List Th} (hh : HeapR w B hb A n c l) (ht : Two hb A w w') (h1 : b ≤ B) (h2 : b ≤ hb) (h3 : b ≤ w.heap.size) : Below b w w' :=
  ⟨ht.os, ht.tape, ht.output, ht.size, fun k hk => ht.block k (by omega) (by omega) (fun e => by have := (hh.row.lt e).1; omega)⟩
structure LeafR (counts : List Nat) (k : Nat) (ts : List Th) : Prop where
  forest : Forest ((List.range k).filter (fun p => decide (0 < counts.getD p 0))) (sumL (counts.take k)) (List.replicate counts.length 0) ts
  low : ∀ x ∈ ts, x.ht = 0
  len : ts.length ≤ k
theorem getD_rep (n p : Nat) : (List.replicate n 0).getD p 0 = 0 := by
  simp only [List.getD, List.getElem?_replicate]
  split <;> rfl
theorem LeafR.skip {counts : List Nat} {k : Nat} {ts : List Th} (h : LeafR counts k ts) (hc : counts[k]? = some 0) : LeafR counts (k + 1) ts := by
  refine ⟨?_, h.low, Nat.le_succ_of_le h.len⟩
  have e : (List.range (k + 1)).filter (fun p => decide (0 < counts.getD p 0)) = (List.range k).filter (fun p => decide (0 < counts.getD p 0)) := by
    rw [List.range_succ, List.filter_append]
    simp [List.getD, hc]
  rw [e, sumL_step hc, Nat.add_zero]
  exact h.forest
theorem LeafR.put {counts : List Nat} {k c : Nat} {ts : List Th} (h : LeafR counts k ts) (hc : counts[k]? = some c) (h0 : 0 < c) (num : Nat) (pa : Option Addr) (pn pc : Nat) : LeafR counts (k + 1) (ts ++ [⟨c, num, pa, pn, pc, [k], 0⟩]) := by
  have e : (List.range (k + 1)).filter (fun p => decide (0 < counts.getD p 0)) = (List.range k).filter (fun p => decide (0 < counts.getD p 0)) ++ [k] := by
    rw [List.range_succ, List.filter_append]
    simp [List.getD, hc, h0]
  refine ⟨⟨fun x hx => ?_, ?_, ?_, ?_, fun p _ => getD_rep _ p⟩, fun x hx => ?_, by rw [List.length_append, List.length_singleton]; have := h.len; omega⟩
  · rcases List.mem_append.1 hx with hx | hx
    · exact h.forest.ok x hx
    · obtain rfl : x = _ := List.mem_singleton.1 hx
      exact ⟨h0, fun p _ => by rw [getD_rep]; exact Nat.zero_le _, fun H _ => by simp only [List.map_cons, List.map_nil, sumL, getD_rep]; simp⟩
  · rw [List.pairwise_append]
    refine ⟨h.forest.pair, by simp, fun x hx y hy => ?_⟩
    obtain rfl : y = _ := List.mem_singleton.1 hy
    have h1 := h.low x hx
    have h2 := (h.forest.ok x hx).fib
    have h3 := fibT_pos x.ht
    refine ⟨?_, ?_⟩
    · rw [h1]; exact h0
    · show 1 ≤ x.wt; omega
  · rw [sumL_step hc, ← h.forest.wts]
    unfold wtsT
    rw [List.map_append, sumL_append]; simp [sumL]
  · rw [e]
    unfold allP
    rw [List.flatMap_append]
    exact h.forest.all.append (List.Perm.of_eq (by simp))
  · rcases List.mem_append.1 hx with hx | hx
    · exact h.low x hx
    · obtain rfl : x = _ := List.mem_singleton.1 hx
      rfl
theorem one_ps {out : List Nat} {x : Th} (h : ThOk out x) (h0 : x.ht = 0) : ∃ p, x.ps = [p] := by
  have h1 := h.kraft 0 (by omega)
  have h2 : x.ps.map (fun p => 2 ^ (0 - out.getD p 0)) = List.replicate x.ps.length 1 := by
    apply List.ext_getElem
    · simp
    · intro i h1 h2; simp
  have h3 : ∀ m : Nat, sumL (List.replicate m 1) = m := by
    intro m
    induction m with
    | zero => rfl
    | succ m ih => rw [List.replicate_succ, sumL, ih]; omega
  rw [h2, h3] at h1
  exact List.length_eq_one_iff.1 h1
theorem TreeOk.one {counts : List Nat} {p : Nat} {x : Th} (h : Forest (posL counts) (sumL counts) (List.replicate counts.length 0) [x]) (hp : x.ps = [p]) : TreeOk counts ((List.replicate counts.length 0).set p 1) ∧ p < counts.length := by
  have hpos : posL counts = [p] := by
    have := h.all
    unfold allP at this
    rw [List.flatMap_cons, List.flatMap_nil, List.append_nil, hp] at this
    exact List.perm_singleton.1 this.symm
  have hlt := posL_lt counts p (by rw [hpos]; exact List.mem_singleton_self _)
  refine ⟨⟨by simp, fun q hq => ?_, 1, ?_, fun q => ?_, .inr ⟨p, hpos, rfl, ?_⟩⟩, hlt⟩
  · rw [getD_set]
    split
    · rename_i h1
      exfalso
      have : p ∈ posL counts := by rw [hpos]; exact List.mem_singleton_self _
      have := (List.mem_filter.1 this).2
      simp only [decide_eq_true_eq] at this
      rw [h1.1] at hq
      omega
    · exact getD_rep _ _
  · have h1 := (h.ok x (List.mem_singleton_self _)).fib
    have h2 := h.wts
    have h3 := fibT_pos x.ht
    rw [wtsT_cons] at h2
    show 1 ≤ _
    omega
  · rw [getD_set]
    split
    · exact Nat.le_refl _
    · rw [getD_rep]; omega
  · rw [getD_set, if_pos ⟨rfl, by rw [List.length_replicate]; exact hlt⟩]
theorem TreeOk.many {counts out : List Nat} {x : Th} (h : Forest (posL counts) (sumL counts) out [x]) (hlen : out.length = counts.length) : TreeOk counts out := by
  have ok := h.ok x (List.mem_singleton_self _)
  have hps : x.ps.Perm (posL counts) := by
    have := h.all
    unfold allP at this
    rw [List.flatMap_cons, List.flatMap_nil, List.append_nil] at this
    exact this
  have hz : ∀ q, q ∉ posL counts → out.getD q 0 = 0 := h.rest
  refine ⟨hlen, fun q hq => hz q (fun hm => ?_), x.ht, ?_, fun q => ?_, .inl ?_⟩
  · have := (List.mem_filter.1 hm).2
    simp only [decide_eq_true_eq] at this
    omega
  · have h1 := ok.fib
    have h2 := h.wts
    rw [wtsT_cons] at h2
    have : wtsT ([] : List Th) = 0 := rfl
    omega
  · by_cases hm : q ∈ posL counts
    · exact ok.le q (hps.symm.subset hm)
    · rw [hz q hm]; exact Nat.zero_le _
  · rw [← ok.kraft x.ht (Nat.le_refl _)]
    exact sumL_perm (hps.symm.map _)
structure TreeR (w0 : World) (hb : Nat) (A : Option Addr) (c n M : Nat) (hs ex : List Th) (out : List Nat) (w : World) : Prop where
  heap : HeapR w (w0.heap.size + 1) hb A M c hs
  all : HAll (fnT hs) M 0
  parts : PartsR w w0.heap.size (ex ++ hs)
  out_ : OwnN w w0.heap.size (some ⟨w0.heap.size, 0, none⟩) n n out
  lt : hb < w.heap.size
  below : Below w0.heap.size w0 w
theorem TreeR.later {w0 w w' : World} {hb c n M : Nat} {A : Option Addr} {hs ex : List Th} {out : List Nat} (h : TreeR w0 hb A c n M hs ex out w) (hb' : Below w.heap.size w w') : TreeR w0 hb A c n M hs ex out w' :=
  ⟨h.heap.later hb', h.all, h.parts.later hb', Own.later h.out_ hb', Nat.lt_of_lt_of_le h.lt hb'.size, h.below.trans (hb'.mono h.below.size)⟩
theorem TreeR.drew {w0 w : World} {hb c n M : Nat} {A : Option Addr} {hs ex : List Th} {out : List Nat} (h : TreeR w0 hb A c n M hs ex out w) : TreeR w0 hb A c n M hs ex out w.drew := h.later (Below.refl _ _).drew
theorem TreeR.alloc {w0 w : World} {hb c n M : Nat} {A : Option Addr} {hs ex : List Th} {out : List Nat} (o : Obj) (h : TreeR w0 hb A c n M hs ex out w) : TreeR w0 hb A c n M hs ex out (w.alloc o) := h.later ((Below.refl _ _).alloc (Nat.le_refl _) _)
theorem own_row_ne {w : World} {B hb n c base n' c' : Nat} {A A' : Option Addr} {ts : List Th} {xs : List Value} (hh : HeapR w B hb A n c ts) (h : Own w base 3 A' n' c' xs) : bk A' ≠ some hb ∧ (bk A' = none ∨ bk A' ≠ bk A) := by
  refine ⟨Own.ne_blk h hh.box (by decide), ?_⟩
  rcases hh.row.ne_own h (by decide) with h1 | h1
  · cases hA : bk A' with
    | none => exact .inl rfl
    | some k => exact .inr (by rw [h1]; simp)
  · exact .inr (fun e => h1 e.symm)
theorem TreeR.two {w0 w w' : World} {hb c n M : Nat} {A : Option Addr} {hs ex : List Th} {out : List Nat} (h : TreeR w0 hb A c n M hs ex out w) (ht : Two hb A w w') (hlt : w0.heap.size < hb) : PartsR w' w0.heap.size (ex ++ hs) ∧ OwnN w' w0.heap.size (some ⟨w0.heap.size, 0, none⟩) n n out ∧ hb < w'.heap.size ∧ Below w0.heap.size w0 w' :=
  ⟨h.parts.two h.heap ht, ht.own h.out_ (own_row_ne h.heap h.out_).1 (own_row_ne h.heap h.out_).2, Nat.lt_of_lt_of_le h.lt ht.size, h.below.trans (two_below h.heap ht (by omega) (by omega) h.below.size)⟩
theorem popAt {w0 w : World} {hb c n M : Nat} {A : Option Addr} {hs ex : List Th} {out : List Nat} (h : TreeR w0 hb A c n (M + 1) hs ex out w) (hM : 1 ≤ M) (hM2 : M ≤ 999999) (hc : M + 1 ≤ c) (hlt : w0.heap.size < hb) :
    Calls Tryz.prog 117 #[.iface 163 (.pointer (some ⟨hb, 0, none⟩))] w fun e w' => ∃ x l', e = .returned (thV x) ∧ TreeR w0 hb A c n M l' (x :: ex) out w' ∧ (x :: l').Perm hs ∧ (∀ y ∈ l', leT x y) ∧ Two hb A w w' := by
  refine (hpPop (w0.heap.size + 1) hb A M c hs w h.heap hM hM2 hc h.all).mono ?_
  rintro e w' ⟨x, l', rfl, hh, hp, ha, hm, ht⟩
  obtain ⟨h1, h2, h3, h4⟩ := h.two ht hlt
  refine ⟨x, l', rfl, ⟨hh, ha, h1.perm (fun y hy => ?_), h2, h3, h4⟩, hp, hm, ht⟩
  rcases List.mem_append.1 hy with hy | hy
  · rcases List.mem_cons.1 hy with rfl | hy
    · exact List.mem_append_right _ (hp.subset (List.mem_cons_self))
    · exact List.mem_append_left _ hy
  · exact List.mem_append_right _ (hp.subset (List.mem_cons_of_mem _ hy))
structure LocR (w0 : World) (hb : Nat) (A : Option Addr) (b : Nat) (cs : Array Value) (w : World) : Prop where
  blk : Blk w b 161 cs
  ne : bk A ≠ some b
  ge : w0.heap.size ≤ b
theorem LocR.alloc {w0 w : World} {hb b : Nat} {A : Option Addr} {cs : Array Value} (o : Obj) (h : LocR w0 hb A b cs w) : LocR w0 hb A b cs (w.alloc o) := ⟨h.blk.later ((Below.refl _ _).alloc (Nat.le_refl _) _), h.ne, h.ge⟩
theorem LocR.two {w0 w w' : World} {hb b c n M : Nat} {A : Option Addr} {cs : Array Value} {hs ex : List Th} {out : List Nat} (ht : Two hb A w w') (hh : TreeR w0 hb A c n M hs ex out w) (h : LocR w0 hb A b cs w) : LocR w0 hb A b cs w' :=
  ⟨ht.blk h.blk (Blk.ne h.blk hh.heap.box (by decide)) h.ne, h.ne, h.ge⟩
theorem LocR.new {w0 w : World} {hb c n M : Nat} {A : Option Addr} {hs ex : List Th} {out : List Nat} (cs : Array Value) (hh : TreeR w0 hb A c n M hs ex out w) : LocR w0 hb A w.heap.size cs (w.alloc (.cells cs 161)) :=
  ⟨Blk.new w _ cs, fun e => by have := (hh.heap.row.lt e).2; omega, hh.below.size⟩
end Go.Proofs.YtaelgbbnmjbjiaaGreat
namespace Go.Proofs.YtaelgbbnmjbjiaaGreat
open Go.RowKit
set_option maxHeartbeats 1000000 in
set_option maxRecDepth 10000 in
theorem thSwapSame (base : Nat) (A : Option Addr) (n c : Nat) (l : List Th) (i : Nat) (x : Th) (w : World) (h : OwnT w base A n c l) (hx : l[i]? = some x) :
    Calls Tryz.prog 148 #[.slice A n c, .int .i64 (i : Int), .int .i64 (i : Int)] w fun e w' => (∃ v, e = .returned v) ∧ OwnT w' base A n c l ∧ w.grownBy w' (bk A) := by
  have hl := h.length
  have hi : i < n := by rw [← hl]; exact (List.getElem?_eq_some_iff.1 hx).1
  have hset : l.set i x = l := by
    obtain ⟨h1, h2⟩ := List.getElem?_eq_some_iff.1 hx
    rw [← h2]; exact List.set_getElem_self h1
  obtain ⟨g, x', rfl, hg1, hg2, hx', a0, a1, a2, f0⟩ := h.at_ hi
  rw [hx] at hx'; cases hx'
  obtain ⟨xw, xn, xa, xpn, xpc, xps, xht⟩ := x
  simp only at a0 a1 a2
  have i1 : (0 : Int) ≤ (i : Int) := by omega
  have i2 : (i : Int) < (n : Int) := by omega
  have h3 := h.set hi ⟨xw, xn, xa, xpn, xpc, xps, xht⟩
  rw [hset] at h3
  obtain ⟨g', y', hg', -, -, hy', d0, d1, d2, df⟩ := h3.at_ hi
  cases hg'
  rw [hx] at hy'
  cases hy'
  have h4 := h3.set hi ⟨xw, xn, xa, xpn, xpc, xps, xht⟩
  rw [hset] at h4
  simp only at d0 d1 d2 h4
  have HO := Lib.hid h4
  have df0 := df (i * 3)
  have df1 := df (i * 3 + 1)
  have df2 := df (i * 3 + 2)
  have ff0 := f0 (i * 3)
  have ff1 := f0 (i * 3 + 1)
  have ff2 := f0 (i * 3 + 2)
  clear h hx hl h3 h4 df f0 hset
  go_enter Tryz.func148, Tryz.ntmps148
  go_wp2
  go_region
  go_wp2
  go_end0
  exact ⟨⟨_, rfl⟩, HO.out.later ((Below.refl _ _).drew), grown6 _ _ _ _ _ _ _ _ _ _ _ _ _ _⟩
set_option maxHeartbeats 4000000 in
set_option maxRecDepth 10000 in
theorem hpPop0 (B hb : Nat) (A : Option Addr) (c : Nat) (x : Th) (w : World) (h : HeapR w B hb A 1 c [x]) (hc : 1 ≤ c) :
    Calls Tryz.prog 117 #[.iface 163 (.pointer (some ⟨hb, 0, none⟩))] w fun e w' => e = .returned (thV x) ∧ HeapR w' B hb A 0 c [] ∧ Two hb A w w' := by
  have H0 := Lib.hid h
  have hml := m_Len h.cell
  have HLen0 := Lib.hid (thLen A 1 c w)
  have hms := m_Swap h.cell
  have HSw := Lib.hid (show Calls Tryz.prog 148 #[.slice A 1 c, .int .i64 0, .int .i64 0] w _ from thSwapSame B A 1 c [x] 0 x w h.row rfl)
  clear h
  go_enter Tryz.func117, Tryz.ntmps117
  go_wp2_with fail
  refine HLen0.out.mono ?_
  rintro e w1 ⟨rfl, hw1⟩
  obtain rfl := hw1.symm
  go_wp2_with fail
  refine HSw.out.mono ?_
  rintro e w2 ⟨⟨v2, rfl⟩, hrow2, hgr2⟩
  have hh2 : HeapR w2 B hb A 1 c [x] := ⟨H0.out.box.kept hgr2 H0.out.ne, hrow2⟩
  have HT2 := Lib.hid ((Two.refl hb A w).grown hgr2 (fun k hk _ => .inr hk))
  have HDn := Lib.hid (show Calls Tryz.prog 124 #[.iface 163 (.pointer (some ⟨hb, 0, none⟩)), .int .i64 0, .int .i64 0] w2 _ from hpDown B hb A 1 c [x] 0 0 0 w2 hh2 (by omega) (by omega) (Nat.le_refl _) (Nat.le_refl _) ⟨fun m h1 h2 => by omega, fun m h1 h2 => by omega⟩)
  clear hrow2 hgr2 hh2 hml hms HSw
  go_wp2_with fail
  refine HDn.out.mono ?_
  rintro e w3 ⟨⟨v3, rfl⟩, ⟨l3, hh3, hp3, -, -⟩, ht3⟩
  have hl3 : l3 = [x] := List.perm_singleton.1 hp3
  subst hl3
  have HPop := Lib.hid (thPop B hb A 0 c [x] x w3 hh3 rfl (by omega) hc)
  have HT3 := Lib.hid (HT2.out.trans ht3)
  have hmp := m_Pop ⟨hb, 0, none⟩ w3
  clear hh3 hp3 ht3 HDn
  go_wp2_with fail
  refine HPop.out.mono ?_
  rintro e w4 ⟨rfl, hh4, ht4⟩
  have HH4 := Lib.hid hh4
  have HT4 := Lib.hid (HT3.out.trans ht4)
  clear hh4 ht4 HPop hmp
  go_wp2
  go_ret
  exact ⟨rfl, HH4.out, HT4.out⟩
theorem popAny {w0 w : World} {hb c n M : Nat} {A : Option Addr} {hs ex : List Th} {out : List Nat} (h : TreeR w0 hb A c n (M + 1) hs ex out w) (hM2 : M ≤ 999999) (hc : M + 1 ≤ c) (hlt : w0.heap.size < hb) :
    Calls Tryz.prog 117 #[.iface 163 (.pointer (some ⟨hb, 0, none⟩))] w fun e w' => ∃ x l', e = .returned (thV x) ∧ TreeR w0 hb A c n M l' (x :: ex) out w' ∧ (x :: l').Perm hs ∧ (∀ y ∈ l', leT x y) ∧ Two hb A w w' := by
  by_cases hM : 1 ≤ M
  · exact popAt h hM hM2 hc hlt
  · obtain rfl : M = 0 := by omega
    obtain ⟨x, rfl⟩ : ∃ x, hs = [x] := List.length_eq_one_iff.1 h.heap.row.length
    refine (hpPop0 (w0.heap.size + 1) hb A c x w h.heap hc).mono ?_
    rintro e w' ⟨rfl, hh, ht⟩
    obtain ⟨h1, h2, h3, h4⟩ := h.two ht hlt
    refine ⟨x, [], rfl, ⟨hh, fun m h1 h2 => by omega, h1.perm (fun y hy => ?_), h2, h3, h4⟩, List.Perm.refl _, by simp, ht⟩
    rw [List.append_nil] at hy
    rcases List.mem_cons.1 hy with rfl | hy
    · exact List.mem_append_right _ (List.mem_singleton_self _)
    · exact List.mem_append_left _ hy
end Go.Proofs.YtaelgbbnmjbjiaaGreat
namespace Go.Proofs.YtaelgbbnmjbjiaaGreat
open Go.RowKit
def zTh : Array Value := #[.int .i64 0, .int .i64 0, .slice none 0 0]
def vTh (x : Th) : Array Value := #[natv x.wt, natv x.num, .slice x.pa x.pn x.pc]
theorem blk_cells {w : World} {b : Nat} {v0 v1 v2 : Value} {t : TypeId} (h : Blk w b t #[v0, v1, v2]) : w.cell? ⟨b, 0, none⟩ = some v0 ∧ w.cell? ⟨b, 1, none⟩ = some v1 ∧ w.cell? ⟨b, 2, none⟩ = some v2 ∧ w.frozen? ⟨b, 0, none⟩ = false ∧ w.frozen? ⟨b, 1, none⟩ = false ∧ w.frozen? ⟨b, 2, none⟩ = false ∧ b < w.heap.size := by
  have h0 := h.cell 0
  have h1 := h.cell 1
  have h2 := h.cell 2
  simp only [List.getElem?_toArray, List.getElem?_cons_zero, List.getElem?_cons_succ] at h0 h1 h2
  exact ⟨h0, h1, h2, h.frozen 0, h.frozen 1, h.frozen 2, h.lt⟩
def put3 (w : World) (b : Nat) (x : Th) : World := ((w.setCell ⟨b, 0, none⟩ (natv x.wt)).setCell ⟨b, 1, none⟩ (natv x.num)).setCell ⟨b, 2, none⟩ (.slice x.pa x.pn x.pc)
theorem put3_grown (w : World) (b : Nat) (x : Th) : w.grownBy (put3 w b x) (some b) :=
  grown_trans (grown_trans (grown_set w ⟨b, 0, none⟩ _) (grown_set _ ⟨b, 1, none⟩ _)) (grown_set _ ⟨b, 2, none⟩ _)
theorem put3_blk {w : World} {b : Nat} {v0 v1 v2 : Value} (x : Th) (h : Blk w b 161 #[v0, v1, v2]) : Blk (put3 w b x) b 161 (vTh x) := ((h.set 0 _).set 1 _).set 2 _
theorem TreeR.put3 {w0 w : World} {hb c n M b : Nat} {A : Option Addr} {hs ex : List Th} {out : List Nat} {v0 v1 v2 : Value} (x : Th) (h : TreeR w0 hb A c n M hs ex out w) (hl : LocR w0 hb A b #[v0, v1, v2] w) : TreeR w0 hb A c n M hs ex out (put3 w b x) := by
  have hg := put3_grown w b x
  have h1 : some b ≠ some hb := fun e => Blk.ne hl.blk h.heap.box (by decide) (by injection e)
  refine ⟨⟨h.heap.box.kept hg h1, h.heap.row.kept hg (.inr hl.ne)⟩, h.all, fun y hy => Own.kept (h.parts y hy) hg (.inr (Own.ne_blk (h.parts y hy) hl.blk (by decide))), Own.kept h.out_ hg (.inr (Own.ne_blk h.out_ hl.blk (by decide))), Nat.lt_of_lt_of_le h.lt hg.size, h.below.grown hg h.below.size (fun k e => by cases e; exact hl.ge)⟩
end Go.Proofs.YtaelgbbnmjbjiaaGreat
namespace Go.Proofs.YtaelgbbnmjbjiaaGreat
open Go.RowKit
def KA (k : Nat) (x : Th) : Prop := x.wt = 2 ^ k ∧ x.ht ≤ k
def KB2 (k : Nat) (x : Th) : Prop := x.wt = 2 ^ k * 2 ∧ x.ht ≤ k + 1
def KC (k : Nat) (x : Th) : Prop := 2 ^ k < x.wt ∧ x.wt < 2 ^ k * 2 ∧ x.ht ≤ k + 1
def KD (k : Nat) (x : Th) : Prop := 2 ^ k * 2 < x.wt ∧ x.wt < 2 ^ k * 4 ∧ x.ht ≤ k + 2
def Kind (k : Nat) (x : Th) : Prop := KA k x ∨ KB2 k x ∨ KC k x ∨ KD k x
def OddT (k : Nat) (x : Th) : Prop := x.wt ≠ 2 ^ k ∧ x.wt ≠ 2 ^ k * 2
def BigT (k : Nat) (x : Th) : Prop := 2 ^ k * 2 < x.wt
def RelT (k : Nat) (x y : Th) : Prop := ¬ (OddT k x ∧ OddT k y) ∧ ¬ (BigT k x ∧ y.wt = 2 ^ k) ∧ ¬ (BigT k y ∧ x.wt = 2 ^ k)
theorem RelT.symm {k : Nat} {x y : Th} (h : RelT k x y) : RelT k y x := ⟨fun e => h.1 ⟨e.2, e.1⟩, h.2.2, h.2.1⟩
structure Phase (k : Nat) (l : List Th) : Prop where
  kind : ∀ x ∈ l, Kind k x
  rel : l.Pairwise (RelT k)
theorem Phase.perm {k : Nat} {l l' : List Th} (h : Phase k l) (hp : l'.Perm l) : Phase k l' :=
  ⟨fun x hx => h.kind x (hp.subset hx), (hp.pairwise_iff (fun h => h.symm)).2 h.rel⟩
theorem Phase.merge {k : Nat} {l : List Th} {a b x : Th} (h : Phase k (a :: b :: l)) (ha : ∀ y ∈ l, a.wt ≤ y.wt) (hb : ∀ y ∈ l, b.wt ≤ y.wt) (hab : a.wt ≤ b.wt) (hw : x.wt = a.wt + b.wt) (hh : x.ht = max a.ht b.ht + 1) : ∃ k', Phase k' (x :: l) := by
  have ka := h.kind a (List.mem_cons_self)
  have kb := h.kind b (List.mem_cons_of_mem _ List.mem_cons_self)
  have kl : ∀ y ∈ l, Kind k y := fun y hy => h.kind y (List.mem_cons_of_mem _ (List.mem_cons_of_mem _ hy))
  have hpw := h.rel
  rw [List.pairwise_cons, List.pairwise_cons] at hpw
  obtain ⟨ra, rb, rl⟩ := hpw
  have rab := ra b (List.mem_cons_self)
  have ral : ∀ y ∈ l, RelT k a y := fun y hy => ra y (List.mem_cons_of_mem _ hy)
  have hp : 0 < 2 ^ k := Nat.two_pow_pos k
  have e1 : 2 ^ (k + 1) = 2 ^ k * 2 := Nat.pow_succ ..
  by_cases hBB : b.wt ≥ 2 ^ k * 2 ∧ a.wt ≥ 2 ^ k * 2
  · refine ⟨k + 1, fun y hy => ?_, ?_⟩
    · unfold Kind KA KB2 KC KD
      rw [e1]
      rcases List.mem_cons.1 hy with rfl | hy
      · unfold Kind KA KB2 KC KD at ka kb
        unfold RelT OddT BigT at rab
        omega
      · have k1 := kl y hy
        have k2 := ha y hy
        unfold Kind KA KB2 KC KD at k1
        omega
    · rw [List.pairwise_cons]
      refine ⟨fun z hz => ?_, ?_⟩
      · have k1 := kl z hz
        have k2 := ha z hz
        have k3 := hb z hz
        have k4 := rb z hz
        have k5 := ral z hz
        unfold Kind KA KB2 KC KD at k1 ka kb
        unfold RelT OddT BigT at *
        rw [e1]
        omega
      · refine rl.imp_of_mem (fun {y z} hy hz hyz => ?_)
        have k1 := kl y hy
        have k2 := ha y hy
        have k3 := kl z hz
        have k4 := ha z hz
        unfold Kind KA KB2 KC KD at k1 k3
        unfold RelT OddT BigT at *
        rw [e1]
        omega
  · refine ⟨k, fun y hy => ?_, ?_⟩
    · rcases List.mem_cons.1 hy with rfl | hy
      · unfold Kind KA KB2 KC KD at *
        unfold RelT OddT BigT at rab
        omega
      · exact kl y hy
    · rw [List.pairwise_cons]
      refine ⟨fun z hz => ?_, rl⟩
      have k1 := kl z hz
      have k2 := ha z hz
      have k3 := hb z hz
      have k4 := rb z hz
      have k5 := ral z hz
      unfold Kind KA KB2 KC KD at k1 ka kb
      unfold RelT OddT BigT at *
      omega
theorem Phase.low {k : Nat} {x : Th} (h : Phase k [x]) (hw : x.wt ≤ 512) : x.ht ≤ 11 := by
  have hk := h.kind x (List.mem_singleton_self _)
  have hp : k ≤ 9 := by
    rcases Nat.lt_or_ge 9 k with h9 | h9
    · exfalso
      have : 2 ^ 10 ≤ 2 ^ k := Nat.pow_le_pow_right (by omega) h9
      unfold Kind KA KB2 KC KD at hk
      omega
    · exact h9
  unfold Kind KA KB2 KC KD at hk
  omega
theorem Phase.leaves {ts : List Th} (h : ∀ x ∈ ts, x.ht = 0 ∧ (x.wt = 1 ∨ x.wt = 2)) : Phase 0 ts := by
  refine ⟨fun x hx => ?_, ?_⟩
  · obtain ⟨h1, h2⟩ := h x hx
    unfold Kind KA KB2
    rcases h2 with h2 | h2
    · exact .inl ⟨h2, by omega⟩
    · exact .inr (.inl ⟨h2, by omega⟩)
  · refine List.Pairwise.imp_of_mem (R := fun _ _ => True) (fun {x y} hx hy _ => ?_) (List.pairwise_of_forall (fun _ _ => trivial))
    obtain ⟨-, h1⟩ := h x hx
    obtain ⟨-, h2⟩ := h y hy
    unfold RelT OddT BigT
    simp only [Nat.pow_zero]
    omega
end Go.Proofs.YtaelgbbnmjbjiaaGreat
namespace Go.Proofs.YtaelgbbnmjbjiaaGreat
open Go.RowKit Go.Shelf
theorem upon_round {lo n : Nat} {P : Program} {o : Oper} {a : Act} {K K' : Act → World → Prop} {Q : Exit → Act → World → Prop} (hQ : ¬ LetsOut Q) (hK : ∀ a w, K a w → K' a w) :
    ∀ r, o.upon P a K Q r → o.uponIn (Fence.wide.inRound lo) n P a K' Q r
  | .ok (.value _) _, h => hK _ _ h
  | .ok .skip _, h => hK _ _ h
  | .ok (.defer _) _, h => hK _ _ h
  | .ok (.enter f args) w', h => ⟨fun hd => by simp [Fence.wide] at hd, CallsIn.inRound lo (callsIn_wide.2 (Calls.mono h fun e w'' he => by
      cases e with
      | returned v => exact hK _ _ he
      | panicked c => exact he
      | outgrown => exact absurd he hQ))⟩
  | .ok (.row row args) w', h => ⟨fun hd => by simp [Fence.wide] at hd, fun c cs _ => by
      obtain ⟨v, w'', r, s⟩ := h c cs
      exact ⟨v, w'', hK _ _ r, stepsIn_wide.2 s⟩⟩
  | .halt (.panic _) _, h => h
def plainOp (o : Oper) : Bool := match o.op with | .defer _ => false | _ => true
theorem op_round {lo n : Nat} {P : Program} {ops : Array Oper} {Q : Exit → Act → World → Prop} (hQ : ¬ LetsOut Q) (hd : ops.all plainOp = true) {i : Nat} {K K' : Act → World → Prop} (hK : ∀ a w, K a w → K' a w) {a : Act} {w : World}
    (h : wpOp P ops Q i K a w) : wpOpIn (Fence.wide.inRound lo) n P ops Q i K' a w := by
  unfold wpOp at h
  unfold wpOpIn
  cases ho : ops[i]? with
  | none => rw [ho] at h; exact hK _ _ h
  | some o =>
    rw [ho] at h
    simp only at h ⊢
    have hpl : ∀ c, o.op ≠ .defer c := by
      intro c e
      have h1 := Array.all_eq_true.1 hd i (Array.getElem?_eq_some_iff.1 ho).1
      rw [(Array.getElem?_eq_some_iff.1 ho).2] at h1
      unfold plainOp at h1
      rw [e] at h1
      cases h1
    split
    · rename_i hw
      rw [if_pos hw] at h
      rcases h with h | ⟨-, h⟩
      · refine ⟨fun _ _ => trivial, ?_⟩
        rw [Oper.semAt_eq _ _ _ hpl]
        exact upon_round hQ hK _ h
      · exact absurd h hQ
    · rename_i hw
      rw [if_neg hw] at h
      exact ⟨fun _ _ => trivial, hK _ _ h⟩
theorem any_round {lo n : Nat} {P : Program} {ops : Array Oper} {md : Region.Mode} {Q : Exit → Act → World → Prop} (hQ : ¬ LetsOut Q) (hd : ops.all plainOp = true) : ∀ (fuel : Nat) (listed : Array Bool) (a : Act) (w : World),
    wpAny P md ops Q fuel listed a w → wpAnyIn (Fence.wide.inRound lo) n P md ops Q fuel listed a w
  | 0, _, _, _, h => h
  | fuel + 1, _, _, _, h => ⟨h.1, fun i hi => op_round hQ hd (fun a w hK => any_round hQ hd fuel _ a w hK) (h.2 i hi)⟩
theorem wpR_region_quiet {lo n id : Nat} {P : Program} {Q : Exit → Act → World → Prop} {a : Act} {w : World} {l : List Oper} (hQ : ¬ LetsOut Q) (hd : l.toArray.all plainOp = true) (hm : P.follows .mixedOrders = true) (hB : Region.lexB .any l.toArray = true)
    (h : wpQuiet P l.toArray (fun w' => ∃ n, w' = w.drewN n) (fun a' => ∀ w', (∃ n, w' = w.drewN n) → Q .normal a' w') l a) : (Code.region id l.toArray true).wpIn (Fence.wide.inRound lo) n P Q a w := by
  simp only [Region.lexB, Bool.and_eq_true] at hB
  refine wpIn_region_any hm (any_round hQ hd _ _ _ _ (wpAny_of_quiet (C := fun w' => ∃ n, w' = w.drewN n) (Q := fun a' => ∀ w', (∃ n, w' = w.drewN n) → Q .normal a' w') (fun _ w' hw' h => h w' hw') _ _ _ _ ⟨1, rfl⟩ ?_))
  have := wpAnyQ_lex (C := fun w' => ∃ n, w' = w.drewN n) (md := .any) hB.1 l 0 (Array.replicate l.toArray.size false) a (by simp) (by simpa using hB.2) h
  simpa using this
theorem wpR_region_tail {lo m id : Nat} {P : Program} {Q : Exit → Act → World → Prop} {a : Act} {w : World} {l : List Oper} (n : Nat) (hQ : ¬ LetsOut Q) (hd : l.toArray.all plainOp = true) (hm : P.follows .mixedOrders = true) (hB : Region.lexTailB .any l.toArray n = true)
    (h : wpStill P l.toArray w.drew (fun a' => wpList P l.toArray Q (l.drop n) a' w.drew) (l.take n) a) : (Code.region id l.toArray true).wpIn (Fence.wide.inRound lo) m P Q a w := by
  simp only [Region.lexTailB, Bool.and_eq_true, decide_eq_true_eq] at hB
  obtain ⟨⟨⟨⟨hsel, hn⟩, hs⟩, hc⟩, hlex⟩ := hB
  have hn' : n < l.length := by simpa using hn
  have htl : (l.take n).length = n := by simp; omega
  have hdl : (l.drop n).length = l.toArray.size - n := by simp
  have inv0 : HeadInv .any l.toArray n (Array.replicate l.toArray.size false) :=
    ⟨by simp, fun j oj _ hl => (by rw [getD_replicate_false] at hl; cases hl), fun t _ ht => getD_in (by simpa using ht) (getD_replicate_false _ _)⟩
  have H := wpAnyL_lex (md := .any) (g := l.toArray.size - n) hsel hs hc hn (l.take n) 0 _ a (fun j hj => by
    have hj' : j < n := by rw [htl] at hj; exact hj
    simp [hj']) (by simpa using htl) inv0 (by rw [htl]; exact hlex) h
  refine wpIn_region_any hm (any_round hQ hd _ _ _ _ ?_)
  have := wpAny_of_head (Q' := Q) (g := l.toArray.size - n) (fun listed a' hL => by
    have := wpAny_of_seq (md := .any) (Q' := Q) (l.drop n) n listed a' w.drew (fun j => by simp [List.getElem?_drop]) (by rw [hdl]; exact hL.1) hL.2
    rwa [hdl] at this) _ _ _ H
  rw [htl, show n + (l.toArray.size - n) = l.toArray.size by omega] at this
  exact this
end Go.Proofs.YtaelgbbnmjbjiaaGreat
namespace Go.Proofs.YtaelgbbnmjbjiaaGreat
open Go.RowKit Go.Shelf
def undone (listed : Array Bool) : Nat := (listed.toList.filter (fun b => !b)).length
theorem undone_list : ∀ (l : List Bool) (i : Nat), l[i]? = some false → ((l.set i true).filter (fun b => !b)).length + 1 = (l.filter (fun b => !b)).length
  | [], i, h => by simp at h
  | b :: r, 0, h => by
    obtain rfl : b = false := by simpa using h
    simp
  | b :: r, i + 1, h => by
    have := undone_list r i (by simpa using h)
    rw [List.set_cons_succ]
    cases b <;> simp_all <;> omega
theorem undone_set {listed : Array Bool} {i : Nat} (h : listed.getD i true = false) : undone (listed.setIfInBounds i true) + 1 = undone listed := by
  unfold undone
  rw [Array.toList_setIfInBounds]
  refine undone_list _ i ?_
  rw [Array.getElem?_toList]
  rcases Nat.lt_or_ge i listed.size with h' | h'
  · rw [Array.getElem?_eq_getElem h']
    simpa [Array.getD, h'] using h
  · exfalso
    simp [Array.getD, Nat.not_lt.2 h'] at h
theorem undone_zero {listed : Array Bool} (h : undone listed = 0) (i : Nat) : listed.getD i true = true := by
  unfold undone at h
  have h2 := List.length_eq_zero_iff.1 h
  rw [List.filter_eq_nil_iff] at h2
  rcases Nat.lt_or_ge i listed.size with h' | h'
  · have := h2 listed[i] (by simp)
    simpa [Array.getD, h'] using this
  · simp [Array.getD, Nat.not_lt.2 h']
theorem wpAny_inv {P : Program} {ops : Array Oper} {md : Region.Mode} {Q : Exit → Act → World → Prop} (I : Array Bool → Act → World → Prop)
    (hstep : ∀ listed a w, I listed a w → ∀ i ∈ Region.ready md ops listed, wpOp P ops Q i (I (listed.setIfInBounds i true)) a w)
    (hdone : ∀ listed a w, I listed a w → Region.ready md ops listed = [] → Q .normal a w) :
    ∀ (fuel : Nat) (listed : Array Bool) (a : Act) (w : World), undone listed ≤ fuel → I listed a w → wpAny P md ops Q fuel listed a w
  | 0, listed, a, w, hf, h => by
    have hr : Region.ready md ops listed = [] := by
      apply List.eq_nil_iff_forall_not_mem.2
      intro i hi
      have h1 := (mem_ready.1 hi).1
      rw [undone_zero (by omega) i] at h1
      cases h1
    exact ⟨hr, hdone listed a w h hr⟩
  | fuel + 1, listed, a, w, hf, h => by
    refine ⟨fun hr => hdone listed a w h hr, fun i hi => ?_⟩
    have h1 := (mem_ready.1 hi).1
    have h2 := undone_set h1
    exact wpOp_mono (fun a' w' h' => wpAny_inv I hstep hdone fuel _ a' w' (by omega) h') (hstep listed a w h i hi)
theorem wp_region_inv {P : Program} {ops : Array Oper} {Q : Exit → Act → World → Prop} {id : Nat} {a : Act} {w : World} (I0 : Act → Array Bool → Act → World → Prop) (hm : P.follows .mixedOrders = true)
    (hstep : ∀ listed a' w, I0 a listed a' w → ∀ i ∈ Region.ready .any ops listed, wpOp P ops Q i (I0 a (listed.setIfInBounds i true)) a' w)
    (hdone : ∀ listed a' w, I0 a listed a' w → Region.ready .any ops listed = [] → Q .normal a' w)
    (h0 : I0 a (Array.replicate ops.size false) a w.drew) : (Code.region id ops true).wp P Q a w := by
  refine wp_region_any hm (wpAny_inv (I0 a) hstep hdone _ _ _ _ ?_ h0)
  unfold undone
  simp
end Go.Proofs.YtaelgbbnmjbjiaaGreat
namespace Go.Proofs.YtaelgbbnmjbjiaaGreat
open Go.RowKit
def ifV (hb : Nat) : Value := .iface 163 (.pointer (some ⟨hb, 0, none⟩))
def agV (x : Th) : Value := .agg #[.int .i64 (x.wt : Int), .int .i64 (x.num : Int), .slice x.pa x.pn x.pc]
def upd (f : Nat → Bool) (k : Nat) : Nat → Bool := fun i => if i = k then true else f i
theorem flag_set {listed : Array Bool} {k : Nat} (h : listed.getD k true = false) : (fun i => (listed.setIfInBounds k true).getD i false) = upd (fun i => listed.getD i false) k := by
  have hk : k < listed.size := by
    rcases Nat.lt_or_ge k listed.size with h' | h'
    · exact h'
    · simp [Array.getD, Nat.not_lt.2 h'] at h
  funext i
  unfold upd
  by_cases e : i = k
  · subst e; simp [Array.getD, hk]
  · rw [if_neg e]
    simp only [Array.getD_eq_getD_getElem?, Array.getElem?_setIfInBounds, if_neg (fun e' : k = i => e e'.symm)]
structure StR (w0 : World) (hb : Nat) (A : Option Addr) (c n M : Nat) (hs : List Th) (out : List Nat) (f : Nat → Bool) (v54 v55 v56 v57 v58 v59 v8 v9 : Value) (x1 : Th) (l1 : List Th) (x2 : Th) (l3 : List Th) (b8 b9 : Nat) (w : World) : Prop where
  i54 : f 0 = true → v54 = ifV hb
  i57 : f 3 = true → v57 = ifV hb
  d2 : f 2 = true → f 1 = true
  d4 : f 4 = true → f 1 = true
  d5 : f 5 = true → f 4 = true
  d8 : f 8 = true → f 4 = true ∧ f 6 = true ∧ f 7 = true
  d9 : f 9 = true → f 8 = true
  t0 : f 1 = false → TreeR w0 hb A c n (M + 1 + 1) hs [] out w
  p1 : f 1 = true → v55 = thV x1 ∧ (x1 :: l1).Perm hs ∧ (∀ y ∈ l1, leT x1 y)
  a1 : f 2 = true → v56 = agV x1
  t1 : f 1 = true → f 4 = false → TreeR w0 hb A c n (M + 1) l1 [x1] out w
  p2 : f 4 = true → v58 = thV x2 ∧ (x2 :: l3).Perm l1 ∧ (∀ y ∈ l3, leT x2 y)
  a2 : f 5 = true → v59 = agV x2
  t2 : f 4 = true → TreeR w0 hb A c n M l3 [x2, x1] out w
  l8 : f 6 = true → v8 = .pointer (some ⟨b8, 0, none⟩) ∧ LocR w0 hb A b8 (if f 8 = true then vTh x1 else zTh) w
  l9 : f 7 = true → v9 = .pointer (some ⟨b9, 0, none⟩) ∧ LocR w0 hb A b9 (if f 9 = true then vTh x2 else zTh) w
  ne : f 6 = true → f 7 = true → b8 ≠ b9
section
variable {w0 w : World} {hb c n M : Nat} {A : Option Addr} {hs : List Th} {out : List Nat} {f : Nat → Bool} {v54 v55 v56 v57 v58 v59 v8 v9 : Value} {x1 x2 : Th} {l1 l3 : List Th} {b8 b9 : Nat}
theorem upd_same (f : Nat → Bool) (k : Nat) : upd f k k = true := by simp [upd]
theorem upd_ne (f : Nat → Bool) {k i : Nat} (h : i ≠ k) : upd f k i = f i := by simp [upd, h]
theorem StR.op0 (h : StR w0 hb A c n M hs out f v54 v55 v56 v57 v58 v59 v8 v9 x1 l1 x2 l3 b8 b9 w) : StR w0 hb A c n M hs out (upd f 0) (ifV hb) v55 v56 v57 v58 v59 v8 v9 x1 l1 x2 l3 b8 b9 w := by
  constructor <;> simp only [upd_same, upd_ne f (show (1 : Nat) ≠ 0 by decide), upd_ne f (show (2 : Nat) ≠ 0 by decide), upd_ne f (show (3 : Nat) ≠ 0 by decide), upd_ne f (show (4 : Nat) ≠ 0 by decide), upd_ne f (show (5 : Nat) ≠ 0 by decide), upd_ne f (show (6 : Nat) ≠ 0 by decide), upd_ne f (show (7 : Nat) ≠ 0 by decide), upd_ne f (show (8 : Nat) ≠ 0 by decide), upd_ne f (show (9 : Nat) ≠ 0 by decide)]
  · exact fun _ => trivial
  · exact h.i57
  · exact h.d2
  · exact h.d4
  · exact h.d5
  · exact h.d8
  · exact h.d9
  · exact h.t0
  · exact h.p1
  · exact h.a1
  · exact h.t1
  · exact h.p2
  · exact h.a2
  · exact h.t2
  · exact h.l8
  · exact h.l9
  · exact h.ne
theorem StR.op3 (h : StR w0 hb A c n M hs out f v54 v55 v56 v57 v58 v59 v8 v9 x1 l1 x2 l3 b8 b9 w) : StR w0 hb A c n M hs out (upd f 3) v54 v55 v56 (ifV hb) v58 v59 v8 v9 x1 l1 x2 l3 b8 b9 w := by
  constructor <;> simp only [upd_same, upd_ne f (show (0 : Nat) ≠ 3 by decide), upd_ne f (show (1 : Nat) ≠ 3 by decide), upd_ne f (show (2 : Nat) ≠ 3 by decide), upd_ne f (show (4 : Nat) ≠ 3 by decide), upd_ne f (show (5 : Nat) ≠ 3 by decide), upd_ne f (show (6 : Nat) ≠ 3 by decide), upd_ne f (show (7 : Nat) ≠ 3 by decide), upd_ne f (show (8 : Nat) ≠ 3 by decide), upd_ne f (show (9 : Nat) ≠ 3 by decide)]
  · exact h.i54
  · exact fun _ => trivial
  · exact h.d2
  · exact h.d4
  · exact h.d5
  · exact h.d8
  · exact h.d9
  · exact h.t0
  · exact h.p1
  · exact h.a1
  · exact h.t1
  · exact h.p2
  · exact h.a2
  · exact h.t2
  · exact h.l8
  · exact h.l9
  · exact h.ne
theorem StR.op2 (h : StR w0 hb A c n M hs out f v54 v55 v56 v57 v58 v59 v8 v9 x1 l1 x2 l3 b8 b9 w) (h1 : f 1 = true) : StR w0 hb A c n M hs out (upd f 2) v54 v55 (agV x1) v57 v58 v59 v8 v9 x1 l1 x2 l3 b8 b9 w := by
  constructor <;> simp only [upd_same, upd_ne f (show (0 : Nat) ≠ 2 by decide), upd_ne f (show (1 : Nat) ≠ 2 by decide), upd_ne f (show (3 : Nat) ≠ 2 by decide), upd_ne f (show (4 : Nat) ≠ 2 by decide), upd_ne f (show (5 : Nat) ≠ 2 by decide), upd_ne f (show (6 : Nat) ≠ 2 by decide), upd_ne f (show (7 : Nat) ≠ 2 by decide), upd_ne f (show (8 : Nat) ≠ 2 by decide), upd_ne f (show (9 : Nat) ≠ 2 by decide)]
  · exact h.i54
  · exact h.i57
  · exact fun _ => h1
  · exact h.d4
  · exact h.d5
  · exact h.d8
  · exact h.d9
  · exact h.t0
  · exact h.p1
  · exact fun _ => trivial
  · exact h.t1
  · exact h.p2
  · exact h.a2
  · exact h.t2
  · exact h.l8
  · exact h.l9
  · exact h.ne
theorem StR.op5 (h : StR w0 hb A c n M hs out f v54 v55 v56 v57 v58 v59 v8 v9 x1 l1 x2 l3 b8 b9 w) (h4 : f 4 = true) : StR w0 hb A c n M hs out (upd f 5) v54 v55 v56 v57 v58 (agV x2) v8 v9 x1 l1 x2 l3 b8 b9 w := by
  constructor <;> simp only [upd_same, upd_ne f (show (0 : Nat) ≠ 5 by decide), upd_ne f (show (1 : Nat) ≠ 5 by decide), upd_ne f (show (2 : Nat) ≠ 5 by decide), upd_ne f (show (3 : Nat) ≠ 5 by decide), upd_ne f (show (4 : Nat) ≠ 5 by decide), upd_ne f (show (6 : Nat) ≠ 5 by decide), upd_ne f (show (7 : Nat) ≠ 5 by decide), upd_ne f (show (8 : Nat) ≠ 5 by decide), upd_ne f (show (9 : Nat) ≠ 5 by decide)]
  · exact h.i54
  · exact h.i57
  · exact h.d2
  · exact h.d4
  · exact fun _ => h4
  · exact h.d8
  · exact h.d9
  · exact h.t0
  · exact h.p1
  · exact h.a1
  · exact h.t1
  · exact h.p2
  · exact fun _ => trivial
  · exact h.t2
  · exact h.l8
  · exact h.l9
  · exact h.ne
theorem false_of {b : Bool} (h : b = false) (e : b = true) : False := by rw [h] at e; cases e
theorem StR.op1 (h : StR w0 hb A c n M hs out f v54 v55 v56 v57 v58 v59 v8 v9 x1 l1 x2 l3 b8 b9 w) (h1 : f 1 = false) {w' : World} {y1 : Th} {m1 : List Th} (hT : TreeR w0 hb A c n (M + 1) m1 [y1] out w') (hp : (y1 :: m1).Perm hs) (hm : ∀ y ∈ m1, leT y1 y) (ht : Two hb A w w') : StR w0 hb A c n M hs out (upd f 1) v54 (thV y1) v56 v57 v58 v59 v8 v9 y1 m1 x2 l3 b8 b9 w' := by
  have h4 : f 4 = false := by cases e : f 4 with
    | false => rfl
    | true => exact (false_of h1 (h.d4 e)).elim
  have h8 : f 8 = false := by cases e : f 8 with
    | false => rfl
    | true => exact (false_of h4 (h.d8 e).1).elim
  have h9 : f 9 = false := by cases e : f 9 with
    | false => rfl
    | true => exact (false_of h8 (h.d9 e)).elim
  constructor <;> simp only [upd_same, upd_ne f (show (0 : Nat) ≠ 1 by decide), upd_ne f (show (2 : Nat) ≠ 1 by decide), upd_ne f (show (3 : Nat) ≠ 1 by decide), upd_ne f (show (4 : Nat) ≠ 1 by decide), upd_ne f (show (5 : Nat) ≠ 1 by decide), upd_ne f (show (6 : Nat) ≠ 1 by decide), upd_ne f (show (7 : Nat) ≠ 1 by decide), upd_ne f (show (8 : Nat) ≠ 1 by decide), upd_ne f (show (9 : Nat) ≠ 1 by decide)]
  · exact h.i54
  · exact h.i57
  · exact fun _ => trivial
  · exact fun _ => trivial
  · exact h.d5
  · exact h.d8
  · exact h.d9
  · exact fun e => by cases e
  · exact fun _ => ⟨trivial, hp, hm⟩
  · exact fun e => (false_of h1 (h.d2 e)).elim
  · exact fun _ _ => hT
  · exact fun e => (false_of h4 e).elim
  · exact fun e => (false_of h4 (h.d5 e)).elim
  · exact fun e => (false_of h4 e).elim
  · exact fun e => by
      obtain ⟨e1, e2⟩ := h.l8 e
      rw [if_neg (fun e' => false_of h8 e')] at e2 ⊢
      exact ⟨e1, e2.two ht (h.t0 h1)⟩
  · exact fun e => by
      obtain ⟨e1, e2⟩ := h.l9 e
      rw [if_neg (fun e' => false_of h9 e')] at e2 ⊢
      exact ⟨e1, e2.two ht (h.t0 h1)⟩
  · exact h.ne
theorem StR.op4 (h : StR w0 hb A c n M hs out f v54 v55 v56 v57 v58 v59 v8 v9 x1 l1 x2 l3 b8 b9 w) (h1 : f 1 = true) (h4 : f 4 = false) {w' : World} {y2 : Th} {m3 : List Th} (hT : TreeR w0 hb A c n M m3 [y2, x1] out w') (hp : (y2 :: m3).Perm l1) (hm : ∀ y ∈ m3, leT y2 y) (ht : Two hb A w w') : StR w0 hb A c n M hs out (upd f 4) v54 v55 v56 v57 (thV y2) v59 v8 v9 x1 l1 y2 m3 b8 b9 w' := by
  have h8 : f 8 = false := by cases e : f 8 with
    | false => rfl
    | true => exact (false_of h4 (h.d8 e).1).elim
  have h9 : f 9 = false := by cases e : f 9 with
    | false => rfl
    | true => exact (false_of h8 (h.d9 e)).elim
  constructor <;> simp only [upd_same, upd_ne f (show (0 : Nat) ≠ 4 by decide), upd_ne f (show (1 : Nat) ≠ 4 by decide), upd_ne f (show (2 : Nat) ≠ 4 by decide), upd_ne f (show (3 : Nat) ≠ 4 by decide), upd_ne f (show (5 : Nat) ≠ 4 by decide), upd_ne f (show (6 : Nat) ≠ 4 by decide), upd_ne f (show (7 : Nat) ≠ 4 by decide), upd_ne f (show (8 : Nat) ≠ 4 by decide), upd_ne f (show (9 : Nat) ≠ 4 by decide)]
  · exact h.i54
  · exact h.i57
  · exact h.d2
  · exact fun _ => h1
  · exact fun _ => trivial
  · exact fun e => ⟨trivial, (h.d8 e).2⟩
  · exact h.d9
  · exact fun e => (false_of e h1).elim
  · exact h.p1
  · exact h.a1
  · exact fun _ e => by cases e
  · exact fun _ => ⟨trivial, hp, hm⟩
  · exact fun e => (false_of h4 (h.d5 e)).elim
  · exact fun _ => hT
  · exact fun e => by
      obtain ⟨e1, e2⟩ := h.l8 e
      rw [if_neg (fun e' => false_of h8 e')] at e2 ⊢
      exact ⟨e1, e2.two ht (h.t1 h1 h4)⟩
  · exact fun e => by
      obtain ⟨e1, e2⟩ := h.l9 e
      rw [if_neg (fun e' => false_of h9 e')] at e2 ⊢
      exact ⟨e1, e2.two ht (h.t1 h1 h4)⟩
  · exact h.ne
theorem StR.newLoc (h : StR w0 hb A c n M hs out f v54 v55 v56 v57 v58 v59 v8 v9 x1 l1 x2 l3 b8 b9 w) : LocR w0 hb A w.heap.size zTh (w.alloc (.cells zTh 161)) := by
  cases h1 : f 1 with
  | false => exact LocR.new _ (h.t0 h1)
  | true =>
    cases h4 : f 4 with
    | false => exact LocR.new _ (h.t1 h1 h4)
    | true => exact LocR.new _ (h.t2 h4)
theorem StR.op6 (h : StR w0 hb A c n M hs out f v54 v55 v56 v57 v58 v59 v8 v9 x1 l1 x2 l3 b8 b9 w) (h6 : f 6 = false) : StR w0 hb A c n M hs out (upd f 6) v54 v55 v56 v57 v58 v59 (.pointer (some ⟨w.heap.size, 0, none⟩)) v9 x1 l1 x2 l3 w.heap.size b9 (w.alloc (.cells zTh 161)) := by
  have h8 : f 8 = false := by cases e : f 8 with
    | false => rfl
    | true => exact (false_of h6 (h.d8 e).2.1).elim
  have h9 : f 9 = false := by cases e : f 9 with
    | false => rfl
    | true => exact (false_of h8 (h.d9 e)).elim
  constructor <;> simp only [upd_same, upd_ne f (show (0 : Nat) ≠ 6 by decide), upd_ne f (show (1 : Nat) ≠ 6 by decide), upd_ne f (show (2 : Nat) ≠ 6 by decide), upd_ne f (show (3 : Nat) ≠ 6 by decide), upd_ne f (show (4 : Nat) ≠ 6 by decide), upd_ne f (show (5 : Nat) ≠ 6 by decide), upd_ne f (show (7 : Nat) ≠ 6 by decide), upd_ne f (show (8 : Nat) ≠ 6 by decide), upd_ne f (show (9 : Nat) ≠ 6 by decide)]
  · exact h.i54
  · exact h.i57
  · exact h.d2
  · exact h.d4
  · exact h.d5
  · exact fun e => (false_of h8 e).elim
  · exact h.d9
  · exact fun e => (h.t0 e).alloc _
  · exact h.p1
  · exact h.a1
  · exact fun e e' => (h.t1 e e').alloc _
  · exact h.p2
  · exact h.a2
  · exact fun e => (h.t2 e).alloc _
  · exact fun _ => by
      rw [if_neg (fun e' => false_of h8 e')]
      exact ⟨trivial, h.newLoc⟩
  · exact fun e => ⟨(h.l9 e).1, (h.l9 e).2.alloc _⟩
  · exact fun _ e => by
      have := (h.l9 e).2.blk.lt
      omega
theorem StR.op7 (h : StR w0 hb A c n M hs out f v54 v55 v56 v57 v58 v59 v8 v9 x1 l1 x2 l3 b8 b9 w) (h7 : f 7 = false) : StR w0 hb A c n M hs out (upd f 7) v54 v55 v56 v57 v58 v59 v8 (.pointer (some ⟨w.heap.size, 0, none⟩)) x1 l1 x2 l3 b8 w.heap.size (w.alloc (.cells zTh 161)) := by
  have h8 : f 8 = false := by cases e : f 8 with
    | false => rfl
    | true => exact (false_of h7 (h.d8 e).2.2).elim
  have h9 : f 9 = false := by cases e : f 9 with
    | false => rfl
    | true => exact (false_of h8 (h.d9 e)).elim
  constructor <;> simp only [upd_same, upd_ne f (show (0 : Nat) ≠ 7 by decide), upd_ne f (show (1 : Nat) ≠ 7 by decide), upd_ne f (show (2 : Nat) ≠ 7 by decide), upd_ne f (show (3 : Nat) ≠ 7 by decide), upd_ne f (show (4 : Nat) ≠ 7 by decide), upd_ne f (show (5 : Nat) ≠ 7 by decide), upd_ne f (show (6 : Nat) ≠ 7 by decide), upd_ne f (show (8 : Nat) ≠ 7 by decide), upd_ne f (show (9 : Nat) ≠ 7 by decide)]
  · exact h.i54
  · exact h.i57
  · exact h.d2
  · exact h.d4
  · exact h.d5
  · exact fun e => (false_of h8 e).elim
  · exact h.d9
  · exact fun e => (h.t0 e).alloc _
  · exact h.p1
  · exact h.a1
  · exact fun e e' => (h.t1 e e').alloc _
  · exact h.p2
  · exact h.a2
  · exact fun e => (h.t2 e).alloc _
  · exact fun e => ⟨(h.l8 e).1, (h.l8 e).2.alloc _⟩
  · exact fun _ => by
      rw [if_neg (fun e' => false_of h9 e')]
      exact ⟨trivial, h.newLoc⟩
  · exact fun e _ => by
      have := (h.l8 e).2.blk.lt
      omega
theorem StR.op8 (h : StR w0 hb A c n M hs out f v54 v55 v56 v57 v58 v59 v8 v9 x1 l1 x2 l3 b8 b9 w) (h4 : f 4 = true) (h6 : f 6 = true) (h7 : f 7 = true) (h8 : f 8 = false) : StR w0 hb A c n M hs out (upd f 8) v54 v55 v56 v57 v58 v59 v8 v9 x1 l1 x2 l3 b8 b9 (put3 w b8 x1) := by
  have h1 := h.d4 h4
  obtain ⟨e8, k8⟩ := h.l8 h6
  obtain ⟨e9, k9⟩ := h.l9 h7
  have hne := h.ne h6 h7
  have h9 : f 9 = false := by cases e : f 9 with
    | false => rfl
    | true => exact (false_of h8 (h.d9 e)).elim
  rw [if_neg (fun e' => false_of h8 e')] at k8
  have hg := put3_grown w b8 x1
  constructor <;> simp only [upd_same, upd_ne f (show (0 : Nat) ≠ 8 by decide), upd_ne f (show (1 : Nat) ≠ 8 by decide), upd_ne f (show (2 : Nat) ≠ 8 by decide), upd_ne f (show (3 : Nat) ≠ 8 by decide), upd_ne f (show (4 : Nat) ≠ 8 by decide), upd_ne f (show (5 : Nat) ≠ 8 by decide), upd_ne f (show (6 : Nat) ≠ 8 by decide), upd_ne f (show (7 : Nat) ≠ 8 by decide), upd_ne f (show (9 : Nat) ≠ 8 by decide)]
  · exact h.i54
  · exact h.i57
  · exact h.d2
  · exact h.d4
  · exact h.d5
  · exact fun _ => ⟨h4, h6, h7⟩
  · exact fun _ => trivial
  · exact fun e => (false_of e h1).elim
  · exact h.p1
  · exact h.a1
  · exact fun _ e => (false_of e h4).elim
  · exact h.p2
  · exact h.a2
  · exact fun _ => (h.t2 h4).put3 x1 k8
  · exact fun _ => by
      rw [if_pos trivial]
      exact ⟨e8, ⟨put3_blk x1 k8.blk, k8.ne, k8.ge⟩⟩
  · exact fun _ => ⟨e9, ⟨k9.blk.kept hg (fun e => hne (by injection e)), k9.ne, k9.ge⟩⟩
  · exact h.ne
theorem StR.op9 (h : StR w0 hb A c n M hs out f v54 v55 v56 v57 v58 v59 v8 v9 x1 l1 x2 l3 b8 b9 w) (h8 : f 8 = true) (h9 : f 9 = false) : StR w0 hb A c n M hs out (upd f 9) v54 v55 v56 v57 v58 v59 v8 v9 x1 l1 x2 l3 b8 b9 (put3 w b9 x2) := by
  obtain ⟨h4, h6, h7⟩ := h.d8 h8
  have h1 := h.d4 h4
  obtain ⟨e8, k8⟩ := h.l8 h6
  obtain ⟨e9, k9⟩ := h.l9 h7
  have hne := h.ne h6 h7
  rw [if_neg (fun e' => false_of h9 e')] at k9
  have hg := put3_grown w b9 x2
  constructor <;> simp only [upd_same, upd_ne f (show (0 : Nat) ≠ 9 by decide), upd_ne f (show (1 : Nat) ≠ 9 by decide), upd_ne f (show (2 : Nat) ≠ 9 by decide), upd_ne f (show (3 : Nat) ≠ 9 by decide), upd_ne f (show (4 : Nat) ≠ 9 by decide), upd_ne f (show (5 : Nat) ≠ 9 by decide), upd_ne f (show (6 : Nat) ≠ 9 by decide), upd_ne f (show (7 : Nat) ≠ 9 by decide), upd_ne f (show (8 : Nat) ≠ 9 by decide)]
  · exact h.i54
  · exact h.i57
  · exact h.d2
  · exact h.d4
  · exact h.d5
  · exact h.d8
  · exact fun _ => h8
  · exact fun e => (false_of e h1).elim
  · exact h.p1
  · exact h.a1
  · exact fun _ e => (false_of e h4).elim
  · exact h.p2
  · exact h.a2
  · exact fun _ => (h.t2 h4).put3 x2 k9
  · exact fun _ => ⟨e8, ⟨k8.blk.kept hg (fun e => hne (by injection e with e; exact e.symm)), k8.ne, k8.ge⟩⟩
  · exact fun _ => by
      rw [if_pos trivial]
      exact ⟨e9, ⟨put3_blk x2 k9.blk, k9.ne, k9.ge⟩⟩
  · exact h.ne
end
end Go.Proofs.YtaelgbbnmjbjiaaGreat
namespace Go.Proofs.YtaelgbbnmjbjiaaGreat
open Go.RowKit Go.Shelf
def actV (a : Act) (val : Nat → Value) : Act := { a with tmps := a.tmps.mapIdx (fun i _ => val i) }
def updV (val : Nat → Value) (k : Nat) (v : Value) : Nat → Value := fun i => if i = k then v else val i
theorem updV_ne (val : Nat → Value) {k i : Nat} (v : Value) (h : i ≠ k) : updV val k v i = val i := by simp [updV, h]
theorem actV_self (a : Act) : actV a (fun i => a.tmps.getD i undef) = a := by
  have : a.tmps.mapIdx (fun i _ => a.tmps.getD i undef) = a.tmps := by
    apply Array.ext
    · simp
    · intro i h1 h2
      simp [Array.getD, h2]
  unfold actV
  rw [this]
theorem actV_put (a : Act) (val : Nat → Value) (k : Nat) (v : Value) : (actV a val).put (some k) v = actV a (updV val k v) := by
  have key : (a.tmps.mapIdx (fun i _ => val i)).setIfInBounds k v = a.tmps.mapIdx (fun i _ => updV val k v i) := by
    apply Array.ext
    · simp
    · intro i h1 h2
      rw [Array.getElem_mapIdx]
      unfold updV
      by_cases e : i = k
      · subst e
        rw [if_pos rfl, Array.getElem_setIfInBounds]
        · simp
        · simpa using h2
      · have e2 : ¬ k = i := fun e' => e e'.symm
        rw [if_neg e, Array.getElem_setIfInBounds]
        · rw [if_neg e2, Array.getElem_mapIdx]
        · simpa using h2
  show ({ actV a val with tmps := (a.tmps.mapIdx (fun i _ => val i)).setIfInBounds k v } : Act) = _
  rw [key]
  rfl
theorem actV_put_none (a : Act) (val : Nat → Value) (v : Value) : (actV a val).put none v = actV a val := rfl
theorem actV_eval (a : Act) (val : Nat → Value) {k : Nat} (h : k < a.tmps.size) : (actV a val).eval (.tmp k) = val k := by
  unfold actV Act.eval
  simp [Array.getD, h]
theorem wpOp_value {P : Program} {ops : Array Oper} {Q : Exit → Act → World → Prop} {i : Nat} {K : Act → World → Prop} {a : Act} {w w' : World} {o : Oper} {v : Value} (ho : ops[i]? = some o) (hg : o.guard = none)
    (hrun : (execOp a.eval o).run P w = .ok (.value v) w') (hK : K (a.put o.dst v) w') : wpOp P ops Q i K a w := by
  unfold wpOp
  rw [ho]
  simp only
  rw [if_pos (by simp [Region.wanted, hg])]
  left
  unfold Oper.wp
  rw [hrun]
  exact hK
theorem wpOp_skip {P : Program} {ops : Array Oper} {Q : Exit → Act → World → Prop} {i : Nat} {K : Act → World → Prop} {a : Act} {w w' : World} {o : Oper} (ho : ops[i]? = some o) (hg : o.guard = none)
    (hrun : (execOp a.eval o).run P w = .ok .skip w') (hK : K (a.put o.dst undef) w') : wpOp P ops Q i K a w := by
  unfold wpOp
  rw [ho]
  simp only
  rw [if_pos (by simp [Region.wanted, hg])]
  left
  unfold Oper.wp
  rw [hrun]
  exact hK
theorem wpOp_call {P : Program} {ops : Array Oper} {Q : Exit → Act → World → Prop} {i : Nat} {K : Act → World → Prop} {a : Act} {w : World} {o : Oper} {f : FuncId} {args : Array Value} (ho : ops[i]? = some o) (hg : o.guard = none)
    (hrun : (execOp a.eval o).run P w = .ok (.enter f args) w) (hK : Calls P f args w fun e w'' => ∃ v, e = .returned v ∧ K (a.put o.dst v) w'') : wpOp P ops Q i K a w := by
  unfold wpOp
  rw [ho]
  simp only
  rw [if_pos (by simp [Region.wanted, hg])]
  left
  unfold Oper.wp
  rw [hrun]
  refine hK.mono ?_
  rintro e w'' ⟨v, rfl, h⟩
  exact h
end Go.Proofs.YtaelgbbnmjbjiaaGreat
