/-
  Parts of the proofs, in the order in which they build: H4, F1, F2, F3, F4a, F4, F6, Crc, S1, S2.
-/
import Derived.Test.YtaelgbbnmjbjiaaGreatKa
import Derived.Test.YtaelgbbnmjbjiaaGreatShelf0
import Derived.Lib.MakeNoZero
import Derived.Laws.CopyOwn
import Derived.Deep.RegionLaw
set_option linter.unusedSimpArgs false
set_option linter.unusedVariables false
namespace Go.Proofs.YtaelgbbnmjbjiaaGreat
open Go.RowKit
def decF (l cs : List Nat) : Nat → Nat → Nat → Option UInt8
  | 0 => fun _ _ => none
  | k + 1 => fun x y => if 0 < l.getD k 0 ∧ x = l.getD k 0 ∧ y = cs.getD k 0 then some (UInt8.ofNat k) else decF l cs k x y
def symD (F : Nat → Nat → Option UInt8) (l : List UInt8) : Nat → Nat → Nat → Nat → Option (UInt8 × Nat)
  | 0, _, _, _ => none
  | f + 1, a, len, code =>
    if 8 * l.length < a + 1 ∨ len = 11 then none
    else match F (len + 1) (2 * code + bitAt l a) with
      | some b => some (b, a + 1)
      | none => symD F l f (a + 1) (len + 1) (2 * code + bitAt l a)
def decGo (F : Nat → Nat → Option UInt8) (l : List UInt8) : Nat → Nat → List UInt8 → Option (List UInt8 × Nat)
  | 0, a, out => some (out, a)
  | f + 1, a, out => match symD F l 12 a 0 0 with
    | some (b, a') => decGo F l f a' (out ++ [b])
    | none => none
def decNext (F : Nat → Nat → Option UInt8) (l : List UInt8) (r : Nat) (out : List UInt8) : Option (UInt8 × Nat) → Option (List UInt8 × Nat)
  | some (b, a') => decGo F l r a' (out ++ [b])
  | none => none
theorem decGo_succ (F : Nat → Nat → Option UInt8) (l : List UInt8) (r a : Nat) (out : List UInt8) : decGo F l (r + 1) a out = decNext F l r out (symD F l 12 a 0 0) := by
  rw [decGo]; cases symD F l 12 a 0 0 with
  | none => rfl
  | some x => rfl
theorem num1 (l : List UInt8) (a : Nat) : numAt l a 1 = bitAt l a := by simp [numAt]
theorem or_step {code bit nc len : Nat} (hcode : code < 2 ^ len) (hlen : len ≤ 11) (hbit : bit < 2) (hnc : nc = 2 * code + bit) :
    bits .or .i64 (wrap64 ((code : Int) * 2)) (bit : Int) = (nc : Int) ∧ nc < 2 ^ (len + 1) ∧ nc < 5000 := by
  have hp11 : 2 ^ len ≤ 2048 := (Nat.pow_le_pow_right (by omega) hlen : 2 ^ len ≤ 2 ^ 11)
  have h3 : 2 ^ (len + 1) = 2 * 2 ^ len := by rw [Nat.pow_succ]; omega
  rw [h3]
  generalize 2 ^ len = p at *
  refine ⟨?_, by omega, by omega⟩
  have h := or_shl (y := bit) (x := code) (j := 1) (by omega) (by omega)
  rw [show (code : Int) * 2 ^ 1 = (code : Int) * 2 by omega] at h
  have e1 : wrap64 ((code : Int) * 2) = ((2 * code : Nat) : Int) := by
    rw [show (code : Int) * 2 = ((2 * code : Nat) : Int) by omega, wrap64_nat (by omega)]
  rw [e1] at h ⊢
  rw [i64_or_nat _ _ (by omega) (by omega)] at h ⊢
  rw [Nat.or_comm, h, hnc]
  omega
theorem sep_symm {a b : Option Nat} (h : a = none ∨ a ≠ b) : b = none ∨ b ≠ a := by
  rcases h with rfl | h
  · cases b <;> simp
  · exact .inr (Ne.symm h)
def decEnd (l : List UInt8) : Option (List UInt8 × Nat) → Option (List UInt8)
  | none => none
  | some (out, a) => if numAt l a ((8 * l.length - a) % 8) ≠ 0 ∨ 0 < 8 * l.length - (a + (8 * l.length - a) % 8) then none else some out
def decodeL (lens : List Nat) (l : List UInt8) (n : Nat) : Option (List UInt8) :=
  if mayL lens = false then none else decEnd l (decGo (decF lens (codesL lens) 256) l n 0 [])
def decPost (r : Option (List UInt8)) (w : World) (e : Ending) (w' : World) : Prop :=
  Below w.heap.size w w' ∧ match r with
  | none => ∃ E : Int, E ≠ 0 ∧ e = .returned (.tuple #[.slice none 0 0, .int .i64 E])
  | some out => ∃ A' c', e = .returned (.tuple #[.slice A' out.length c', .int .i64 0]) ∧ OwnB w' w.heap.size A' out.length c' out
theorem decPost_bad {r : Option (List UInt8)} {w w' : World} {E : Int} (h : r = none) (hE : E ≠ 0) (hb : Below w.heap.size w w') : decPost r w (.returned (.tuple #[.slice none 0 0, .int .i64 E])) w' := by
  subst h; exact ⟨hb, E, hE, rfl⟩
theorem decPost_ok {r : Option (List UInt8)} {w w' : World} {out : List UInt8} {m co : Nat} {A : Option Addr} (h : r = some out) (hm : out.length = m) (ho : OwnB w' w.heap.size A m co out) (hb : Below w.heap.size w w') :
    decPost r w (.returned (.tuple #[.slice A m co, .int .i64 0])) w' := by
  subst hm; subst h
  exact ⟨hb, A, co, rfl, ho⟩
theorem mayL_facts {l : List Nat} (h : mayL l = true) : 0 < l.length ∧ l.length ≤ 256 ∧ ∀ x ∈ l, x ≤ 11 := by
  unfold mayL at h
  simp only [Bool.and_eq_true, decide_eq_true_eq, List.all_eq_true] at h
  exact ⟨h.1.1.1.1, h.1.1.1.2, h.1.2⟩
theorem int_plain : Tryz.prog.plainKey 3 = true := by kernel_rfl
theorem run_index_int {t : TypeId} {n : Nat} (ht : Tryz.prog.underlying t = some (.array n 3)) {arr : Array Value} {k : Nat} {v : Value} (w : World) (hk : k < n) (hv : arr[k]? = some v) :
    (Instr.index t (.agg arr) (.int .i64 (k : Int))).run Tryz.prog w = .ok v w := by
  obtain ⟨i, hi, -, h1, -⟩ := info_parts elemN.hi
  have hn : (0 ≤ (k : Int) ∧ (k : Int) < (n : Int)) := by omega
  simp [Instr.index, run_underlying ht, asIntOf, hn, sizeOf, typeInfo, hi, h1, run_part_plain w int_plain hv, hk]
theorem cRow_small (l : List Nat) (k B : Nat) (s : List Nat × Nat) (h : ∀ x ∈ s.1, x ≤ B) (h2 : s.2 + l.length ≤ B) : ∀ m, m ≤ l.length → (∀ x ∈ (cRow l k s m).1, x ≤ B)
  | 0, _ => h
  | m + 1, hm => by
    have h3 := cRow_small l k B s h h2 m (by omega)
    have h4 := (cRow_facts l k s m).2
    rw [cRow]; unfold cStep
    split
    · intro x hx
      rcases List.mem_or_eq_of_mem_set hx with hx | rfl
      · exact h3 x hx
      · omega
    · exact h3
theorem cAll_small (l : List Nat) (hl : l.length ≤ 256) : ∀ k, ∀ x ∈ (cAll l k).1, x ≤ 256 * 2 ^ k
  | 0 => fun x hx => by
    have : x = 0 := List.eq_of_mem_replicate hx
    omega
  | k + 1 => by
    have h := cAll_small l hl k
    have h2 := (cAll_facts l hl k).2
    have e : 2 ^ (k + 1) = 2 * 2 ^ k := by rw [Nat.pow_succ]; omega
    have h0 : 0 < 2 ^ k := Nat.two_pow_pos k
    exact cRow_small l (k + 1) (256 * 2 ^ (k + 1)) ((cAll l k).1, 2 * (cAll l k).2) (fun x hx => by have := h x hx; omega) (by show 2 * (cAll l k).2 + l.length ≤ _; omega) l.length (Nat.le_refl _)
theorem codesL_small {l : List Nat} (hl : l.length ≤ 256) {x : Nat} (h : x ∈ codesL l) : x ≤ 524288 := cAll_small l hl 11 x h
theorem decF_hit {l cs : List Nat} {k x c : Nat} (h : l[k]? = some x) (hc : cs[k]? = some c) (h0 : 0 < x) : ∀ p q, (if p = x ∧ q = c then some (UInt8.ofNat k) else decF l cs k p q) = decF l cs (k + 1) p q := by
  intro p q
  have e1 : l.getD k 0 = x := by simp [List.getD, h]
  have e2 : cs.getD k 0 = c := by simp [List.getD, hc]
  rw [decF, e1, e2]
  simp [h0]
theorem decF_miss {l cs : List Nat} {k : Nat} (h : l.getD k 0 = 0) : ∀ p q, decF l cs k p q = decF l cs (k + 1) p q := by
  intro p q
  rw [decF, h]
  simp
set_option maxHeartbeats 2000000 in
set_option maxRecDepth 10000 in
theorem huffDecode (A : Option Addr) (m c : Nat) (lens : List Nat) (A2 : Option Addr) (m2 c2 : Nat) (l : List UInt8) (n : Nat) (w : World) (hl : lens.length = m) (hr : Ns w A lens) (hm : m ≤ 140737488351232) (hb : ∀ x ∈ lens, x ≤ 140737488351232)
    (hl2 : l.length = m2) (hr2 : Bs w A2 l) (hm2 : m2 ≤ 140737488351232) (hn : n ≤ 65536) :
    Calls Tryz.prog 92 #[.slice A m c, .slice A2 m2 c2, .int .i64 (n : Int)] w (decPost (decodeL lens l n) w) := by
  have HMay := Lib.hid (huffMay A m c lens w hl hr hm hb)
  cases hmay : mayL lens with
  | false =>
    rw [hmay] at HMay
    have HD := Lib.hid (by unfold decodeL; rw [if_pos hmay] : decodeL lens l n = none)
    clear hl hr hb hl2 hr2 hmay
    go_enter Tryz.func92, Tryz.ntmps92
    go_wp2_with fail
    refine HMay.out.mono ?_
    rintro e w1 ⟨rfl, rfl⟩
    go_wp2
    go_ret2
    exact decPost_bad HD.out (by omega) (Below.refl _ _)
  | true =>
    rw [hmay] at HMay
    obtain ⟨hf1, hf2, hf3⟩ := mayL_facts hmay
    have HC := Lib.hid (fun w0 hr => codes_any A m c lens w0 hl hr (by omega) hf3)
    have HD := Lib.hid (by unfold decodeL; rw [if_neg (by rw [hmay]; simp)] : decodeL lens l n = decEnd l (decGo (decF lens (codesL lens) 256) l n 0 []))
    have HCL := Lib.hid (by unfold codesL; exact (cAll_facts lens hf2 11).1 : (codesL lens).length = 256)
    have HCS := Lib.hid (fun x h => codesL_small hf2 (x := x) h)
    have HL := Lib.hid hl
    have HR := Lib.hid hr
    have HL2 := Lib.hid hl2
    have HR2 := Lib.hid hr2
    have HB := Lib.hid hf3
    have hm256 : m ≤ 256 := by omega
    clear hl hr hb hl2 hr2 hmay hf1 hf2 hf3
    have hmm := @run_makeMap Tryz.prog
    go_enter Tryz.func92, Tryz.ntmps92
    go_wp2_with fail
    refine HMay.out.mono ?_
    rintro e w1 ⟨rfl, rfl⟩
    have hmap := Lib.hid (Mp.made w1)
    go_wp2_with fail
    refine (HC.out _ (HR.out.later (Below.alloc (Below.refl _ _) (Nat.le_refl _) _))).mono ?_
    rintro e w2 ⟨rfl, hb2⟩
    generalize codesL lens = cs at *
    have HB2 := Lib.hid ((Below.alloc (Below.refl _ _) (Nat.le_refl _) _ : Below w1.heap.size w1 (w1.alloc (.map #[] 0))).trans (hb2.mono (by simp)))
    have HMp := Lib.hid (Mp.kept hmap.out (row := none) (grown_of_below hb2) (by simp))
    clear hb2 hmap HC hmm
    go_wp2
    go_loopg [34] 256 (fun g s34 wr => ∃ k : Nat, k ≤ 256 ∧ 256 - k ≤ g ∧ s34 = .int .i64 k ∧ Mp wr w1.heap.size k (decF lens cs k) ∧ Below w1.heap.size w1 wr)
    case atStart => exact ⟨0, by omega, by omega, rfl, HMp.out, HB2.out⟩
    case round =>
      obtain ⟨k, hk, hg, rfl, hmp, hbel⟩ := hrel
      have HM := Lib.hid hmp
      have HBel := Lib.hid hbel
      clear hmp hbel
      by_cases hlt : k < 256
      · obtain ⟨cv, hcv⟩ := getN (by rw [HCL.out]; exact hlt : k < cs.length)
        have hcell : (List.map natv cs).toArray[k]? = some (.int .i64 (cv : Int)) := by rw [List.getElem?_toArray, List.getElem?_map, hcv]; rfl
        have hix := fun w => run_index_int Tryz.underlying138 w hlt hcell
        generalize (List.map natv cs).toArray = arr at *
        clear hcell
        by_cases hkm : k < m
        · obtain ⟨b, o, x, hA, hx, hc⟩ := HR.out.at_ (by rw [HL.out]; exact hkm : k < lens.length)
          subst hA
          have hlt2 := block_lt hc
          have hc2 : wr.cell? ⟨b, o + k, none⟩ = some (.int .i64 (x : Int)) := by rw [HBel.out.cell (by simpa using hlt2)]; exact hc
          by_cases hx0 : 0 < x
          · have HF := Lib.hid (decF_hit hx hcv hx0)
            have hx11 := HB.out x (List.mem_of_getElem? hx)
            have hcvs := HCS.out cv (List.mem_of_getElem? hcv)
            have hx0' : 0 < (x : Int) := by omega
            clear hc hx hcv hx0
            go_wp2_with (at_mapUpdate; refine wpList_Mp_set rfl rfl _ _ _ rfl w1.heap.size k _ rfl HM.out ?c1 x cv (UInt8.ofNat k) ?c2 ?c3 ?c4 ?c5 ?_)
            case c1 => omega
            case c2 => omega
            case c3 => omega
            case c4 => rfl
            case c5 => exact int_eq (by rw [UInt8.toNat_ofNat']; first | omega | (rw [IntKind.wrap_u8]; omega))
            intro w3 hmp3 hgr3
            have HM3 := Lib.hid (hmp3.ext HF.out)
            have HB3 := Lib.hid (HBel.out.trans (below_grown hgr3 HBel.out.size (fun k hk => by cases hk; exact Nat.le_refl _)))
            clear hmp3 hgr3
            go_wp2
            go_roundg (256 - (k + 1))
            case measure => omega
            case rel => exact ⟨k + 1, by omega, by omega, by go_num, HM3.out, HB3.out⟩
          · have HF := Lib.hid (decF_miss (cs := cs) (by simp [List.getD, hx]; omega : lens.getD k 0 = 0))
            have hx0' : (x : Int) ≤ 0 := by omega
            clear hc hx hcv hx0
            go_wp2
            go_roundg (256 - (k + 1))
            case measure => omega
            case rel => exact ⟨k + 1, by omega, by omega, by go_num, (HM.out.ext HF.out).mono (Nat.le_succ k), HBel.out⟩
        · have HF := Lib.hid (decF_miss (cs := cs) (by simp [List.getD, List.getElem?_eq_none (by rw [HL.out]; omega : lens.length ≤ k)] : lens.getD k 0 = 0))
          clear hcv
          go_wp2
          go_roundg (256 - (k + 1))
          case measure => omega
          case rel => exact ⟨k + 1, by omega, by omega, by go_num, (HM.out.ext HF.out).mono (Nat.le_succ k), HBel.out⟩
      · obtain rfl : k = 256 := by omega
        have HR2' := Lib.hid (HR2.out.later HBel.out)
        have HNR := Lib.hid (fun wq h => newReader A2 m2 c2 l wq HL2.out h (by omega))
        clear hlt hg hk
        generalize decF lens cs 256 = F at *
        go_wp2_with fail
        refine (HNR.out wr HR2'.out).mono ?_
        rintro e w3 ⟨g, Ar, cr, rfl, hg, hAr, hrow, hb1⟩
        have HB3 := Lib.hid (HBel.out.trans (hb1.mono HBel.out.size))
        have HM3 := Lib.hid (HM.out.kept (row := none) (grown_of_below hb1) (by simp))
        have HG := Lib.hid (Nat.le_trans HBel.out.size hg)
        have HROW := Lib.hid hrow
        have HAR := Lib.hid hAr
        clear hb1 hg hrow hAr HNR HR2' HM HBel
        go_wp2
        go_loopg [12] n (fun gg s12 wr => ∃ (a k co : Nat) (Ao : Option Addr) (out : List UInt8), k ≤ n ∧ n - k ≤ gg ∧ s12 = .slice Ao k co ∧ OwnB wr w1.heap.size Ao k co out ∧ (bk Ao = none ∨ bk Ao ≠ bk Ar) ∧
          IsRow wr 156 g l a Ar cr ∧ a ≤ 8 * l.length ∧ Mp wr w1.heap.size 256 F ∧ decodeL lens l n = decEnd l (decGo F l (n - k) a out) ∧ Below w1.heap.size w1 wr)
        case atStart => exact ⟨0, 0, 0, none, [], by omega, by omega, rfl, OwnB.nil _ _, .inl rfl, HROW.out, by omega, HM3.out, HD.out, HB3.out⟩
        case round =>
          obtain ⟨a, k, co, Ao, out, hk, hgg, rfl, hown, hsep, hrow, ha, hmp, hdec, hbel⟩ := hrel
          have HO := Lib.hid hown
          have HS := Lib.hid hsep
          have HRw := Lib.hid hrow
          have HMp := Lib.hid hmp
          have HDc := Lib.hid hdec
          have HBl := Lib.hid hbel
          clear hown hsep hrow hmp hdec hbel
          by_cases hkn : k < n
          · obtain ⟨S, hS⟩ : ∃ S, symD F l 12 a 0 0 = S := ⟨_, rfl⟩
            obtain ⟨r, hr⟩ : ∃ r, n - k = r + 1 := ⟨n - k - 1, by omega⟩
            have HD2 := Lib.hid (by rw [HDc.out, hr, decGo_succ, hS] : decodeL lens l n = decEnd l (decNext F l r out S))
            have HS0 := Lib.hid hS
            have hal : ∀ row, wr.grownBy (wr.alloc (.cells #[.int .i64 0, .int .i64 0] 150)) row := fun row => World.grownBy_alloc _ _ _
            have HO0 := Lib.hid (Own.alloc HO.out (.cells #[.int .i64 0, .int .i64 0] 150))
            have HRw0 := Lib.hid (HRw.out.later ((Below.refl _ _).alloc (Nat.le_refl _) (.cells #[.int .i64 0, .int .i64 0] 150)))
            have HMp0 := Lib.hid (HMp.out.kept (hal none) (by simp))
            have HBl0 := Lib.hid (HBl.out.alloc HBl.out.size (.cells #[.int .i64 0, .int .i64 0] 150))
            have HK0 := Lib.hid (Blk.new wr 150 #[.int .i64 0, .int .i64 0])
            have hkb : ∀ b, bk Ar = some b → b ≠ wr.heap.size := fun b e => by have := (Own.lt HRw.out.own e).2; omega
            have HKB := Lib.hid hkb
            have hgk : g ≠ wr.heap.size := by have := HRw.out.blk.lt; omega
            have hsz : w1.heap.size ≤ wr.heap.size := HBl.out.size
            clear hS hal hkb
            go_wp2
            generalize wr.heap.size = kb at *
            go_loopg [12] 12 (fun gg2 s12 wi => ∃ (a2 len code : Nat), s12 = .slice Ao k co ∧ len ≤ 11 ∧ 11 - len ≤ gg2 ∧ code < 2 ^ len ∧ a2 ≤ 8 * l.length ∧ Blk wi kb 150 #[.int .i64 (len : Int), .int .i64 (code : Int)] ∧ OwnB wi w1.heap.size Ao k co out ∧ 
              IsRow wi 156 g l a2 Ar cr ∧ Mp wi w1.heap.size 256 F ∧ symD F l (12 - len) a2 len code = S ∧ Below w1.heap.size w1 wi)
            case atStart => exact ⟨a, 0, 0, rfl, by omega, by omega, by omega, ha, HK0.out, HO0.out, HRw0.out, HMp0.out, HS0.out, HBl0.out⟩
            case round =>
              obtain ⟨a2, len, code, rfl, hlen, hgg2, hcode, ha2, hblk, hown, hrow, hmp, hsy, hbel⟩ := hrel
              by_cases hb1 : 8 * l.length < a2 + 1
              · have HT := Lib.hid (reader_take_bad g a2 cr 1 l Ar wr hrow (by rw [HL2.out]; omega) (by omega) ha2 hb1)
                have hsn : S = none := by
                  rw [← hsy, show 12 - len = 11 - len + 1 by omega, symD, if_pos (.inl hb1)]
                have HD3 := Lib.hid (HD2.out.trans (by rw [hsn]; rfl) : decodeL lens l n = none)
                have HBi := Lib.hid hbel
                clear hblk hown hrow hmp hsy hbel hb1
                go_wp2_with fail
                refine HT.out.mono ?_
                rintro e w4 ⟨rfl, -, hgr⟩
                go_wp2
                go_ret2
                exact decPost_bad HD3.out (by omega) (HBi.out.trans (below_grown hgr HBi.out.size (fun k hk => by cases hk; exact HG.out)))
              · have HT := Lib.hid (reader_take_ok g a2 cr 1 l Ar wr hrow (by rw [HL2.out]; omega) (by omega) (by omega))
                rw [num1] at HT
                have hbit := bitAt_lt l a2
                have HBi := Lib.hid hbel
                have HSy := Lib.hid hsy
                have HK1 := Lib.hid (fun w' (hg : wr.grownBy w' (some g)) => hblk.kept hg (by simpa using hgk))
                have HO1 := Lib.hid (fun w' (hg : wr.grownBy w' (some g)) => Own.kept hown hg (.inr (Own.ne_blk hown hrow.blk (by decide))))
                have HMp1 := Lib.hid (fun w' (hg : wr.grownBy w' (some g)) => hmp.kept hg (by simpa using hmp.ne_blk hrow.blk))
                have hb1' := Lib.hid hb1
                clear hblk hown hrow hmp hsy hbel hb1
                rw [show 12 - len = 11 - len + 1 by omega, symD] at HSy
                generalize bitAt l a2 = bit at *
                go_wp2_with fail
                refine HT.out.mono ?_
                rintro e w4 ⟨rfl, hrow4, hgr⟩
                have HK4 := Lib.hid (HK1.out w4 hgr)
                have HO4 := Lib.hid (HO1.out w4 hgr)
                have HMp4 := Lib.hid (HMp1.out w4 hgr)
                have HB4 := Lib.hid (HBi.out.trans (below_grown hgr HBi.out.size (fun k hk => by cases hk; exact HG.out)))
                have HR4 := Lib.hid hrow4
                clear hrow4 hgr HT HK1 HO1 HMp1
                have c0 := HK4.out.cell 0
                have c1 := HK4.out.cell 1
                simp only [List.getElem?_toArray, List.getElem?_cons_zero, List.getElem?_cons_succ] at c0 c1
                by_cases h11 : len = 11
                · have hsn : S = none := by
                    rw [← HSy.out, if_pos (.inr h11)]
                  have HD3 := Lib.hid (HD2.out.trans (by rw [hsn]; rfl) : decodeL lens l n = none)
                  have h11' : ((len : Int) == 11) = true := beq_iff_eq.2 (by omega)
                  clear h11
                  go_wp2
                  go_ret2
                  exact decPost_bad HD3.out (by omega) HB4.out
                · have h11' : ((len : Int) == 11) = false := beq_eq_false_iff_ne.2 (by omega)
                  have f0 := HK4.out.frozen 0
                  have f1 := HK4.out.frozen 1
                  rw [if_neg (by intro h; rcases h with h | h; exact hb1'.out h; exact h11 h)] at HSy
                  have hp11 : 2 ^ len ≤ 2048 := (Nat.pow_le_pow_right (by omega) hlen : 2 ^ len ≤ 2 ^ 11)
                  obtain ⟨nc, hnc⟩ : ∃ nc, nc = 2 * code + bit := ⟨_, rfl⟩
                  obtain ⟨E, hncl, hnc40⟩ := or_step hcode hlen hbit hnc
                  rw [← hnc] at HSy
                  have HNC := Lib.hid hncl
                  have h10 : len ≤ 10 := by omega
                  clear h11 hnc hncl hcode hp11
                  have g1 := grown_trans (grown_set w4 ⟨kb, 0, none⟩ (.int .i64 ((len : Int) + 1))) (grown_set (w4.setCell ⟨kb, 0, none⟩ (.int .i64 ((len : Int) + 1))) ⟨kb, 1, none⟩ (.int .i64 (nc : Int)))
                  have HK5 := Lib.hid (show Blk ((w4.setCell ⟨kb, 0, none⟩ (.int .i64 ((len : Int) + 1))).setCell ⟨kb, 1, none⟩ (.int .i64 (nc : Int))) kb 150 #[.int .i64 ((len + 1 : Nat) : Int), .int .i64 (nc : Int)] from (HK4.out.set 0 _).set 1 _)
                  have hKB2 : bk Ar ≠ some kb := fun e => HKB.out kb e rfl
                  have HO5 := Lib.hid (Own.kept HO4.out g1 (.inr (Own.ne_blk HO4.out HK4.out (by decide))))
                  have HMp5 := Lib.hid (HMp4.out.kept g1 (by simpa using HMp4.out.ne_blk HK4.out))
                  have HR5 := Lib.hid (HR4.out.kept g1 (by simpa using fun e => hgk e.symm) (.inr hKB2))
                  have HB5 := Lib.hid (HB4.out.trans (below_grown g1 HB4.out.size (fun j hj => by cases hj; exact hsz)))
                  clear g1 HK4 HO4 HMp4 HR4 HB4
                  cases hF : F (len + 1) nc with
                  | none =>
                    rw [hF] at HSy
                    have HF := Lib.hid hF
                    clear hF
                    go_wp2_with (at_lookup; go_loud (refine wpList_Mp_miss rfl rfl _ _ rfl w1.heap.size 256 F rfl HMp5.out (len + 1) nc ?c1 ?c2 ?c3 HF.out ?_))
                    case c1 => omega
                    case c2 => omega
                    case c3 => rfl
                    clear c0 c1 f0 f1
                    generalize (w4.setCell ⟨kb, 0, none⟩ (.int .i64 ((len : Int) + 1))).setCell ⟨kb, 1, none⟩ (.int .i64 (nc : Int)) = w5 at *
                    intro i
                    go_wp2
                    go_roundg (11 - (len + 1))
                    case measure => omega
                    case rel => exact ⟨a2 + 1, len + 1, nc, rfl, by omega, by omega, HNC.out, by have := hb1'.out; omega, HK5.out, HO5.out, HR5.out, HMp5.out, by rw [show 12 - (len + 1) = 11 - len by omega]; exact HSy.out, HB5.out⟩
                  | some u =>
                    rw [hF] at HSy
                    have HF := Lib.hid hF
                    clear hF
                    go_wp2_with (first | (at_lookup; refine wpList_Mp_hit rfl rfl _ _ rfl w1.heap.size 256 F rfl HMp5.out (len + 1) nc ?c1 ?c2 ?c3 u HF.out ?_) | (at_builtin; refine wpList_append_one rfl _ _ elemB rfl w1.heap.size Ao k co (out.map u8v) ((w4.setCell ⟨kb, 0, none⟩ (.int .i64 ((len : Int) + 1))).setCell ⟨kb, 1, none⟩ (.int .i64 (nc : Int))) (.int .u8 (u.toNat : Int)) rfl rfl HO5.out ?hx rfl ?d1 ?d2 ?d3 ?_))
                    case c1 => omega
                    case c2 => omega
                    case c3 => rfl
                    case hx =>
                      show Value.slice (some ⟨w4.heap.size, 0, none⟩) 1 1 = _
                      simp [World.setCell]
                    case d1 => omega
                    case d2 => omega
                    case d3 => exact HB5.out.size
                    clear c0 c1 f0 f1
                    have hsz5 : ((w4.setCell ⟨kb, 0, none⟩ (.int .i64 ((len : Int) + 1))).setCell ⟨kb, 1, none⟩ (.int .i64 (nc : Int))).heap.size = w4.heap.size := by simp [World.setCell]
                    generalize (w4.setCell ⟨kb, 0, none⟩ (.int .i64 ((len : Int) + 1))).setCell ⟨kb, 1, none⟩ (.int .i64 (nc : Int)) = w5 at *
                    intro A' c' w6 hown6 hb6 hgr6 hat6
                    have HD6 := Lib.hid (by rw [HD2.out, ← HSy.out, decNext, show r = n - (k + 1) by omega] : decodeL lens l n = decEnd l (decGo F l (n - (k + 1)) (a2 + 1) (out ++ [u])))
                    have HO6 := Lib.hid (by unfold OwnB; rw [List.map_append]; exact hown6 : OwnB w6 w1.heap.size A' (k + 1) c' (out ++ [u]))
                    have hArlt : ∀ b, bk Ar = some b → b < w5.heap.size := fun b e => (Own.lt HR5.out.own e).2
                    have HS6 := Lib.hid (by
                      cases hA : bk A' with
                      | none => exact .inl rfl
                      | some q =>
                        rcases hat6 with h | h
                        · rw [← hA, h]; exact HS.out
                        · right; intro e
                          rw [hA] at h
                          have := hArlt q e.symm
                          have h' : w4.heap.size ≤ q := h
                          omega : bk A' = none ∨ bk A' ≠ bk Ar)
                    have HR6 := Lib.hid (HR5.out.kept hgr6 (Own.ne_blk HO5.out HR5.out.blk (by decide)) (sep_symm HS.out))
                    have HMp6 := Lib.hid (HMp5.out.kept hgr6 (HMp5.out.ne_own HO5.out))
                    have HB6 := Lib.hid (HB5.out.trans hb6)
                    have hle := hb1'.out
                    clear hown6 hb6 hgr6 hat6 hArlt
                    go_wp2
                    go_roundg (n - (k + 1))
                    case measure => omega
                    case rel => exact ⟨a2 + 1, k + 1, c', A', out ++ [u], by omega, by omega, rfl, HO6.out, HS6.out, HR6.out, by omega, HMp6.out, HD6.out, HB6.out⟩
          · obtain rfl : k = n := by omega
            have HDc2 := Lib.hid (by rw [HDc.out, Nat.sub_self]; rfl : decodeL lens l k = if numAt l a ((8 * l.length - a) % 8) ≠ 0 ∨ 0 < 8 * l.length - (a + (8 * l.length - a) % 8) then none else some out)
            have hleft : (8 * l.length - a) % 8 < 8 := Nat.mod_lt _ (by omega)
            have ha8 : a + (8 * l.length - a) % 8 ≤ 8 * l.length := by have := Nat.mod_le (8 * l.length - a) 8; omega
            have HLeft := Lib.hid (reader_left g a cr l Ar wr HRw.out (by rw [HL2.out]; omega) ha)
            have HT := Lib.hid (fun q => reader_take_ok g a cr ((8 * l.length - a) % 8) l Ar (wr.drewN q) (HRw.out.later (below_drewN wr q)) (by rw [HL2.out]; omega) (by omega) ha8)
            have HLL := Lib.hid (fun wq h => reader_left g (a + (8 * l.length - a) % 8) cr l Ar wq h (by rw [HL2.out]; omega) ha8)
            have HO2 := Lib.hid (fun w' (hg : wr.grownBy w' (some g)) => Own.kept HO.out hg (.inr (Own.ne_blk HO.out HRw.out.blk (by decide))))
            have HLen := Lib.hid (OwnB.length HO.out)
            generalize hL : 8 * l.length - a = left at *
            have hE : ((left : Int)) % 8 = ((left % 8 : Nat) : Int) := by omega
            generalize left % 8 = q8 at *
            clear hL
            go_wp2_with fail
            refine HLeft.out.mono ?_
            rintro e w4 ⟨rfl, q, rfl⟩
            go_wp2_with fail
            refine (HT.out q).mono ?_
            rintro e w5 ⟨rfl, hrow5, hgr5⟩
            generalize numAt l a q8 = rest at *
            have hgr := grown_trans (grown_below (row := some g) (below_drewN wr q)) hgr5
            have HO5 := Lib.hid (HO2.out w5 hgr)
            have HB5 := Lib.hid (HBl.out.trans (below_grown hgr HBl.out.size (fun k hk => by cases hk; exact HG.out)))
            have HLL5 := Lib.hid (HLL.out w5 hrow5)
            clear hrow5 hgr5 hgr HO2 HT HLL HLeft
            by_cases hrest : rest = 0
            · have hr0 : ((rest : Int) != 0) = false := by rw [hrest]; rfl
              generalize hl5 : 8 * l.length - (a + q8) = left5 at *
              by_cases h5 : 0 < left5
              · have HD5 := Lib.hid (HDc2.out.trans (if_pos (.inr h5)))
                have h5' : 0 < (left5 : Int) := by omega
                clear hl5
                go_wp2_with fail
                refine HLL5.out.mono ?_
                rintro e w6 ⟨rfl, q', rfl⟩
                go_wp2
                go_ret2
                exact decPost_bad HD5.out (by omega) (HB5.out.trans ((below_drewN w5 q').mono HB5.out.size))
              · have HD5 := Lib.hid (HDc2.out.trans (if_neg (by rintro (h | h); exact h hrest; exact h5 h)))
                have h5' : (left5 : Int) ≤ 0 := by omega
                clear hl5
                go_wp2_with fail
                refine HLL5.out.mono ?_
                rintro e w6 ⟨rfl, q', rfl⟩
                go_wp2
                go_ret2
                exact decPost_ok HD5.out HLen.out (Own.later HO5.out (below_drewN w5 q')) (HB5.out.trans ((below_drewN w5 q').mono HB5.out.size))
            · have hr0 : ((rest : Int) != 0) = true := by simpa using hrest
              have HD5 := Lib.hid (HDc2.out.trans (if_pos (.inl hrest)))
              go_wp2
              go_ret2
              exact decPost_bad HD5.out (by omega) HB5.out
end Go.Proofs.YtaelgbbnmjbjiaaGreat
namespace Go.Proofs.YtaelgbbnmjbjiaaGreat
open Go.RowKit
def sumL : List Nat → Nat
  | [] => 0
  | k :: r => k + sumL r
theorem sumL_append (a b : List Nat) : sumL (a ++ b) = sumL a + sumL b := by
  induction a with
  | nil => simp [sumL]
  | cons k r ih => rw [List.cons_append, sumL, sumL, ih]; omega
theorem sumL_step {l : List Nat} {k x : Nat} (h : l[k]? = some x) : sumL (l.take (k + 1)) = sumL (l.take k) + x := by
  rw [take_snocN h, sumL_append]; simp [sumL]
def fmayL (l : List Nat) (lg : Nat) : Bool := decide (0 < l.length) && decide (l.length ≤ 64) && (l.getD (l.length - 1) 0 != 0) && l.all (fun k => decide (k ≤ 2 ^ lg)) && (sumL l == 2 ^ lg)
theorem fmayL_head {l : List Nat} {lg : Nat} (h : l.length = 0 ∨ 64 < l.length ∨ l.getD (l.length - 1) 0 = 0) : fmayL l lg = false := by
  unfold fmayL
  rcases h with h | h | h
  · rw [h]; simp
  · rw [decide_eq_false (by omega : ¬ l.length ≤ 64)]; simp
  · rw [h]; simp
theorem fmayL_big {l : List Nat} {lg k x : Nat} (h : l[k]? = some x) (hx : 2 ^ lg < x) : fmayL l lg = false := by
  have : l.all (fun k => decide (k ≤ 2 ^ lg)) = false := by
    rw [List.all_eq_false]
    exact ⟨x, List.mem_of_getElem? h, by simp; omega⟩
  unfold fmayL
  rw [this]; simp
def SmallB (B : Nat) (l : List Nat) (k : Nat) : Prop := ∀ j x, j < k → l[j]? = some x → x ≤ B
theorem SmallB.step {B : Nat} {l : List Nat} {k x : Nat} (h : SmallB B l k) (hx : l[k]? = some x) (hle : x ≤ B) : SmallB B l (k + 1) := by
  intro j y hj hy
  by_cases e : j = k
  · subst e; rw [hx] at hy; cases hy; exact hle
  · exact h j y (by omega) hy
theorem fmayL_end {l : List Nat} {lg n x : Nat} (hl : l.length = n + 1) (h64 : n + 1 ≤ 64) (hx : l[n]? = some x) (h0 : x ≠ 0) (hs : SmallB (2 ^ lg) l (n + 1)) :
    fmayL l lg = (sumL (l.take (n + 1)) == 2 ^ lg) := by
  have e : l.take (n + 1) = l := List.take_of_length_le (by omega)
  have hall : l.all (fun k => decide (k ≤ 2 ^ lg)) = true := by
    rw [List.all_eq_true]
    intro y hy
    obtain ⟨j, hj, hy'⟩ := List.getElem_of_mem hy
    simp only [decide_eq_true_eq]
    exact hs j y (by omega) (by rw [List.getElem?_eq_getElem hj, hy'])
  have hd : l.getD (l.length - 1) 0 = x := by rw [hl]; simp [List.getD, hx]
  unfold fmayL
  rw [e, hall, hd, hl, decide_eq_true (by omega : 0 < n + 1), decide_eq_true h64]
  have : (x != 0) = true := by simpa using h0
  rw [this]; simp
theorem fmayL_facts {l : List Nat} {lg : Nat} (h : fmayL l lg = true) : 0 < l.length ∧ l.length ≤ 64 ∧ l.getD (l.length - 1) 0 ≠ 0 ∧ (∀ x ∈ l, x ≤ 2 ^ lg) ∧ sumL l = 2 ^ lg := by
  unfold fmayL at h
  simp only [Bool.and_eq_true, decide_eq_true_eq, List.all_eq_true, bne_iff_ne, beq_iff_eq] at h
  exact ⟨h.1.1.1.1, h.1.1.1.2, h.1.1.2, h.1.2, h.2⟩
set_option maxHeartbeats 1000000 in
set_option maxRecDepth 10000 in
theorem fseMay (A : Option Addr) (n c : Nat) (l : List Nat) (lg : Nat) (w : World) (hl : l.length = n) (hr : Ns w A l) (hn : n ≤ 140737488351232) (hb : ∀ x ∈ l, x ≤ 140737488351232) (hg5 : 5 ≤ lg) (hg9 : lg ≤ 9) :
    Calls Tryz.prog 70 #[.slice A n c, .int .i64 (lg : Int)] w fun e w' => e = .returned (.bool (fmayL l lg)) ∧ w' = w := by
  by_cases h0 : n = 0
  · subst h0
    have HM := Lib.hid (fmayL_head (lg := lg) (.inl hl))
    clear hl hr hb
    go_enter Tryz.func70, Tryz.ntmps70
    go_wp2
    go_ret
    exact ⟨ret_bool HM.out.symm, rfl⟩
  · have hne : ((n : Int) == 0) = false := beq_eq_false_iff_ne.2 (by omega)
    by_cases h256 : 64 < n
    · have HM := Lib.hid (fmayL_head (lg := lg) (.inr (.inl (by omega : 64 < l.length))))
      clear hl hr hb
      go_enter Tryz.func70, Tryz.ntmps70
      go_wp2
      go_ret
      exact ⟨ret_bool HM.out.symm, rfl⟩
    · obtain ⟨N, rfl⟩ : ∃ N, n = N + 1 := ⟨n - 1, by omega⟩
      have hne : (((N : Int) + 1) == 0) = false := beq_eq_false_iff_ne.2 (by omega)
      have h256' : (N : Int) + 1 ≤ 64 := by omega
      obtain ⟨b, o, x, rfl, hx, hc⟩ := hr.at_ (by omega : N < l.length)
      have hp9 : 2 ^ lg ≤ 512 := (Nat.pow_le_pow_right (by omega) hg9 : 2 ^ lg ≤ 2 ^ 9)
      by_cases hx0 : x = 0
      · have HM := Lib.hid (fmayL_head (.inr (.inr (by rw [hl]; simp [List.getD, hx, hx0]))) : fmayL l lg = false)
        have hx0' : ((x : Int) == 0) = true := by rw [hx0]; rfl
        clear hl hr hb hx hx0
        go_enter Tryz.func70, Tryz.ntmps70
        go_wp2
        go_ret
        exact ⟨ret_bool HM.out.symm, rfl⟩
      · have hx0' : ((x : Int) == 0) = false := beq_eq_false_iff_ne.2 (by omega)
        have HL := Lib.hid hl
        have HR := Lib.hid hr
        have HB := Lib.hid hb
        have HX := Lib.hid hx
        have HX0 := Lib.hid hx0
        have E : wrap64 ((2 : Int) ^ lg) = ((2 ^ lg : Nat) : Int) := by
          rw [show ((2 : Int) ^ lg) = ((2 ^ lg : Nat) : Int) from by simp, wrap64_nat (by omega)]
        have HM := Lib.hid (fun h => fmayL_end (lg := lg) hl (by omega) hx hx0 h)
        have HBig := Lib.hid (fun k x (h : l[k]? = some x) => fmayL_big (lg := lg) h)
        clear hl hr hb hx hx0
        generalize 2 ^ lg = pw at *
        go_enter Tryz.func70, Tryz.ntmps70
        go_wp2
        go_loopg [5, 35] (N + 1) (fun g s5 s35 wr => ∃ k : Nat, k ≤ N + 1 ∧ N + 1 - k ≤ g ∧ s5 = .int .i64 (sumL (l.take k) : Nat) ∧ s35 = .int .i64 k ∧ SmallB pw l k ∧ sumL (l.take k) ≤ 512 * k ∧ wr = w)
        case atStart => exact ⟨0, Nat.zero_le _, by omega, rfl, rfl, fun j y hj => absurd hj (Nat.not_lt_zero _), by simp [sumL], rfl⟩
        case round =>
          obtain ⟨k, hk, hg, rfl, rfl, hsm, hsl, rfl⟩ := hrel
          by_cases hlt : k < N + 1
          · obtain ⟨b', o', y, e', hy, hcy⟩ := HR.out.at_ (by rw [HL.out]; exact hlt : k < l.length)
            cases e'
            have hk1 := sumL_step hy
            by_cases h11 : pw < y
            · have HM2 := Lib.hid (HBig.out k y hy h11)
              have h11' : (pw : Int) < y := by omega
              clear hy hk1
              generalize sumL (l.take k) = s at *
              go_wp2
              go_ret
              exact ⟨ret_bool HM2.out.symm, rfl⟩
            · have h11' : (y : Int) ≤ pw := by omega
              have K1 := Lib.hid hk1
              have Hs := Lib.hid (hsm.step hy (by omega))
              clear hy hk1 hsm
              generalize sumL (l.take k) = s at *
              go_wp2
              go_roundg (N + 1 - (k + 1))
              case measure => omega
              case rel => exact ⟨k + 1, by omega, by omega, int_eq (by rw [K1.out]; omega), by go_num, Hs.out, by rw [K1.out]; omega, rfl⟩
          · obtain rfl : k = N + 1 := by omega
            have HM2 := Lib.hid (HM.out hsm)
            clear hsm
            generalize sumL (l.take (N + 1)) = s at *
            have F1 : ((s : Int) == (pw : Int)) = (s == pw) := by rw [Bool.eq_iff_iff, beq_iff_eq, beq_iff_eq]; omega
            generalize (s == pw) = b1 at *
            cases b1
            all_goals
              go_wp2
              go_ret
              exact ⟨ret_bool (by rw [HM2.out]), rfl⟩
end Go.Proofs.YtaelgbbnmjbjiaaGreat
namespace Go.Proofs.YtaelgbbnmjbjiaaGreat
open Go.RowKit
theorem results_tmp4 {fn : Func} {t u v x : Tmp} (h : fn.results = #[.tmp t, .tmp u, .tmp v, .tmp x]) (tmps : Array Value) (P : Program) (w : World) :
    (results fn tmps).run P w = .ok (.tuple #[tmps.getD t undef, tmps.getD u undef, tmps.getD v undef, tmps.getD x undef]) w := by
  simp [results, h]
theorem wpList_slice_lo {P : Program} {w : World} {ops : Array Oper} {rest : List Oper} {o : Oper} {a : Act} {Q : Exit → Act → World → Prop} (hgd : o.guard = none) (s lo : Operand) {t e : TypeId} {z : Value} {bytes : Nat} (E : Elem P t e z bytes)
    (ho : o.op = .slice t s (some lo) none none) (A : Option Addr) (n c k : Nat) (hs : a.eval s = .slice A n c) (hlo : a.eval lo = .int .i64 (k : Int)) (hk : k ≤ n)
    (h : wpList P ops Q rest (a.put o.dst (.slice (cutA A c k) (n - k) (c - k))) w) : wpList P ops Q (o :: rest) a w := by
  refine wpList_plain hgd fun K hK => ?_
  obtain ⟨i, hi, -, h1, -⟩ := info_parts E.hi
  have he : P.elem t = e := by simp [Program.elem, E.ht]
  have hrun : (Instr.sliceAt t (.slice A n c) (some (.int .i64 (k : Int))) none none).run P w = .ok (.slice (cutA A c k) (n - k) (c - k)) w := by
    have ht' : P.underlying t = some (.slice (P.elem t)) := by rw [he]; exact E.ht
    rw [run_sliceAt_slice w t _ _ _ _ ht', run_slice_l w t A n c ht' .i64 (k : Int) (by omega) (by omega), he]
    simp [sizeOf, typeInfo, hi, h1, sliced, cutA, Result.andThen]
  unfold Oper.wp execOp
  simp only [ho, hs, hlo, hrun, Option.map_some, Option.map_none, Sem.run_bind, Sem.run_pure, Result.andThen_ok]
  exact hK _ _ h
def getGo (l : List UInt8) : Nat → Nat → List Nat → Option (List Nat × Nat)
  | 0, at_, sh => some (sh, at_)
  | r + 1, at_, sh => match numGo (l.drop at_) 0 0 with
    | none => none
    | some (x, k) => getGo l r (at_ + k) (sh ++ [x])
def getEnd (lg : Nat) : Option (List Nat × Nat) → Option (List Nat × Nat × Nat)
  | none => none
  | some (sh, at_) => if fmayL sh lg then some (sh, lg, at_) else none
def getMid (l : List UInt8) (lg : Nat) : Option (Nat × Nat) → Option (List Nat × Nat × Nat)
  | none => none
  | some (n, k) => if lg < 5 ∨ 9 < lg ∨ 64 < n then none else getEnd lg (getGo l n (1 + k) [])
def shareL (l : List UInt8) : Option (List Nat × Nat × Nat) :=
  match l with
  | [] => none
  | b :: r => getMid (b :: r) b.toNat (numGo r 0 0)
theorem shareL_nil : shareL [] = none := rfl
theorem shareL_cons (b : UInt8) (r : List UInt8) : shareL (b :: r) = getMid (b :: r) b.toNat (numGo r 0 0) := rfl
def sharePost (r : Option (List Nat × Nat × Nat)) (w : World) (e : Ending) (w' : World) : Prop :=
  Below w.heap.size w w' ∧ match r with
  | none => ∃ E : Int, E ≠ 0 ∧ e = .returned (.tuple #[.slice none 0 0, .int .i64 0, .int .i64 0, .int .i64 E])
  | some (sh, lg, k) => ∃ A' c', e = .returned (.tuple #[.slice A' sh.length c', .int .i64 (lg : Int), .int .i64 (k : Int), .int .i64 0]) ∧ OwnN w' w.heap.size A' sh.length c' sh
theorem sharePost_bad {r : Option (List Nat × Nat × Nat)} {w w' : World} {E : Int} (h : r = none) (hE : E ≠ 0) (hb : Below w.heap.size w w') : sharePost r w (.returned (.tuple #[.slice none 0 0, .int .i64 0, .int .i64 0, .int .i64 E])) w' := by
  subst h; exact ⟨hb, E, hE, rfl⟩
theorem sharePost_ok {r : Option (List Nat × Nat × Nat)} {w w' : World} {sh : List Nat} {lg k m co : Nat} {A : Option Addr} (h : r = some (sh, lg, k)) (hm : sh.length = m) (ho : OwnN w' w.heap.size A m co sh) (hb : Below w.heap.size w w') :
    sharePost r w (.returned (.tuple #[.slice A m co, .int .i64 (lg : Int), .int .i64 (k : Int), .int .i64 0])) w' := by
  subst hm; subst h
  exact ⟨hb, A, co, rfl, ho⟩
theorem snocB {B : Nat} {out : List Nat} {x : Nat} (h : ∀ y ∈ out, y ≤ B) (hx : x ≤ B) : ∀ y ∈ out ++ [x], y ≤ B := by
  intro y hy
  rcases List.mem_append.1 hy with h1 | h1
  · exact h y h1
  · rw [List.mem_singleton.1 h1]; exact hx
set_option maxHeartbeats 2000000 in
set_option maxRecDepth 10000 in
theorem fseGetShare (A : Option Addr) (n c : Nat) (l : List UInt8) (w : World) (hl : l.length = n) (hr : Bs w A l) (hn : n ≤ 140737488351232) (hc : n ≤ c) :
    Calls Tryz.prog 112 #[.slice A n c] w (sharePost (shareL l) w) := by
  obtain ⟨R, hR⟩ : ∃ R, shareL l = R := ⟨_, rfl⟩
  rw [hR]
  cases l with
  | nil =>
    obtain rfl : n = 0 := hl.symm
    have HS := Lib.hid (hR.symm.trans shareL_nil)
    clear hR
    clear hr hl
    go_enter Tryz.func112, Tryz.ntmps112
    go_wp2
    (try simp only [Exit.inBlock, Exit.then]); refine bodyPost_ret (results_tmp4 rfl _ _ _) rfl ?_
    exact sharePost_bad HS.out (by omega) (Below.refl _ _)
  | cons x0 r0 =>
    have hn0 : 0 < n := by rw [← hl]; simp
    have hne : ((n : Int) == 0) = false := beq_eq_false_iff_ne.2 (by omega)
    obtain ⟨b, o, x, rfl, hx, hcell⟩ := hr.at_ (k := 0) (by simp)
    obtain rfl : x0 = x := by simpa using hx
    have hx256 := x0.toNat_lt
    have HN1 := Lib.hid (num_any (cutA (some ⟨b, o, none⟩) c 1) (n - 1) (c - 1) r0 w (by rw [← hl]; simp) (Bs.cut (n := 1) hr (by simp) (by omega)) (by omega))
    have HSh := Lib.hid (hR.symm.trans (shareL_cons x0 r0))
    clear hR
    rw [Nat.add_zero] at hcell
    cases hg : numGo r0 0 0 with
    | none =>
      rw [hg] at HN1 HSh
      simp only [numV] at HN1
      have HS := Lib.hid (HSh.out.trans rfl : R = none)
      clear hg HSh hl hr hx
      go_enter Tryz.func112, Tryz.ntmps112
      go_wp2_with (refine wpList_slice_lo rfl _ _ elemB rfl (some ⟨b, o, none⟩) n c 1 rfl rfl ?_ ?_; omega)
      refine HN1.out.mono ?_
      rintro e w1 ⟨rfl, rfl⟩
      go_wp2
      (try simp only [Exit.inBlock, Exit.then]); refine bodyPost_ret (results_tmp4 rfl _ _ _) rfl ?_
      exact sharePost_bad HS.out (by omega) (Below.refl _ _)
    | some nk =>
      obtain ⟨m, k⟩ := nk
      rw [hg] at HN1 HSh
      simp only [numV] at HN1
      have hk5 := numGo_le r0 0 0 m k hg
      rw [Nat.zero_add] at hk5
      have hrl : r0.length + 1 = n := by rw [← hl]; simp
      by_cases hbad : x0.toNat < 5 ∨ 9 < x0.toNat ∨ 64 < m
      · have HS := Lib.hid (HSh.out.trans (if_pos hbad) : R = none)
        have hbad' : (x0.toNat : Int) < 5 ∨ 9 < (x0.toNat : Int) ∨ 64 < (m : Int) := by omega
        clear hg HSh hl hr hx hbad
        go_enter Tryz.func112, Tryz.ntmps112
        go_wp2_with (refine wpList_slice_lo rfl _ _ elemB rfl (some ⟨b, o, none⟩) n c 1 rfl rfl ?_ ?_; omega)
        refine HN1.out.mono ?_
        rintro e w1 ⟨rfl, rfl⟩
        go_wp2
        all_goals
          (try simp only [Exit.inBlock, Exit.then]); refine bodyPost_ret (results_tmp4 rfl _ _ _) rfl ?_
          exact sharePost_bad HS.out (by omega) (Below.refl _ _)
      · have HS := Lib.hid (HSh.out.trans (if_neg hbad) : R = getEnd x0.toNat (getGo (x0 :: r0) m (1 + k) []))
        have hbad1 : 5 ≤ (x0.toNat : Int) := by omega
        have hbad2 : (x0.toNat : Int) ≤ 9 := by omega
        have hbad3 : (m : Int) ≤ 64 := by omega
        have HR := Lib.hid hr
        have HL := Lib.hid hl
        generalize x0 :: r0 = L at *
        clear hg HSh hl hr hx hbad
        go_enter Tryz.func112, Tryz.ntmps112
        go_wp2_with (refine wpList_slice_lo rfl _ _ elemB rfl (some ⟨b, o, none⟩) n c 1 rfl rfl ?_ ?_; omega)
        refine HN1.out.mono ?_
        rintro e w1 ⟨rfl, rfl⟩
        go_wp2
        go_loopg [7, 11, 49] m (fun gg s7 s11 s49 wr => ∃ (i at_ co : Nat) (Ao : Option Addr) (sh : List Nat), i ≤ m ∧ m - i ≤ gg ∧ s7 = .int .i64 (at_ : Int) ∧ s11 = .slice Ao i co ∧ s49 = .int .i64 (i : Int) ∧ at_ ≤ n ∧ OwnN wr w.heap.size Ao i co sh ∧ (∀ y ∈ sh, y ≤ 4294967295) ∧
          R = getEnd x0.toNat (getGo L (m - i) at_ sh) ∧ Below w.heap.size w wr)
        case atStart => exact ⟨0, 1 + k, 0, none, [], by omega, by omega, by go_num, rfl, rfl, by omega, OwnN.nil _ _, by simp, HS.out, Below.refl _ _⟩
        case round =>
          obtain ⟨i, at_, co, Ao, sh, hi, hgg, rfl, rfl, rfl, hat, hown, hB, hS, hbel⟩ := hrel
          have HO := Lib.hid hown
          have HBs := Lib.hid hB
          have HBl := Lib.hid hbel
          have HRr := Lib.hid (Bs.cut (n := at_) (HR.out.later hbel) (by rw [HL.out]; exact hat) (by rw [HL.out]; exact hc))
          by_cases him : i < m
          · obtain ⟨r, hr⟩ : ∃ r, m - i = r + 1 := ⟨m - i - 1, by omega⟩
            rw [hr, getGo] at hS
            have HNx := Lib.hid (num_any (cutA (some ⟨b, o, none⟩) c at_) (n - at_) (c - at_) (L.drop at_) wr (by rw [List.length_drop, HL.out]) HRr.out (by omega))
            cases hg : numGo (L.drop at_) 0 0 with
            | none =>
              rw [hg] at HNx hS
              simp only [numV] at HNx
              have HS2 := Lib.hid (hS.trans rfl : R = none)
              clear hg hS hown hB hbel hr
              go_wp2_with (refine wpList_slice_lo rfl _ _ elemB rfl (some ⟨b, o, none⟩) n c at_ rfl rfl ?_ ?_; omega)
              refine HNx.out.mono ?_
              rintro e w2 ⟨rfl, rfl⟩
              go_wp2
              (try simp only [Exit.inBlock, Exit.then]); refine bodyPost_ret (results_tmp4 rfl _ _ _) rfl ?_
              exact sharePost_bad HS2.out (by omega) HBl.out
            | some xk =>
              obtain ⟨x, k2⟩ := xk
              rw [hg] at HNx hS
              simp only [numV] at HNx
              have hk6 := numGo_le _ 0 0 x k2 hg
              rw [List.length_drop, HL.out] at hk6
              have HS2 := Lib.hid (hS : R = getEnd x0.toNat (getGo L r (at_ + k2) (sh ++ [x])))
              clear hg hS hown hB hbel
              go_wp2_with (refine wpList_slice_lo rfl _ _ elemB rfl (some ⟨b, o, none⟩) n c at_ rfl rfl ?_ ?_; omega)
              refine HNx.out.mono ?_
              rintro e w2 ⟨rfl, rfl⟩
              go_wp2_with (at_builtin; refine wpList_append_one rfl _ _ elemN rfl w.heap.size Ao i co (sh.map natv) wr (.int .i64 (x : Int)) rfl rfl HO.out rfl rfl ?d1 ?d2 ?d3 ?_)
              case d1 => omega
              case d2 => omega
              case d3 => exact HBl.out.size
              intro A' c' w6 hown6 hb6 hgr6 _
              have HO6 := Lib.hid (ownN_snoc hown6)
              have HB6 := Lib.hid (HBl.out.trans hb6)
              clear hown6 hb6 hgr6
              go_wp2
              go_roundg (m - (i + 1))
              case measure => omega
              case rel => exact ⟨i + 1, at_ + k2, c', A', sh ++ [x], by omega, by omega, by go_num, rfl, by go_num, by omega, HO6.out, snocB HBs.out (by omega), by rw [show m - (i + 1) = r by omega]; exact HS2.out, HB6.out⟩
          · obtain rfl : i = m := by omega
            have HLen := Lib.hid (OwnN.length hown)
            have HMay := Lib.hid (fseMay Ao i co sh x0.toNat wr HLen.out (OwnN.ns hown) (by omega) (fun y hy => by have := hB y hy; omega) (by omega) (by omega))
            have HS2 := Lib.hid (hS.trans (by rw [Nat.sub_self]; rfl) : R = if fmayL sh x0.toNat then some (sh, x0.toNat, at_) else none)
            clear hS hown hB hbel
            cases hm : fmayL sh x0.toNat with
            | false =>
              rw [hm] at HMay HS2
              go_wp2_with fail
              refine HMay.out.mono ?_
              rintro e w2 ⟨rfl, rfl⟩
              go_wp2
              (try simp only [Exit.inBlock, Exit.then]); refine bodyPost_ret (results_tmp4 rfl _ _ _) rfl ?_
              exact sharePost_bad (HS2.out.trans rfl) (by omega) HBl.out
            | true =>
              rw [hm] at HMay HS2
              go_wp2_with fail
              refine HMay.out.mono ?_
              rintro e w2 ⟨rfl, rfl⟩
              go_wp2
              (try simp only [Exit.inBlock, Exit.then]); refine bodyPost_ret (results_tmp4 rfl _ _ _) rfl ?_
              exact sharePost_ok (HS2.out.trans rfl) HLen.out HO.out HBl.out
end Go.Proofs.YtaelgbbnmjbjiaaGreat
namespace Go.Proofs.YtaelgbbnmjbjiaaGreat
open Go.RowKit
def Cells (w : World) (g : Nat) (t : TypeId) (n : Nat) (F : Nat → Value) : Prop := ∃ cs, Blk w g t cs ∧ cs.size = n ∧ ∀ i, i < n → cs[i]? = some (F i)
theorem Cells.cell {w : World} {g n : Nat} {t : TypeId} {F : Nat → Value} (h : Cells w g t n F) {i : Nat} (hi : i < n) : w.cell? ⟨g, i, none⟩ = some (F i) := by
  obtain ⟨cs, h1, -, h3⟩ := h
  rw [h1.cell, h3 i hi]
theorem Cells.frozen {w : World} {g n : Nat} {t : TypeId} {F : Nat → Value} (h : Cells w g t n F) (i : Nat) : w.frozen? ⟨g, i, none⟩ = false := by
  obtain ⟨cs, h1, -⟩ := h
  exact h1.frozen i
theorem Cells.lt {w : World} {g n : Nat} {t : TypeId} {F : Nat → Value} (h : Cells w g t n F) : g < w.heap.size := by
  obtain ⟨cs, h1, -⟩ := h
  exact h1.lt
theorem Cells.kept {w w' : World} {row : Option Nat} {g n : Nat} {t : TypeId} {F : Nat → Value} (h : Cells w g t n F) (hg : w.grownBy w' row) (hne : row ≠ some g) : Cells w' g t n F := by
  obtain ⟨cs, h1, h2⟩ := h
  exact ⟨cs, h1.kept hg hne, h2⟩
theorem Cells.later {w w' : World} {g n : Nat} {t : TypeId} {F : Nat → Value} (h : Cells w g t n F) (hb : Below w.heap.size w w') : Cells w' g t n F := by
  obtain ⟨cs, h1, h2⟩ := h
  exact ⟨cs, h1.later hb, h2⟩
theorem Cells.ext {w : World} {g n : Nat} {t : TypeId} {F F' : Nat → Value} (h : Cells w g t n F) (e : ∀ i, i < n → F i = F' i) : Cells w g t n F' := by
  obtain ⟨cs, h1, h2, h3⟩ := h
  exact ⟨cs, h1, h2, fun i hi => by rw [h3 i hi, e i hi]⟩
theorem Cells.set {w : World} {g n : Nat} {t : TypeId} {F : Nat → Value} (h : Cells w g t n F) (i : Nat) (v : Value) : Cells (w.setCell ⟨g, i, none⟩ v) g t n (fun j => if j = i then v else F j) := by
  obtain ⟨cs, h1, h2, h3⟩ := h
  refine ⟨_, h1.set i v, by simpa using h2, fun j hj => ?_⟩
  rw [Array.getElem?_setIfInBounds]
  by_cases hij : i = j
  · subst hij
    rw [if_pos rfl, if_pos (by omega)]
    simp
  · rw [if_neg hij, h3 j hj]
    have : ¬ j = i := fun e => hij e.symm
    simp [this]
theorem Cells.set_other {w : World} {g n : Nat} {t : TypeId} {F : Nat → Value} (h : Cells w g t n F) {i j : Nat} (hij : i ≠ j) (hj : j < n) (v : Value) : (w.setCell ⟨g, i, none⟩ v).cell? ⟨g, j, none⟩ = w.cell? ⟨g, j, none⟩ := by
  rw [(h.set i v).cell hj, h.cell hj]
  have : ¬ j = i := fun e => hij e.symm
  simp [this]
theorem Cells.new (w : World) (t : TypeId) (cs : Array Value) {n : Nat} {F : Nat → Value} (h2 : cs.size = n) (h3 : ∀ i, i < n → cs[i]? = some (F i)) : Cells (w.alloc (.cells cs t)) w.heap.size t n F := ⟨cs, Blk.new w t cs, h2, h3⟩
theorem Cells.ne_own {w : World} {base m c g n : Nat} {e t : TypeId} {A : Option Addr} {xs : List Value} {F : Nat → Value} (h : Cells w g t n F) (ho : Own w base e A m c xs) (hne : e ≠ t) : bk A ≠ some g := by
  obtain ⟨cs, h1, -⟩ := h
  exact Own.ne_blk ho h1 hne
theorem Cells.ne_blk {w : World} {g g' n : Nat} {t t' : TypeId} {cs : Array Value} {F : Nat → Value} (h : Cells w g t n F) (ho : Blk w g' t' cs) (hne : t ≠ t') : g ≠ g' := by
  obtain ⟨cs', h1, -⟩ := h
  exact Blk.ne h1 ho hne
def symL : List Nat → Nat → List Nat
  | [], _ => []
  | n :: r, s => List.replicate n s ++ symL r (s + 1)
theorem symL_len : ∀ (l : List Nat) (s : Nat), (symL l s).length = sumL l
  | [], _ => rfl
  | n :: r, s => by rw [symL, List.length_append, List.length_replicate, symL_len r, sumL]
theorem symL_at : ∀ (l : List Nat) (o s n i : Nat), l[s]? = some n → i < n → (symL l o)[sumL (l.take s) + i]? = some (o + s)
  | [], _, _, _, _, h, _ => by simp at h
  | m :: r, o, 0, n, i, h, hi => by
    obtain rfl : m = n := by simpa using h
    rw [symL, List.take_zero, sumL, Nat.zero_add, List.getElem?_append_left (by simpa using hi)]
    simp [hi]
  | m :: r, o, s + 1, n, i, h, hi => by
    have := symL_at r (o + 1) s n i (by simpa using h) hi
    rw [symL, List.take_succ_cons, sumL, List.getElem?_append_right (by simp; omega), List.length_replicate]
    rw [show m + sumL (r.take s) + i - m = sumL (r.take s) + i by omega, this]
    congr 1; omega
theorem symL_mem : ∀ (l : List Nat) (o x : Nat), x ∈ symL l o → o ≤ x ∧ x < o + l.length ∧ ∃ n, l[x - o]? = some n ∧ 0 < n
  | [], _, _, h => by simp [symL] at h
  | m :: r, o, x, h => by
    rw [symL] at h
    rcases List.mem_append.1 h with h | h
    · have := List.mem_replicate.1 h
      obtain ⟨h0, rfl⟩ := this
      exact ⟨Nat.le_refl _, by simp, m, by simp, by omega⟩
    · obtain ⟨h1, h2, n, h3, h4⟩ := symL_mem r (o + 1) x h
      refine ⟨by omega, by rw [List.length_cons]; omega, n, ?_, h4⟩
      rw [show x - o = (x - (o + 1)) + 1 by omega]
      simpa using h3
def symOf (l : List Nat) (q : Nat) : Nat := (symL l 0).getD ((3 * q) % 64) 0
def nxt (l : List Nat) : Nat → List Nat
  | 0 => l
  | p + 1 => (nxt l p).set (symOf l p) ((nxt l p).getD (symOf l p) 0 + 1)
def nOf (l : List Nat) (p : Nat) : Nat := (nxt l p).getD (symOf l p) 0
def bitsOf (l : List Nat) (p : Nat) : Nat := 7 - Lib.bitLen (nOf l p)
def baseOf (l : List Nat) (p : Nat) : Nat := nOf l p * 2 ^ bitsOf l p - 64
def toL (l : List Nat) : Nat → Nat → List Nat
  | 0, _ => []
  | p + 1, s => if symOf l p = s then toL l p s ++ [p] else toL l p s
theorem nxt_len (l : List Nat) : ∀ p, (nxt l p).length = l.length
  | 0 => rfl
  | p + 1 => by rw [nxt, List.length_set, nxt_len l p]
theorem toL_len (l : List Nat) (s : Nat) : ∀ p, (toL l p s).length ≤ p
  | 0 => Nat.le_refl _
  | p + 1 => by have := toL_len l s p; rw [toL]; split <;> simp <;> omega
theorem toL_lt (l : List Nat) (s : Nat) : ∀ p, ∀ x ∈ toL l p s, x < p
  | 0 => fun x h => by simp [toL] at h
  | p + 1 => fun x h => by
    rw [toL] at h
    split at h
    · rcases List.mem_append.1 h with h | h
      · have := toL_lt l s p x h; omega
      · rw [List.mem_singleton.1 h]; omega
    · have := toL_lt l s p x h; omega
theorem nxt_get (l : List Nat) (s : Nat) (hs : s < l.length) : ∀ p, (nxt l p).getD s 0 = l.getD s 0 + (toL l p s).length
  | 0 => by simp [nxt, toL]
  | p + 1 => by
    have h := nxt_get l s hs p
    have hl := nxt_len l p
    rw [nxt, toL]
    by_cases e : symOf l p = s
    · rw [if_pos e, e, List.length_append, List.length_singleton, ← Nat.add_assoc, ← h]
      simp [List.getD, List.getElem?_set, hl, hs]
    · rw [if_neg e, ← h]
      simp [List.getD, List.getElem?_set, e]
theorem symOf_lt {l : List Nat} (h : sumL l = 64) {q : Nat} (_hq : q < 64) : symOf l q < l.length ∧ 0 < l.getD (symOf l q) 0 := by
  have h1 : (3 * q) % 64 < (symL l 0).length := by rw [symL_len, h]; omega
  have hm : symOf l q ∈ symL l 0 := by
    unfold symOf
    simp [List.getD, List.getElem?_eq_getElem h1]
  obtain ⟨-, h2, n, h3, h4⟩ := symL_mem l 0 _ hm
  rw [Nat.sub_zero] at h3
  exact ⟨by omega, by simp [List.getD, h3]; exact h4⟩
theorem le_sumL {l : List Nat} {x : Nat} (h : x ∈ l) : x ≤ sumL l := by
  induction l with
  | nil => simp at h
  | cons k r ih =>
    rw [sumL]
    rcases List.mem_cons.1 h with rfl | h
    · omega
    · have := ih h; omega
theorem nOf_bounds {l : List Nat} (h : sumL l = 64) {p : Nat} (hp : p < 64) : 1 ≤ nOf l p ∧ nOf l p ≤ 127 := by
  obtain ⟨h1, h2⟩ := symOf_lt h hp
  have h3 := nxt_get l _ h1 p
  have h4 := toL_len l (symOf l p) p
  have h5 : l.getD (symOf l p) 0 ≤ 64 := by
    rw [← h]
    apply le_sumL
    simp [List.getD, List.getElem?_eq_getElem h1]
  unfold nOf
  omega
theorem len7 : ∀ x : Fin 128, x.val ≠ 0 → 1 ≤ Lib.bitLen x.val ∧ Lib.bitLen x.val ≤ 7 ∧ 64 ≤ x.val * 2 ^ (7 - Lib.bitLen x.val) ∧ (x.val + 1) * 2 ^ (7 - Lib.bitLen x.val) ≤ 128 := by decide +kernel
theorem place_facts {l : List Nat} (h : sumL l = 64) {p : Nat} (hp : p < 64) : 1 ≤ Lib.bitLen (nOf l p) ∧ Lib.bitLen (nOf l p) ≤ 7 ∧ bitsOf l p ≤ 6 ∧ 64 ≤ nOf l p * 2 ^ bitsOf l p ∧ (nOf l p + 1) * 2 ^ bitsOf l p ≤ 128 := by
  obtain ⟨h1, h2⟩ := nOf_bounds h hp
  have := len7 ⟨nOf l p, by omega⟩ (by simp; omega)
  simp only at this
  unfold bitsOf
  exact ⟨this.1, this.2.1, by omega, this.2.2.1, this.2.2.2⟩
theorem base_facts {l : List Nat} (h : sumL l = 64) {p m : Nat} (hp : p < 64) (hm : m < 2 ^ bitsOf l p) : baseOf l p + m < 64 := by
  obtain ⟨-, -, -, h1, h2⟩ := place_facts h hp
  unfold baseOf
  rw [Nat.add_mul] at h2
  omega
end Go.Proofs.YtaelgbbnmjbjiaaGreat
namespace Go.Proofs.YtaelgbbnmjbjiaaGreat
open Go.RowKit
def G1 (l : List Nat) (t i : Nat) : Value :=
  if i = 1600 then .int .i64 64 else if 1536 ≤ i then .slice none 0 0 else if i % 3 = 0 ∧ i < 192 ∧ i % 64 < t then .int .i64 ((symL l 0).getD (i % 64) 0 : Nat) else .int .i64 0
theorem G1_step (l : List Nat) {t s : Nat} (ht : t < 64) (hs : (symL l 0)[t]? = some s) (i : Nat) (_hi : i < 1601) : (if i = 43 * t % 64 * 3 then Value.int .i64 (s : Int) else G1 l t i) = G1 l (t + 1) i := by
  unfold G1
  by_cases h1 : i = 1600
  · subst h1; rw [if_neg (by omega)]; simp
  · by_cases h2 : 1536 ≤ i
    · rw [if_neg (by omega)]; simp [h1, h2]
    · by_cases h3 : i = 43 * t % 64 * 3
      · rw [if_pos h3, if_neg h1, if_neg h2, if_pos (by omega), show i % 64 = t by omega]
        simp [List.getD, hs]
      · rw [if_neg h3, if_neg h1, if_neg h2, if_neg h1, if_neg h2]
        by_cases h4 : i % 3 = 0 ∧ i < 192 ∧ i % 64 < t
        · rw [if_pos h4, if_pos (by omega)]
        · rw [if_neg h4, if_neg (by omega)]
theorem zero_gen (p q : Nat) (u v z y : Value) : ((List.replicate p u ++ (List.replicate q v ++ [z])).toArray.setIfInBounds (p + q) y).size = p + q + 1 ∧
    ∀ i, i < p + q + 1 → ((List.replicate p u ++ (List.replicate q v ++ [z])).toArray.setIfInBounds (p + q) y)[i]? = some (if i = p + q then y else if p ≤ i then v else u) := by
  constructor
  · simp; omega
  · intro i hi
    rw [Array.getElem?_setIfInBounds]
    by_cases h1 : i = p + q
    · subst h1; simp
    · rw [if_neg (fun e => h1 e.symm), if_neg h1, List.getElem?_toArray]
      by_cases h2 : p ≤ i
      · rw [if_pos h2, List.getElem?_append_right (by simpa using h2), List.length_replicate, List.getElem?_append_left (by simp; omega), List.getElem?_replicate, if_pos (by omega)]
      · rw [if_neg h2, List.getElem?_append_left (by simp; omega), List.getElem?_replicate, if_pos (by omega)]
theorem zero_table : Tryz.zeroCells97 = (List.replicate 1536 (Value.int .i64 0) ++ (List.replicate 64 (Value.slice none 0 0) ++ [Value.int .i64 0])).toArray := by kernel_rfl
theorem zero_table_at (l : List Nat) : (Tryz.zeroCells97.setIfInBounds 1600 (.int .i64 64)).size = 1601 ∧ ∀ i, i < 1601 → (Tryz.zeroCells97.setIfInBounds 1600 (.int .i64 64))[i]? = some (G1 l 0 i) := by
  rw [zero_table]
  obtain ⟨h1, h2⟩ := zero_gen 1536 64 (Value.int .i64 0) (Value.slice none 0 0) (Value.int .i64 0) (Value.int .i64 64)
  refine ⟨h1, fun i hi => (h2 i hi).trans ?_⟩
  unfold G1
  show some (if i = 1600 then _ else _) = _
  by_cases e : i = 1600
  · rw [if_pos e, if_pos e]
  · rw [if_neg e, if_neg e]
    by_cases e2 : 1536 ≤ i
    · rw [if_pos e2, if_pos e2]
    · rw [if_neg e2, if_neg e2, if_neg (by omega)]
theorem own_form {w : World} {base n : Nat} {e : TypeId} {v : Value} {xs : List Value} (h : w.ownsRow base e 1 v n xs) : ∃ A c, v = .slice A n c ∧ Own w base e A n c xs := by
  rcases h.2 with ⟨hv, h0⟩ | ⟨g, cap, cur, hv, -⟩
  · subst h0; subst hv; exact ⟨none, 0, rfl, h⟩
  · subst hv; exact ⟨_, _, rfl, h⟩
def G3 (l : List Nat) (p : Nat) (As : Nat → Option Addr) (cs : Nat → Nat) (i : Nat) : Value :=
  if i = 1600 then .int .i64 64 else if 1536 ≤ i then .slice (As (i - 1536)) (toL l p (i - 1536)).length (cs (i - 1536))
  else if 192 ≤ i then .int .i64 0 else if i % 3 = 0 then .int .i64 (symOf l (i / 3) : Nat) else if i % 3 = 1 then .int .i64 ((if i / 3 < p then bitsOf l (i / 3) else 0 : Nat) : Int)
  else .int .i64 ((if i / 3 < p then baseOf l (i / 3) else 0 : Nat) : Int)
theorem G1_G3 (l : List Nat) (i : Nat) (_hi : i < 1601) : G1 l 64 i = G3 l 0 (fun _ => none) (fun _ => 0) i := by
  unfold G1 G3
  by_cases h1 : i = 1600
  · rw [if_pos h1, if_pos h1]
  · rw [if_neg h1, if_neg h1]
    by_cases h2 : 1536 ≤ i
    · rw [if_pos h2, if_pos h2]; simp [toL]
    · rw [if_neg h2, if_neg h2]
      by_cases h3 : 192 ≤ i
      · rw [if_pos h3, if_neg (by omega)]
      · rw [if_neg h3]
        by_cases h4 : i % 3 = 0
        · rw [if_pos h4, if_pos (by omega)]
          unfold symOf
          rw [show 3 * (i / 3) = i by omega]
        · rw [if_neg h4, if_neg (by omega)]; simp
structure TabR (w : World) (base : Nat) (l : List Nat) (p g : Nat) (As : Nat → Option Addr) (cs : Nat → Nat) (An : Option Addr) (cn : Nat) : Prop where
  cells : Cells w g 97 1601 (G3 l p As cs)
  rows : ∀ s, s < 64 → OwnN w base (As s) (toL l p s).length (cs s) (toL l p s)
  sep : ∀ s s', s < 64 → s' < 64 → s ≠ s' → bk (As s) = none ∨ bk (As s) ≠ bk (As s')
  next : OwnN w base An l.length cn (nxt l p)
  sepn : ∀ s, s < 64 → bk (As s) = none ∨ bk (As s) ≠ bk An
theorem place_pw {l : List Nat} {p k bt : Nat} (h : sumL l = 64) (hp : p < 64) (hk : nOf l p = k) (hbt : bt = bitsOf l p) :
    ∃ pw, pw = k * 2 ^ bt ∧ 64 ≤ pw ∧ pw ≤ 128 ∧ baseOf l p = pw - 64 := by
  obtain ⟨-, -, -, h1, h2⟩ := place_facts h hp
  unfold baseOf
  rw [hk, ← hbt] at *
  rw [Nat.add_mul] at h2
  exact ⟨_, rfl, h1, by omega, rfl⟩
theorem shl_lem {k bt pw : Nat} (h : pw = k * 2 ^ bt) (h1 : 64 ≤ pw) (h2 : pw ≤ 128) : IntKind.i64.wrap (IntKind.i64.wrap ((k : Int) * 2 ^ bt) - 64) = ((pw - 64 : Nat) : Int) := by
  have e : (k : Int) * 2 ^ bt = (pw : Int) := by rw [h]; simp
  rw [e, wrapi64_nat (by omega), wrapi64 (by omega) (by omega)]
  omega
theorem clone_nat (b o n c : Nat) (l : List Nat) (w : World) (hl : l.length = n) (hr : Ns w (some ⟨b, o, none⟩) l) (hn : n ≤ 1000000000) (hn0 : 0 < n) :
    Calls Tryz.prog 102 #[.slice (some ⟨b, o, none⟩) n c] w fun e w' => ∃ A' c', e = .returned (.slice A' n c') ∧ OwnN w' w.heap.size A' n c' l ∧ Below w.heap.size w w' := by
  obtain ⟨b', o', e, hc⟩ := hr (by simpa using by omega)
  cases e
  refine (Tryz.slices_Clone_int b o n c (l.map Int.ofNat) w (by simp; omega) (by omega) (fun j hj => ?_)).mono ?_
  · have hj' : j < l.length := by simpa using hj
    have := hc j (by simpa using hj')
    rw [this]
    simp [natv, List.getElem?_eq_getElem hj', List.getD]
  · rintro e w' ⟨v', rfl, h1, -, h2⟩
    obtain ⟨A', c', rfl, h3⟩ := own_form h1
    refine ⟨A', c', rfl, ?_, h2⟩
    have : ((l.map Int.ofNat).take n).map (Value.int .i64) = l.map natv := by
      rw [List.take_of_length_le (by simp; omega), List.map_map]; rfl
    rwa [this] at h3
theorem sumL_take_le (l : List Nat) (k : Nat) : sumL (l.take k) ≤ sumL l := by
  have := sumL_append (l.take k) (l.drop k)
  rw [List.take_append_drop] at this
  omega
theorem TabR.later {w w' : World} {base p g cn : Nat} {l : List Nat} {As : Nat → Option Addr} {cs : Nat → Nat} {An : Option Addr} (h : TabR w base l p g As cs An cn) (hb : Below w.heap.size w w') : TabR w' base l p g As cs An cn :=
  ⟨h.cells.later hb, fun s hs => Own.later (h.rows s hs) hb, h.sep, Own.later h.next hb, h.sepn⟩
theorem TabR.step {wr w5 wa w6 : World} {base p g cn sy k bt pw m co c' : Nat} {l xs : List Nat} {As : Nat → Option Addr} {cs : Nat → Nat} {An Ao A' : Option Addr} (ht : TabR wr base l p g As cs An cn)
    (hsum : sumL l = 64) (hp : p < 64) (hsy : symOf l p = sy) (hk : nOf l p = k) (hbt : bt = bitsOf l p) (hpw : baseOf l p = pw) (hxs : toL l p sy = xs) (hAo : As sy = Ao) (hco : cs sy = co) (hm : xs.length = m) (hsl : sy < l.length) (hs64 : sy < 64)
    (hC5 : Cells w5 g 97 1601 (fun j => if j = p * 3 + 2 then .int .i64 (pw : Int) else if j = p * 3 + 1 then .int .i64 (bt : Int) else G3 l p As cs j))
    (hN5 : Own w5 base 3 An l.length cn (((nxt l p).map natv).set sy (.int .i64 ((k : Int) + 1))))
    (hR5 : ∀ q, q < 64 → Own w5 base 3 (As q) (toL l p q).length (cs q) ((toL l p q).map natv))
    (hba : Below w5.heap.size w5 wa) (hgr : wa.grownBy w6 (bk Ao)) (hat : bk A' = bk Ao ∨ bk A' = some wa.heap.size)
    (hown : Own w6 base 3 A' (m + 1) c' (xs.map natv ++ [.int .i64 (p : Int)])) :
    TabR (w6.setCell ⟨g, 1536 + sy, none⟩ (.slice A' (m + 1) c')) base l (p + 1) g (fun s => if s = sy then A' else As s) (fun s => if s = sy then c' else cs s) An cn := by
  have hxl : (xs ++ [p]).length = m + 1 := by simp [hm]
  have hto : ∀ q, toL l (p + 1) q = if sy = q then toL l p q ++ [p] else toL l p q := fun q => by rw [toL, hsy]
  have hto1 : toL l (p + 1) sy = xs ++ [p] := by rw [hto, if_pos rfl, hxs]
  have hto2 : ∀ q, q ≠ sy → toL l (p + 1) q = toL l p q := fun q hq => by rw [hto, if_neg (fun e => hq e.symm)]
  have hAog : bk Ao ≠ some g := by rw [← hAo]; exact hC5.ne_own (hR5 sy hs64) (by decide)
  have hAng : bk An ≠ some g := hC5.ne_own hN5 (by decide)
  have hsz := hba.size
  have hC6 := (hC5.later hba).kept hgr hAog
  have hAg : bk A' ≠ some g := by
    rcases hat with e | e
    · rw [e]; exact hAog
    · rw [e]
      have := hC5.lt
      intro e'; cases e'; omega
  have hgs := grown_set w6 ⟨g, 1536 + sy, none⟩ (.slice A' (m + 1) c')
  have hltR : ∀ q, q < 64 → ∀ b, bk (As q) = some b → b < wa.heap.size := fun q hq b hb => by
    have := ((hR5 q hq).lt hb).2; omega
  refine ⟨(hC6.set _ _).ext ?_, ?_, ?_, ?_, ?_⟩
  · intro i hi
    unfold G3
    by_cases h1 : i = 1536 + sy
    · subst h1
      rw [if_pos rfl, if_neg (by omega), if_pos (by omega), show 1536 + sy - 1536 = sy by omega, hto1, hxl]
      simp only [if_true]
    · rw [if_neg h1]
      by_cases h2 : i = p * 3 + 2
      · subst h2
        rw [if_pos rfl, if_neg (by omega), if_neg (by omega), if_neg (by omega), if_neg (by omega), if_neg (by omega), show (p * 3 + 2) / 3 = p by omega, if_pos (by omega), hpw]
      · rw [if_neg h2]
        by_cases h3 : i = p * 3 + 1
        · subst h3
          rw [if_pos rfl, if_neg (by omega), if_neg (by omega), if_neg (by omega), if_neg (by omega), if_pos (by omega), show (p * 3 + 1) / 3 = p by omega, if_pos (by omega), hbt]
        · rw [if_neg h3]
          by_cases h4 : i = 1600
          · rw [if_pos h4, if_pos h4]
          · rw [if_neg h4, if_neg h4]
            by_cases h5 : 1536 ≤ i
            · have h9 : ¬ i - 1536 = sy := by omega
              rw [if_pos h5, if_pos h5, hto2 _ h9]
              simp only [if_neg h9]
            · rw [if_neg h5, if_neg h5]
              by_cases h6 : 192 ≤ i
              · rw [if_pos h6, if_pos h6]
              · rw [if_neg h6, if_neg h6]
                by_cases h7 : i % 3 = 0
                · rw [if_pos h7, if_pos h7]
                · rw [if_neg h7, if_neg h7]
                  have h8 : i / 3 < p ↔ i / 3 < p + 1 := by omega
                  simp only [h8]
  · intro q hq
    by_cases e : q = sy
    · subst e
      simp only [if_true]
      rw [hto1, hxl]
      have : Own w6 base 3 A' (m + 1) c' ((xs ++ [p]).map natv) := by rw [List.map_append]; exact hown
      exact Own.kept this hgs (.inr hAg)
    · simp only [if_neg e]
      rw [hto2 q e]
      refine Own.kept (Own.kept (Own.later (hR5 q hq) hba) hgr ?_) hgs (.inr (hC5.ne_own (hR5 q hq) (by decide)))
      rw [← hAo]; exact ht.sep q sy hq hs64 e
  · have key : ∀ q, q < 64 → q ≠ sy → (bk (As q) = none ∨ bk (As q) ≠ bk A') ∧ (bk A' = none ∨ bk A' ≠ bk (As q)) := by
      intro q hq e
      rcases hat with h | h
      · rw [h, ← hAo]; exact ⟨ht.sep q sy hq hs64 e, ht.sep sy q hs64 hq (fun e' => e e'.symm)⟩
      · have : bk (As q) ≠ bk A' := by
          rw [h]; intro h'
          have := hltR q hq _ h'; omega
        exact ⟨.inr this, .inr (fun e' => this e'.symm)⟩
    intro q q' hq hq' hne
    by_cases e : q = sy
    · have e' : ¬ q' = sy := by omega
      simp only [if_pos e, if_neg e']
      exact (key q' hq' e').2
    · by_cases e' : q' = sy
      · simp only [if_neg e, if_pos e']
        exact (key q hq e).1
      · simp only [if_neg e, if_neg e']
        exact ht.sep q q' hq hq' hne
  · have hn : (nxt l (p + 1)).map natv = ((nxt l p).map natv).set sy (.int .i64 ((k : Int) + 1)) := by
      rw [nxt, List.map_set, hsy]
      have : (nxt l p).getD sy 0 = k := by rw [← hk]; unfold nOf; rw [hsy]
      rw [this]; rfl
    unfold OwnN
    rw [hn]
    refine Own.kept (Own.kept (Own.later hN5 hba) hgr ?_) hgs (.inr hAng)
    rcases ht.sepn sy hs64 with h | h
    · rw [← hAo, h]
      cases An with
      | none => exact .inl rfl
      | some a => exact .inr (by simp [bk])
    · rw [← hAo]; exact .inr (fun e => h e.symm)
  · intro q hq
    by_cases e : q = sy
    · simp only [if_pos e]
      rcases hat with h | h
      · rw [h, ← hAo]; exact ht.sepn sy hs64
      · rw [h]
        refine .inr (fun e' => ?_)
        have := (Own.lt hN5 e'.symm).2
        omega
    · simp only [if_neg e]
      exact ht.sepn q hq
end Go.Proofs.YtaelgbbnmjbjiaaGreat
namespace Go.Proofs.YtaelgbbnmjbjiaaGreat
open Go.RowKit
set_option maxHeartbeats 4000000 in
set_option maxRecDepth 10000 in
theorem fseMade (A : Option Addr) (n c : Nat) (l : List Nat) (w : World) (hl : l.length = n) (hr : Ns w A l) (hn : 0 < n) (hn64 : n ≤ 64) (hsum : sumL l = 64) :
    Calls Tryz.prog 73 #[.slice A n c, .int .i64 6] w fun e w' => e = .returned (.pointer (some ⟨w.heap.size, 0, none⟩)) ∧ (∃ As cs An cn, TabR w' w.heap.size l 64 w.heap.size As cs An cn) ∧ Below w.heap.size w w' := by
  have HL := Lib.hid hl
  have HR := Lib.hid hr
  have HS := Lib.hid hsum
  have HC0 := Lib.hid (Cells.new w 97 (Tryz.zeroCells97.setIfInBounds 1600 (.int .i64 64)) (zero_table_at l).1 (zero_table_at l).2)
  have HB0 := Lib.hid ((Below.refl _ _).alloc (Nat.le_refl _) (.cells (Tryz.zeroCells97.setIfInBounds 1600 (.int .i64 64)) 97) : Below w.heap.size w _)
  clear hl hr hsum
  go_enter Tryz.func73, Tryz.ntmps73
  go_wp2
  generalize (w.alloc (.cells (Tryz.zeroCells97.setIfInBounds 1600 (.int .i64 64)) 97)) = w1 at *
  go_loopg [6, 19] n (fun gg s6 s19 wr => ∃ s : Nat, s ≤ n ∧ n - s ≤ gg ∧ s6 = .int .i64 ((43 * sumL (l.take s) % 64 : Nat) : Int) ∧ s19 = .int .i64 (s : Int) ∧ Cells wr w.heap.size 97 1601 (G1 l (sumL (l.take s))) ∧ Below w.heap.size w wr)
  case atStart => exact ⟨0, Nat.zero_le _, by omega, rfl, rfl, HC0.out, HB0.out⟩
  case round =>
    obtain ⟨s, hs, hg, rfl, rfl, hC, hbel⟩ := hrel
    have HC := Lib.hid hC
    have HB := Lib.hid hbel
    clear hC hbel
    by_cases hlt : s < n
    · obtain ⟨b, o, x, hA, hx, hc⟩ := HR.out.at_ (by rw [HL.out]; exact hlt : s < l.length)
      subst hA
      have hlt2 := block_lt hc
      have hc2 : wr.cell? ⟨b, o + s, none⟩ = some (.int .i64 (x : Int)) := by rw [HB.out.cell (by simpa using hlt2)]; exact hc
      have HT := Lib.hid (sumL_step hx)
      have hT1 := sumL_take_le l (s + 1)
      rw [HT.out, HS.out] at hT1
      have HSy := Lib.hid (fun i hi => symL_at l 0 s x i hx hi)
      generalize sumL (l.take s) = T at *
      clear hc hx
      go_wp2
      go_loopg [6, 25] x (fun gg s6 s25 wr => ∃ i a : Nat, i ≤ x ∧ x - i ≤ gg ∧ a = 43 * (T + i) % 64 ∧ s6 = .int .i64 (a : Int) ∧ s25 = .int .i64 (i : Int) ∧ Cells wr w.heap.size 97 1601 (G1 l (T + i)) ∧ Below w.heap.size w wr)
      case atStart => exact ⟨0, _, Nat.zero_le _, by omega, rfl, rfl, rfl, HC.out, HB.out⟩
      case round =>
        obtain ⟨i, a, hi, hgg, ha, rfl, rfl, hC, hbel⟩ := hrel
        by_cases hix : i < x
        · have ha64 : a < 64 := by omega
          have cS := hC.cell (i := 1600) (by omega)
          have fS := hC.frozen (a * 3)
          have c3 := hC.cell (i := a * 3) (by omega)
          simp only [G1, if_true] at cS
          have hsy : (symL l 0)[T + i]? = some s := by simpa using HSy.out i hix
          have HC2 := Lib.hid ((hC.set (a * 3) (.int .i64 (s : Int))).ext (fun j hj => by
            have h1 := G1_step l (t := T + i) (by omega) hsy j hj
            rw [← ha] at h1
            exact h1) : Cells (wr.setCell ⟨w.heap.size, a * 3, none⟩ (.int .i64 (s : Int))) w.heap.size 97 1601 (G1 l (T + i + 1)))
          clear hsy
          have HA := Lib.hid ha
          have HB2 := Lib.hid (show Below w.heap.size w (wr.setCell ⟨w.heap.size, a * 3, none⟩ (.int .i64 (s : Int))) from hbel.setCell (Nat.le_refl _) _)
          clear hC hbel ha
          go_wp2
          clear cS fS c3
          generalize (wr.setCell ⟨w.heap.size, a * 3, none⟩ (.int .i64 (s : Int))) = w2 at *
          have cS := HC2.out.cell (i := 1600) (by omega)
          simp only [G1, if_true] at cS
          go_quiet (fail)
          go_wp2
          go_roundg (x - (i + 1))
          case measure => omega
          case rel => exact ⟨i + 1, (a + 43) % 64, by omega, by omega, by rw [HA.out]; omega, int_eq (by omega), by go_num, HC2.out.later (below_drewN _ _), HB2.out.trans ((below_drewN _ _).mono HB2.out.size)⟩
        · obtain rfl : i = x := by omega
          have HC2 := Lib.hid hC
          have HA := Lib.hid ha
          have HB2 := Lib.hid hbel
          have ha64 : a < 64 := by omega
          clear hC hbel ha
          go_wp2
          go_roundg (n - (s + 1))
          case measure => omega
          case rel => exact ⟨s + 1, by omega, by omega, by rw [HT.out, HA.out], by go_num, by rw [HT.out]; exact HC2.out, HB2.out⟩
    · obtain rfl : s = n := by omega
      have HT : sumL (l.take s) = 64 := by rw [List.take_of_length_le (by rw [HL.out]; exact Nat.le_refl _), HS.out]
      rw [HT] at HC ⊢
      clear HT
      obtain ⟨b, o, x, hA, -, -⟩ := HR.out.at_ (by rw [HL.out]; exact hn : 0 < l.length)
      subst hA
      have HCl := Lib.hid (clone_nat b o s c l wr HL.out (HR.out.later HB.out) (by omega) hn)
      go_wp2_with fail
      refine HCl.out.mono ?_
      rintro e w2 ⟨An, cn, rfl, hown, hb2⟩
      have HN := Lib.hid (Own.mono hown HB.out.size)
      have HC2 := Lib.hid (HC.out.later hb2)
      have HB2 := Lib.hid (HB.out.trans (hb2.mono HB.out.size))
      clear hown hb2 HCl
      have cS := HC2.out.cell (i := 1600) (by omega)
      simp only [G1, if_true] at cS
      have HTab := Lib.hid (⟨HC2.out.ext (fun i hi => G1_G3 l i hi), fun s _ => OwnN.nil _ _, fun _ _ _ _ _ => .inl rfl, by rw [HL.out]; exact HN.out, fun _ _ => .inl rfl⟩ : TabR w2 w.heap.size l 0 w.heap.size (fun _ => none) (fun _ => 0) An cn)
      go_wp2
      clear cS
      go_loopg [61] 64 (fun gg s61 wr => ∃ (p : Nat) (As : Nat → Option Addr) (cs : Nat → Nat), p ≤ 64 ∧ 64 - p ≤ gg ∧ s61 = .int .i64 (p : Int) ∧ TabR wr w.heap.size l p w.heap.size As cs An cn ∧ Below w.heap.size w wr)
      case atStart => exact ⟨0, _, _, by omega, by omega, rfl, HTab.out, HB2.out⟩
      case round =>
        obtain ⟨p, As, cs, hp, hgg, rfl, htab, hbel⟩ := hrel
        have HT := Lib.hid htab
        have HB3 := Lib.hid hbel
        clear htab hbel
        by_cases hlt : p < 64
        · have hsy := symOf_lt HS.out hlt
          have hpf := place_facts HS.out hlt
          have hnb := nOf_bounds HS.out hlt
          have c0 := HT.out.cells.cell (i := p * 3) (by omega)
          have e0 : G3 l p As cs (p * 3) = .int .i64 (symOf l p : Nat) := by
            unfold G3
            rw [if_neg (by omega), if_neg (by omega), if_neg (by omega), if_pos (by omega), show p * 3 / 3 = p by omega]
          rw [e0] at c0
          obtain ⟨gn, xn, hAn, hgn1, hgn2, hxn, hcn, hfn⟩ := Own.at_ HT.out.next hsy.1
          have hkn : xn = .int .i64 (nOf l p : Nat) := by
            have hlen : symOf l p < (nxt l p).length := by rw [nxt_len]; exact hsy.1
            rw [List.getElem?_map, List.getElem?_eq_getElem hlen] at hxn
            unfold nOf
            simp only [List.getD, List.getElem?_eq_getElem hlen, Option.getD_some]
            simpa [natv] using hxn.symm
          subst hkn
          have hne : gn ≠ w.heap.size := by
            have := HT.out.cells.ne_own HT.out.next (by decide)
            rw [hAn] at this; simpa [bk] using this
          subst hAn
          have HLen := Lib.hid (Tryz.bits_Len ((nOf l p : Nat) : Int))
          have hsn : symOf l p < s := by rw [← HL.out]; exact hsy.1
          have hsy64 : symOf l p < 64 := by omega
          clear hsy e0 hxn
          generalize hS : symOf l p = sy at *
          generalize hN : nOf l p = k at *
          have HSy := Lib.hid hS
          have HNn := Lib.hid hN
          clear hS hN
          rw [Int.toNat_natCast] at HLen
          obtain ⟨bt, hbt⟩ : ∃ bt, bt = bitsOf l p := ⟨_, rfl⟩
          have hbl7 : Lib.bitLen k + bt = 7 := by
            have h1 := hbt
            unfold bitsOf at h1
            rw [HNn.out] at h1
            have := hpf.1; have := hpf.2.1; omega
          rw [← hbt] at hpf
          have HBT := Lib.hid hbt
          clear hbt
          have HC3 := Lib.hid (HT.out.cells.kept (grown_set wr ⟨gn, sy, none⟩ (.int .i64 ((k : Int) + 1))) (by simpa using hne))
          have HN3 := Lib.hid ((Own.stored HT.out.next sy (.int .i64 ((k : Int) + 1))).1)
          have HR3 := Lib.hid (fun q hq => Own.kept (HT.out.rows q hq) (grown_set wr ⟨gn, sy, none⟩ (.int .i64 ((k : Int) + 1))) (HT.out.sepn q hq))
          have HB4 := Lib.hid (show Below w.heap.size w (wr.setCell ⟨gn, sy, none⟩ (.int .i64 ((k : Int) + 1))) from HB3.out.setCell hgn1 _)
          generalize hBL : Lib.bitLen k = bl at *
          go_wp2_with fail
          refine (HLen.out _ (by omega) (by omega)).mono ?_
          rintro e w4 ⟨rfl, rfl⟩
          clear c0 hcn hfn
          generalize (wr.setCell ⟨gn, sy, none⟩ (.int .i64 ((k : Int) + 1))) = w3 at *
          have hf1 := HC3.out.frozen (p * 3 + 1)
          have hc1 := HC3.out.cell (i := p * 3 + 1) (by omega)
          go_wp2
          have hv : (6 - (bl : Int) + 1) = (bt : Int) := by omega
          rw [hv]
          have HC4 := Lib.hid (HC3.out.set (p * 3 + 1) (.int .i64 (bt : Int)))
          have HN4 := Lib.hid (Own.setCell HN3.out (p := ⟨w.heap.size, p * 3 + 1, none⟩) (by simpa [bk] using hne) (.int .i64 (bt : Int)))
          have hgr4 := grown_set w3 ⟨w.heap.size, p * 3 + 1, none⟩ (.int .i64 (bt : Int))
          have HR4 := Lib.hid (fun q hq => Own.kept (HR3.out q hq) hgr4 (.inr (HC3.out.ne_own (HR3.out q hq) (by decide))))
          have HB5 := Lib.hid (show Below w.heap.size w (w3.setCell ⟨w.heap.size, p * 3 + 1, none⟩ (.int .i64 (bt : Int))) from HB4.out.setCell (Nat.le_refl _) _)
          clear hf1 hc1 hv hgr4
          generalize (w3.setCell ⟨w.heap.size, p * 3 + 1, none⟩ (.int .i64 (bt : Int))) = w4 at *
          have c1 := HC4.out.cell (i := p * 3 + 1) (by omega)
          have cS := HC4.out.cell (i := 1600) (by omega)
          have hf2 := HC4.out.frozen (p * 3 + 2)
          have c2 := HC4.out.cell (i := p * 3 + 2) (by omega)
          simp only [if_true] at c1
          have eS : (if 1600 = p * 3 + 1 then Value.int .i64 (bt : Int) else G3 l p As cs 1600) = .int .i64 64 := by rw [if_neg (by omega)]; rfl
          rw [eS] at cS
          generalize (if p * 3 + 2 = p * 3 + 1 then Value.int .i64 (bt : Int) else G3 l p As cs (p * 3 + 2)) = v2 at c2
          clear eS
          obtain ⟨pw, hpw, hp1, hp2, hbase⟩ := place_pw HS.out hlt HNn.out HBT.out
          have hv5 := shl_lem hpw hp1 hp2
          have HBase := Lib.hid hbase
          have HV5 := Lib.hid hv5
          clear hpw hbase hpf hv5
          have K1 : ∀ v, (w4.setCell ⟨w.heap.size, p * 3 + 2, none⟩ v).drew.cell? ⟨w.heap.size, p * 3 + 1, none⟩ = some (.int .i64 (bt : Int)) := fun v => (HC4.out.set_other (by omega) (by omega) v).trans c1
          have K2 : ∀ v, (w4.setCell ⟨w.heap.size, p * 3 + 2, none⟩ v).drew.cell? ⟨w.heap.size, 1600, none⟩ = some (.int .i64 64) := fun v => (HC4.out.set_other (by omega) (by omega) v).trans cS
          go_region_held3 (fun w' => w'.cell? ⟨w.heap.size, p * 3 + 1, none⟩ = some (.int .i64 (bt : Int)) ∧ w'.cell? ⟨w.heap.size, 1600, none⟩ = some (.int .i64 64)) (first | go_keep | (exact ⟨K1 _, K2 _⟩)) (fail)
          clear K1 K2 c1 cS hf2 c2
          rw [HV5.out]
          have HC5 := Lib.hid (show Cells (w4.setCell ⟨w.heap.size, p * 3 + 2, none⟩ (.int .i64 ((pw - 64 : Nat) : Int))).drew w.heap.size 97 1601 _ from HC4.out.set (p * 3 + 2) (.int .i64 ((pw - 64 : Nat) : Int)))
          have hgr5 := grown_drew (grown_set w4 ⟨w.heap.size, p * 3 + 2, none⟩ (.int .i64 ((pw - 64 : Nat) : Int)))
          have HN5 := Lib.hid (Own.kept HN4.out hgr5 (.inr (HC4.out.ne_own HN4.out (by decide))))
          have HR5 := Lib.hid (fun q hq => Own.kept (HR4.out q hq) hgr5 (.inr (HC4.out.ne_own (HR4.out q hq) (by decide))))
          have HB6 := Lib.hid (HB5.out.trans (below_grown hgr5 HB5.out.size (fun j hj => by cases hj; exact Nat.le_refl _)))
          clear hgr5
          generalize (w4.setCell ⟨w.heap.size, p * 3 + 2, none⟩ (.int .i64 ((pw - 64 : Nat) : Int))).drew = w5 at *
          have c0 := HC5.out.cell (i := p * 3) (by omega)
          have c6 := HC5.out.cell (i := 1536 + sy) (by omega)
          have f6 := HC5.out.frozen (1536 + sy)
          rw [if_neg (by omega), if_neg (by omega)] at c0 c6
          have e0 : G3 l p As cs (p * 3) = .int .i64 (sy : Int) := by
            unfold G3
            rw [if_neg (by omega), if_neg (by omega), if_neg (by omega), if_pos (by omega), show p * 3 / 3 = p by omega, HSy.out]
          have e6 : G3 l p As cs (1536 + sy) = .slice (As sy) (toL l p sy).length (cs sy) := by
            unfold G3
            rw [if_neg (by omega), if_pos (by omega), show 1536 + sy - 1536 = sy by omega]
          rw [e0] at c0
          rw [e6] at c6
          have hml := toL_len l sy p
          have HRs := Lib.hid (HR5.out sy hsy64)
          generalize hXS : toL l p sy = xs at HRs c6 hml
          have HXS := Lib.hid hXS
          generalize hAs : As sy = Ao at HRs c6
          generalize hCs : cs sy = co at HRs c6
          have HAs := Lib.hid hAs
          have HCs := Lib.hid hCs
          generalize hm : xs.length = m at HRs c6 hml
          have HM := Lib.hid hm
          clear e0 e6 hXS hAs hCs hm
          have hbz := HB6.out.size
          rename_i hHeld
          clear hHeld
          have i1 : (0 : Int) ≤ (sy : Int) := by omega
          have i2 : (sy : Int) < 64 := by omega
          have HRd := Lib.hid (Own.alloc (Own.drew HRs.out) (.cells #[.int .i64 (p : Int)] 3))
          have hneA : bk Ao ≠ some w.heap.size := HC5.out.ne_own HRs.out (by decide)
          have HC5a := Lib.hid (Cells.later (w' := w5.drew.alloc (.cells #[.int .i64 (p : Int)] 3)) HC5.out ((Below.refl _ _).drew.alloc (Nat.le_refl _) _))
          have hF6 : (if 1536 + sy = p * 3 + 2 then Value.int .i64 ((pw - 64 : Nat) : Int) else if 1536 + sy = p * 3 + 1 then .int .i64 (bt : Int) else G3 l p As cs (1536 + sy)) = .slice Ao m co := by
            rw [if_neg (by omega), if_neg (by omega)]
            unfold G3
            rw [if_neg (by omega), if_pos (by omega), show 1536 + sy - 1536 = sy by omega, HAs.out, HCs.out, HXS.out, HM.out]
          have hF0 : (if p * 3 = p * 3 + 2 then Value.int .i64 ((pw - 64 : Nat) : Int) else if p * 3 = p * 3 + 1 then .int .i64 (bt : Int) else G3 l p As cs (p * 3)) = .int .i64 (sy : Int) := by
            rw [if_neg (by omega), if_neg (by omega)]
            unfold G3
            rw [if_neg (by omega), if_neg (by omega), if_neg (by omega), if_pos (by omega), show p * 3 / 3 = p by omega, HSy.out]
          have KC := Lib.hid (fun w' (hg : (w5.drew.alloc (.cells #[.int .i64 (p : Int)] 3)).grownBy w' (bk Ao)) => (show w'.cell? ⟨w.heap.size, 1536 + sy, none⟩ = some (.slice Ao m co) ∧ w'.frozen? ⟨w.heap.size, 1536 + sy, none⟩ = false ∧ w'.cell? ⟨w.heap.size, p * 3, none⟩ = some (.int .i64 (sy : Int)) from
            ⟨((HC5a.out.kept hg hneA).cell (i := 1536 + sy) (by omega)).trans (congrArg some hF6), (HC5a.out.kept hg hneA).frozen _, ((HC5a.out.kept hg hneA).cell (i := p * 3) (by omega)).trans (congrArg some hF0)⟩))
          clear hF6 hF0
          have n0 := World.new_ne w5 _ c0
          have n6 := World.new_ne w5 _ c6
          have a0 : (w5.alloc (.cells #[.int .i64 (p : Int)] 3)).cell? ⟨w.heap.size, p * 3, none⟩ = some (.int .i64 (sy : Int)) := (((Below.refl w5.heap.size w5).alloc (Nat.le_refl _) _).cell HC5.out.lt).trans c0
          have a6 : (w5.alloc (.cells #[.int .i64 (p : Int)] 3)).cell? ⟨w.heap.size, 1536 + sy, none⟩ = some (.slice Ao m co) := (((Below.refl w5.heap.size w5).alloc (Nat.le_refl _) _).cell HC5.out.lt).trans c6
          have HST := Lib.hid (fun A' c' w6 (hgr : (w5.alloc (.cells #[.int .i64 (p : Int)] 3)).grownBy w6 (bk Ao)) hat hown => TabR.step (A' := A') (c' := c') (w6 := w6) HT.out HS.out hlt HSy.out HNn.out HBT.out HBase.out HXS.out HAs.out HCs.out HM.out (by rw [HL.out]; exact hsn) hsy64 HC5.out HN5.out HR5.out ((Below.refl _ _).alloc (Nat.le_refl _) _) hgr hat hown)
          have Hrd := Lib.hid (Rd.one w5.drew (.int .i64 (p : Int)) 3)
          go_wp2
          go_region_law (first | (refine step_append_rd rfl _ _ elemN rfl w.heap.size Ao m co (xs.map natv) rfl HRd.out (some ⟨w5.heap.size, 0, none⟩) 1 1 [.int .i64 (p : Int)] rfl Hrd.out rfl (fun v hv => by simp at hv; subst hv; rfl) (by omega) (by omega) (by simp; omega) ?_; intro A' c' w6 hown6 hb6 hgr6 hat6; have c7 := (KC.out _ hgr6).1; have f7 := (KC.out _ hgr6).2.1; have c8 := (KC.out _ hgr6).2.2))
          all_goals clear f6 c0 c6 n0 n6 a0 a6 c7 f7 c8
          all_goals go_wp2
          all_goals go_roundg (64 - (p + 1))
          all_goals first
            | omega
            | (have HX := HST.out A' c' w6 ⟨hgr6.os, hgr6.tape, hgr6.output, hgr6.size, hgr6.block⟩ hat6 hown6
               have HY : Below w.heap.size w (w6.setCell ⟨w.heap.size, 1536 + sy, none⟩ (.slice A' (m + 1) c')) := ((HB6.out.alloc (by omega) _).drew.trans hb6).setCell (Nat.le_refl _) _
               first
                 | exact ⟨p + 1, _, _, by omega, by omega, by go_num, HX, HY⟩
                 | exact ⟨p + 1, _, _, by omega, by omega, by go_num, HX.later (below_drewN _ 1), HY.drew⟩)
            | skip
        · obtain rfl : p = 64 := by omega
          go_wp2
          go_ret
          exact ⟨rfl, ⟨_, _, _, _, HT.out⟩, HB3.out⟩
end Go.Proofs.YtaelgbbnmjbjiaaGreat
namespace Go.Proofs.YtaelgbbnmjbjiaaGreat
open Go.RowKit
def nz : List Nat → Nat
  | [] => 0
  | k :: r => (if 0 < k then 1 else 0) + nz r
theorem nz_append (a b : List Nat) : nz (a ++ b) = nz a + nz b := by
  induction a with
  | nil => simp [nz]
  | cons x r ih => simp only [List.cons_append, nz, ih]; omega
theorem nz_le : ∀ l : List Nat, nz l ≤ l.length
  | [] => Nat.le_refl _
  | k :: r => by have := nz_le r; simp only [nz, List.length_cons]; split <;> omega
theorem nz_step {l : List Nat} {k x : Nat} (h : l[k]? = some x) : nz (l.take (k + 1)) = nz (l.take k) + (if 0 < x then 1 else 0) := by
  rw [List.take_add_one, h, nz_append]
  simp [nz]
theorem nz_pos : ∀ {l : List Nat}, 0 < nz l → 0 < sumL l
  | [], h => by simp [nz] at h
  | k :: r, h => by
    simp only [nz] at h
    simp only [sumL]
    by_cases hk : 0 < k
    · omega
    · rw [if_neg hk] at h
      have := nz_pos (l := r) (by omega)
      omega
theorem sum_le_nz : ∀ {l : List Nat} {m : Nat}, (∀ x ∈ l, x ≤ m) → sumL l ≤ m * nz l
  | [], _, _ => by simp [sumL]
  | k :: r, m, h => by
    have h1 := sum_le_nz (l := r) (m := m) (fun x hx => h x (List.mem_cons_of_mem _ hx))
    have h2 := h k (List.mem_cons_self)
    simp only [sumL, nz]
    by_cases hk : 0 < k
    · rw [if_pos hk, Nat.mul_add, Nat.mul_one]; omega
    · rw [if_neg hk, Nat.zero_add]; omega
theorem mem_le_sum : ∀ {l : List Nat} {x : Nat}, x ∈ l → x ≤ sumL l
  | k :: r, x, h => by
    simp only [sumL]
    rcases List.mem_cons.1 h with rfl | h
    · omega
    · have := mem_le_sum h; omega
theorem getD_mem' {l : List Nat} {k : Nat} (h : k < l.length) : l.getD k 0 ∈ l := by
  simp [List.getD, List.getElem?_eq_getElem h]
theorem sum_set : ∀ (l : List Nat) (k x : Nat), k < l.length → sumL (l.set k x) + l.getD k 0 = sumL l + x
  | [], _, _, h => by simp at h
  | y :: r, 0, x, _ => by simp [sumL]; omega
  | y :: r, k + 1, x, h => by
    have := sum_set r k x (by simpa using h)
    simp only [List.set_cons_succ, sumL, List.getD_cons_succ]
    omega
theorem nz_set : ∀ (l : List Nat) (k x : Nat), k < l.length → 0 < l.getD k 0 → nz (l.set k x) ≤ nz l
  | [], _, _, h, _ => by simp at h
  | y :: r, 0, x, _, h => by
    simp only [List.getD_cons_zero] at h
    simp only [List.set_cons_zero, nz, if_pos h]
    split <;> omega
  | y :: r, k + 1, x, h, h2 => by
    have := nz_set r k x (by simpa using h) (by simpa using h2)
    simp only [List.set_cons_succ, nz]
    omega
theorem first_at : ∀ {l : List Nat} {x : Nat}, x ∈ l → ∃ k, k < l.length ∧ l.getD k 0 = x ∧ ∀ j, j < k → l.getD j 0 ≠ x
  | y :: r, x, h => by
    by_cases e : y = x
    · exact ⟨0, by simp, by simpa using e, fun j hj => by omega⟩
    · obtain ⟨k, h1, h2, h3⟩ := first_at (l := r) (x := x) (by
        rcases List.mem_cons.1 h with rfl | h
        · exact absurd rfl e
        · exact h)
      refine ⟨k + 1, by simpa using h1, by simpa using h2, fun j hj => ?_⟩
      cases j with
      | zero => simpa using e
      | succ j => simpa using h3 j (by omega)
theorem foldl_max : ∀ (zs : List Nat) (a : Nat), ∃ m : Nat, (zs.map (fun x : Nat => (x : Int))).foldl max (a : Int) = (m : Int) ∧ a ≤ m ∧ (∀ x ∈ zs, x ≤ m) ∧ (m = a ∨ m ∈ zs)
  | [], a => ⟨a, rfl, Nat.le_refl _, by simp, .inl rfl⟩
  | z :: zs, a => by
    obtain ⟨m, h1, h2, h3, h4⟩ := foldl_max zs (max a z)
    have e : max (a : Int) (z : Int) = ((max a z : Nat) : Int) := by omega
    refine ⟨m, by rw [List.map_cons, List.foldl_cons, e]; exact h1, by omega, fun x hx => ?_, ?_⟩
    · rcases List.mem_cons.1 hx with rfl | hx
      · omega
      · exact h3 x hx
    · rcases h4 with h4 | h4
      · rcases Nat.le_total a z with h | h
        · exact .inr (by rw [h4, Nat.max_eq_right h]; exact List.mem_cons_self)
        · exact .inl (by rw [h4, Nat.max_eq_left h])
      · exact .inr (List.mem_cons_of_mem _ h4)
theorem maxOf_nat {l : List Nat} (h : l ≠ []) : ∃ m : Nat, Lib.maxOf (l.map (fun x : Nat => (x : Int))) = (m : Int) ∧ (∀ x ∈ l, x ≤ m) ∧ m ∈ l := by
  cases l with
  | nil => exact absurd rfl h
  | cons z zs =>
    obtain ⟨m, h1, h2, h3, h4⟩ := foldl_max (z :: zs) z
    exact ⟨m, h1, h3, h4.elim (fun e => e ▸ List.mem_cons_self) id⟩
theorem idx_facts {l : List Nat} {m : Nat} (hm : m ∈ l) : ∃ k, k < l.length ∧ l.getD k 0 = m ∧ Lib.idxOf (l.map (fun x : Nat => (x : Int))) (m : Int) = (k : Int) := by
  obtain ⟨k, h1, h2, h3⟩ := first_at hm
  refine ⟨k, h1, h2, ?_⟩
  have := Lib.idxOf_hit (l.map (fun x : Nat => (x : Int))) l.length k (m : Int) h1 (by simp) (by simp [List.getD, List.getElem?_eq_getElem h1] at h2 ⊢; omega) (fun j hj => by
    have h4 := h3 j hj
    have hj1 : j < l.length := by omega
    simp [List.getD, List.getElem?_eq_getElem hj1] at h4 ⊢; omega)
  rw [List.take_of_length_le (by simp)] at this
  exact this
structure ShareOk (counts sh : List Nat) : Prop where
  sum : sumL sh = 64
  len : sh.length ≤ counts.length
  last : 0 < sh.getD (sh.length - 1) 0
  has : ∀ i, 0 < counts.getD i 0 → 0 < sh.getD i 0
structure Sh2 (counts : List Nat) (k : Nat) (out : List Nat) : Prop where
  len : out.length ≤ k
  last : out = [] ∨ 0 < out.getD (out.length - 1) 0
  has : ∀ i, i < k → 0 < counts.getD i 0 → 0 < out.getD i 0
  most : ∀ x ∈ out, x ≤ 64
  nzs : nz out ≤ nz (counts.take k)
theorem Sh2.sum_le {counts out : List Nat} {k : Nat} (h : Sh2 counts k out) : sumL out ≤ 64 * k := by
  have h1 := sum_le_nz h.most
  have h2 := nz_le out
  have h3 := h.len
  have h4 : 64 * nz out ≤ 64 * k := Nat.mul_le_mul_left _ (by omega)
  omega
theorem Sh2.skip {counts out : List Nat} {k : Nat} (h : Sh2 counts k out) (hx : counts[k]? = some 0) : Sh2 counts (k + 1) out := by
  refine ⟨by have := h.len; omega, h.last, fun i hi hc => ?_, h.most, by rw [nz_step hx]; have := h.nzs; simpa using this⟩
  by_cases e : i = k
  · subst e; simp [List.getD, hx] at hc
  · exact h.has i (by omega) hc
theorem pad_eq {out : List Nat} {k x : Nat} (h : out.length ≤ k) : (out ++ List.replicate (k - out.length + 1) 0).set k x = out ++ (List.replicate (k - out.length) 0 ++ [x]) := by
  rw [List.set_append_right _ _ h, List.replicate_succ', List.set_append_right _ _ (by simp)]
  simp
theorem sumL_zeros : ∀ n : Nat, sumL (List.replicate n 0) = 0
  | 0 => rfl
  | n + 1 => by rw [List.replicate_succ, sumL, sumL_zeros n]
theorem nz_zeros : ∀ n : Nat, nz (List.replicate n 0) = 0
  | 0 => rfl
  | n + 1 => by rw [List.replicate_succ, nz, nz_zeros n]; rfl
theorem Sh2.put {counts out : List Nat} {k c x : Nat} (h : Sh2 counts k out) (hc : counts[k]? = some c) (h0 : 0 < c) (hx : 0 < x) (hx2 : x ≤ 64) :
    Sh2 counts (k + 1) (out ++ (List.replicate (k - out.length) 0 ++ [x])) ∧ sumL (out ++ (List.replicate (k - out.length) 0 ++ [x])) = sumL out + x := by
  have hl := h.len
  have hlen : (out ++ (List.replicate (k - out.length) 0 ++ [x])).length = k + 1 := by simp; omega
  constructor
  · refine ⟨by omega, .inr ?_, fun i hi hci => ?_, fun y hy => ?_, ?_⟩
    · rw [hlen]
      simp only [List.getD, Nat.add_sub_cancel]
      rw [List.getElem?_append_right hl, List.getElem?_append_right (by simp), List.length_replicate, Nat.sub_self]
      simpa using hx
    · simp only [List.getD]
      by_cases e : i = k
      · subst e
        rw [List.getElem?_append_right hl, List.getElem?_append_right (by simp), List.length_replicate, Nat.sub_self]
        simpa using hx
      · have h1 := h.has i (by omega) hci
        have h2 : i < out.length := by
          rcases Nat.lt_or_ge i out.length with h' | h'
          · exact h'
          · simp [List.getD, List.getElem?_eq_none h'] at h1
        rw [List.getElem?_append_left h2]
        exact h1
    · rcases List.mem_append.1 hy with hy | hy
      · exact h.most y hy
      · rcases List.mem_append.1 hy with hy | hy
        · have := (List.mem_replicate.1 hy).2; omega
        · have : y = x := by simpa using hy
          omega
    · rw [nz_step hc, if_pos h0, nz_append, nz_append, nz_zeros]
      have := h.nzs
      simp only [nz, if_pos hx]
      omega
  · rw [sumL_append, sumL_append, sumL_zeros]; simp [sumL]
structure Sh3 (counts out : List Nat) : Prop where
  ne : out ≠ []
  len : out.length ≤ counts.length
  last : 0 < out.getD (out.length - 1) 0
  has : ∀ i, 0 < counts.getD i 0 → 0 < out.getD i 0
  nzs : nz out ≤ 32
theorem Sh3.of {counts out : List Nat} (h : Sh2 counts counts.length out) (h0 : 0 < nz counts) (h32 : nz counts ≤ 32) : Sh3 counts out := by
  have hne : out ≠ [] := by
    rintro rfl
    obtain ⟨i, hi⟩ : ∃ i, 0 < counts.getD i 0 := by
      clear h h32
      induction counts with
      | nil => simp [nz] at h0
      | cons c r ih =>
        by_cases hc : 0 < c
        · exact ⟨0, by simpa using hc⟩
        · simp only [nz, if_neg hc, Nat.zero_add] at h0
          obtain ⟨i, hi⟩ := ih h0
          exact ⟨i + 1, by simpa using hi⟩
    have hlt : i < counts.length := by
      rcases Nat.lt_or_ge i counts.length with h' | h'
      · exact h'
      · simp [List.getD, List.getElem?_eq_none h'] at hi
    have := h.has i hlt hi
    simp at this
  refine ⟨hne, h.len, h.last.resolve_left hne, fun i hi => h.has i ?_ hi, by have := h.nzs; rw [List.take_of_length_le (Nat.le_refl _)] at this; omega⟩
  rcases Nat.lt_or_ge i counts.length with h' | h'
  · exact h'
  · simp [List.getD, List.getElem?_eq_none h'] at hi
theorem getD_set (l : List Nat) (k i x : Nat) : (l.set k x).getD i 0 = if i = k ∧ k < l.length then x else l.getD i 0 := by
  simp only [List.getD, List.getElem?_set]
  by_cases e : k = i
  · subst e
    by_cases hl : k < l.length
    · simp [hl]
    · simp [hl]
  · have : ¬ (i = k ∧ k < l.length) := fun h => e h.1.symm
    rw [if_neg e, if_neg this]
theorem Sh3.set {counts out : List Nat} {k x : Nat} (h : Sh3 counts out) (hk : k < out.length) (h0 : 0 < out.getD k 0) (hx : 0 < x) : Sh3 counts (out.set k x) := by
  refine ⟨by intro e; have := congrArg List.length e; rw [List.length_set, List.length_nil] at this; omega, by simpa using h.len, ?_, fun i hi => ?_, Nat.le_trans (nz_set out k x hk h0) h.nzs⟩
  · rw [getD_set, List.length_set]
    split
    · exact hx
    · exact h.last
  · rw [getD_set]
    split
    · exact hx
    · exact h.has i hi
theorem Sh3.max_pos {counts out : List Nat} (h : Sh3 counts out) {m : Nat} (hm : ∀ x ∈ out, x ≤ m) : 0 < m := by
  have h1 := h.last
  have h2 : out.length - 1 < out.length := by
    have := List.length_pos_iff.2 h.ne
    omega
  have := hm _ (getD_mem' h2)
  omega
theorem Sh3.max_two {counts out : List Nat} (h : Sh3 counts out) {m : Nat} (hm : ∀ x ∈ out, x ≤ m) (hs : 64 < sumL out) : 2 ≤ m := by
  have h1 := sum_le_nz hm
  have h2 := h.nzs
  have h3 : m * nz out ≤ m * 32 := Nat.mul_le_mul_left _ h2
  omega
end Go.Proofs.YtaelgbbnmjbjiaaGreat
namespace Go.Proofs.YtaelgbbnmjbjiaaGreat.Pl
def crcP : Nat := 2197175160
def st (x : Nat) : Nat := (x >>> 1) ^^^ (if x % 2 = 1 then crcP else 0)
theorem st_lt {x : Nat} (h : x < 4294967296) : st x < 4294967296 := by
  unfold st
  have h1 : x >>> 1 < 2 ^ 32 := by rw [Nat.shiftRight_eq_div_pow]; omega
  have h2 : (if x % 2 = 1 then crcP else 0) < 2 ^ 32 := by split <;> simp [crcP]
  exact Nat.xor_lt_two_pow h1 h2
theorem xor_mod2 (a b : Nat) : (a ^^^ b) % 2 = (a % 2 + b % 2) % 2 := by
  have h1 : ((a ^^^ b) % 2 = 1) ↔ ¬ ((a % 2 = 1) ↔ (b % 2 = 1)) := Nat.xor_mod_two_eq_one
  rcases Nat.mod_two_eq_zero_or_one a with ha | ha <;> rcases Nat.mod_two_eq_zero_or_one b with hb | hb <;> rcases Nat.mod_two_eq_zero_or_one (a ^^^ b) with hc | hc <;> simp_all
theorem st_xor (a b : Nat) : st (a ^^^ b) = st a ^^^ st b := by
  unfold st
  rw [Nat.shiftRight_xor_distrib, xor_mod2]
  rcases Nat.mod_two_eq_zero_or_one a with ha | ha <;> rcases Nat.mod_two_eq_zero_or_one b with hb | hb <;> simp only [ha, hb]
  · simp
  · simp [Nat.xor_assoc]
  · simp only [if_true]
    simp
    rw [Nat.xor_assoc, Nat.xor_assoc]
    congr 1
    rw [Nat.xor_comm]
  · simp
    rw [Nat.xor_assoc, ← Nat.xor_assoc crcP, Nat.xor_comm crcP (b >>> 1), Nat.xor_assoc (b >>> 1), Nat.xor_self, Nat.xor_zero]
def feed (x : Nat) (l : List Nat) : Nat := l.foldl (fun x b => st (x ^^^ b)) x
theorem feed_append (x : Nat) (l r : List Nat) : feed x (l ++ r) = feed (feed x l) r := by simp [feed]
theorem feed_lt {l : List Nat} : ∀ {x : Nat}, x < 4294967296 → (∀ b ∈ l, b < 2) → feed x l < 4294967296 := by
  induction l with
  | nil => intro x h _; exact h
  | cons b l ih =>
    intro x h hb
    have hx : x ^^^ b < 4294967296 := Nat.xor_lt_two_pow (n := 32) h (by have := hb b (by simp); omega)
    exact ih (st_lt hx) (fun c hc => hb c (by simp [hc]))
def num : List Nat → Nat
  | [] => 0
  | b :: r => b + 2 * num r
def stN : Nat → Nat → Nat
  | 0, x => x
  | n + 1, x => stN n (st x)
theorem st_split (x b m : Nat) (hb : b < 2) : st (x ^^^ (b + 2 * m)) = st (x ^^^ b) ^^^ m := by
  have e : b + 2 * m = b ^^^ (2 * m) := by
    have h1 : (b ^^^ (2 * m)) / 2 = m := by
      have : (b ^^^ (2 * m)) / 2 = (b / 2) ^^^ (2 * m / 2) := by
        have := Nat.shiftRight_xor_distrib (a := b) (b := 2 * m) (i := 1)
        simpa [Nat.shiftRight_eq_div_pow] using this
      rw [this, Nat.div_eq_of_lt hb]; simp
    have h2 : (b ^^^ (2 * m)) % 2 = b := by rw [xor_mod2]; omega
    omega
  rw [e, ← Nat.xor_assoc, st_xor]
  congr 1
  unfold st
  rw [if_neg (by omega), Nat.xor_zero, Nat.shiftRight_eq_div_pow]
  omega
theorem feed_num : ∀ (l : List Nat) (x : Nat), (∀ b ∈ l, b < 2) → feed x l = stN l.length (x ^^^ num l)
  | [], x, _ => by simp [feed, stN, num]
  | b :: r, x, h => by
    show feed (st (x ^^^ b)) r = stN r.length (st (x ^^^ (b + 2 * num r)))
    rw [feed_num r _ (fun c hc => h c (by simp [hc])), st_split x b _ (h b (by simp))]
def bitsOf (b : Nat) : List Nat := [b % 2, b / 2 % 2, b / 4 % 2, b / 8 % 2, b / 16 % 2, b / 32 % 2, b / 64 % 2, b / 128 % 2]
theorem bitsOf_lt (b : Nat) : ∀ x ∈ bitsOf b, x < 2 := by
  intro x hx
  simp only [bitsOf, List.mem_cons, List.not_mem_nil, or_false] at hx
  omega
theorem num_bitsOf (b : Nat) (h : b < 256) : num (bitsOf b) = b := by
  simp only [bitsOf, num]; omega
def crcByte (x b : Nat) : Nat := stN 8 (x ^^^ b)
theorem crcByte_feed (x b : Nat) (h : b < 256) : crcByte x b = feed x (bitsOf b) := by
  rw [feed_num _ _ (bitsOf_lt b), num_bitsOf b h]; rfl
def crcFold (l : List UInt8) : Nat := l.foldl (fun x b => crcByte x b.toNat) 4294967295
def crcL (l : List UInt8) : Nat := 4294967295 ^^^ crcFold l
def bitsL (l : List UInt8) : List Nat := l.flatMap fun b => bitsOf b.toNat
theorem crcFold_feed (l : List UInt8) : crcFold l = feed 4294967295 (bitsL l) := by
  unfold crcFold bitsL
  generalize 4294967295 = x
  induction l generalizing x with
  | nil => rfl
  | cons b l ih =>
    rw [List.foldl_cons, ih, List.flatMap_cons, feed_append, crcByte_feed _ _ b.toNat_lt]
theorem bitsL_lt (l : List UInt8) : ∀ x ∈ bitsL l, x < 2 := by
  intro x hx
  obtain ⟨b, _, h⟩ := List.mem_flatMap.1 hx
  exact bitsOf_lt _ x h
theorem crcFold_lt (l : List UInt8) : crcFold l < 4294967296 := by
  rw [crcFold_feed]; exact feed_lt (by omega) (bitsL_lt l)
theorem crcL_lt (l : List UInt8) : crcL l < 4294967296 := Nat.xor_lt_two_pow (n := 32) (by omega) (crcFold_lt l)
end Go.Proofs.YtaelgbbnmjbjiaaGreat.Pl
namespace Go.Proofs.YtaelgbbnmjbjiaaGreat
open Go.RowKit
theorem foldl_crc_take {l : List UInt8} {k : Nat} {x : UInt8} (h : l[k]? = some x) (s : Nat) : (l.take (k + 1)).foldl (fun x b => Pl.crcByte x b.toNat) s = Pl.crcByte ((l.take k).foldl (fun x b => Pl.crcByte x b.toNat) s) x.toNat := by
  have hk : k < l.length := by
    rcases Nat.lt_or_ge k l.length with h' | h'
    · exact h'
    · rw [List.getElem?_eq_none h'] at h; cases h
  rw [List.getElem?_eq_getElem hk] at h
  injection h with h
  rw [List.take_succ_eq_append_getElem hk, List.foldl_append, List.foldl_cons, List.foldl_nil, h]
def crcTo (l : List UInt8) (k : Nat) : Nat := (l.take k).foldl (fun x b => Pl.crcByte x b.toNat) 4294967295
theorem wrapu32_nat {n : Nat} (h : n < 4294967296) : IntKind.u32.wrap (n : Int) = (n : Int) := by
  rw [IntKind.wrap_u32]; omega
theorem ofInt32 {a : Nat} (ha : a < 4294967296) : (BitVec.ofInt 32 (a : Int)).toNat = a := by
  rw [BitVec.ofInt_natCast, BitVec.toNat_ofNat]; omega
theorem u32_xor_nat (a b : Nat) (ha : a < 4294967296) (hb : b < 4294967296) : bits .xor .u32 (a : Int) (b : Int) = ((a ^^^ b : Nat) : Int) := by
  unfold bits
  show IntKind.u32.wrap ((BitVec.ofInt 32 (a : Int) ^^^ BitVec.ofInt 32 (b : Int)).toNat : Int) = _
  rw [BitVec.toNat_xor, ofInt32 (by omega), ofInt32 (by omega)]
  exact wrapu32_nat (Nat.xor_lt_two_pow (n := 32) ha hb)
theorem u32_and_nat (a b : Nat) (ha : a < 4294967296) (hb : b < 4294967296) : bits .and .u32 (a : Int) (b : Int) = ((a &&& b : Nat) : Int) := by
  unfold bits
  show IntKind.u32.wrap ((BitVec.ofInt 32 (a : Int) &&& BitVec.ofInt 32 (b : Int)).toNat : Int) = _
  rw [BitVec.toNat_and, ofInt32 (by omega), ofInt32 (by omega)]
  exact wrapu32_nat (Nat.lt_of_le_of_lt Nat.and_le_left ha)
theorem u32_and1 {a : Nat} (ha : a < 4294967296) : bits .and .u32 (a : Int) 1 = ((a % 2 : Nat) : Int) := by
  rw [show (1 : Int) = ((1 : Nat) : Int) from rfl, u32_and_nat a 1 ha (by omega), Nat.and_one_is_mod]
theorem st_val {y : Nat} (hy : y < 4294967296) : bits .xor .u32 ((y : Int) / 2) (bits .and .u32 2197175160 (-((y : Int) % 2) % 4294967296)) = ((Pl.st y : Nat) : Int) := by
  have e0 : (y : Int) / 2 = ((y / 2 : Nat) : Int) := by omega
  unfold Pl.st
  rw [Nat.shiftRight_eq_div_pow, Nat.pow_one, e0]
  rcases Nat.mod_two_eq_zero_or_one y with h | h
  · rw [show -((y : Int) % 2) % 4294967296 = ((0 : Nat) : Int) by omega, show (2197175160 : Int) = ((2197175160 : Nat) : Int) from rfl, u32_and_nat _ _ (by omega) (by omega), u32_xor_nat _ _ (by omega) (by simp), h]
    simp
  · rw [show -((y : Int) % 2) % 4294967296 = ((4294967295 : Nat) : Int) by omega, show (2197175160 : Int) = ((2197175160 : Nat) : Int) from rfl, u32_and_nat _ _ (by omega) (by omega), show (2197175160 &&& 4294967295 : Nat) = 2197175160 by decide, u32_xor_nat _ _ (by omega) (by omega), h]
    simp [Pl.crcP]
theorem crcTo_end {l : List UInt8} {n : Nat} (h : l.length = n) : 4294967295 ^^^ crcTo l n = Pl.crcL l := by
  unfold crcTo Pl.crcL Pl.crcFold
  rw [List.take_of_length_le (by omega)]
set_option maxHeartbeats 1000000 in
set_option maxRecDepth 10000 in
theorem sumsCrc (A : Option Addr) (n c : Nat) (l : List UInt8) (w : World) (hl : l.length = n) (hr : Bs w A l) (hn : n ≤ 1000000000000) :
    Calls Tryz.prog 35 #[.slice A n c] w fun e w' => e = .returned (.int .i64 (Pl.crcL l : Nat)) ∧ w' = w := by
  have HL := Lib.hid hl
  have HR := Lib.hid hr
  clear hl hr
  go_enter Tryz.func35, Tryz.ntmps35
  go_wp2
  go_loopg [3, 8] n (fun gg s3 s8 wr => ∃ k x : Nat, k ≤ n ∧ n - k ≤ gg ∧ s3 = .int .u32 (x : Int) ∧ s8 = .int .i64 (k : Int) ∧ x = crcTo l k ∧ x < 4294967296 ∧ wr = w)
  case atStart => exact ⟨0, 4294967295, by omega, by omega, rfl, rfl, by simp [crcTo], by omega, rfl⟩
  case round =>
    obtain ⟨k, x, hk, hgg, rfl, rfl, hx, hx32, rfl⟩ := hrel
    by_cases hkn : k < n
    · obtain ⟨b, o, u, hA, hu, hc⟩ := HR.out.at_ (by rw [HL.out]; exact hkn : k < l.length)
      subst hA
      have hu8 : u.toNat < 256 := u.toNat_lt
      have HX := Lib.hid hx
      clear hx
      have e1 := u32_xor_nat x u.toNat hx32 (by omega)
      have hx1 : x ^^^ u.toNat < 4294967296 := Nat.xor_lt_two_pow (n := 32) hx32 (by omega)
      go_wp2
      clear e1
      have HY := Lib.hid (rfl : x ^^^ u.toNat = x ^^^ u.toNat)
      generalize hy : x ^^^ u.toNat = y0 at HY hx1 ⊢
      go_loopg [3, 16] 8 (fun gg s3 s16 wi => ∃ j y : Nat, j ≤ 8 ∧ 8 - j ≤ gg ∧ s3 = .int .u32 (y : Int) ∧ s16 = .int .i64 (j : Int) ∧ Pl.stN (8 - j) y = Pl.stN 8 y0 ∧ y < 4294967296 ∧ wi = wr)
      case atStart => exact ⟨0, y0, by omega, by omega, rfl, rfl, rfl, hx1, rfl⟩
      case round =>
        obtain ⟨j, y, hj, hgj, rfl, rfl, hst, hy32, rfl⟩ := hrel
        by_cases hj8 : j < 8
        · have HST := Lib.hid hst
          clear hst
          have e2 := u32_and1 hy32
          have HV := Lib.hid (st_val hy32)
          have hy1 := Pl.st_lt hy32
          go_wp2
          rw [HV.out]
          go_roundg (8 - (j + 1))
          case measure => omega
          case rel => exact ⟨j + 1, Pl.st y, by omega, by omega, rfl, by go_num, by rw [← HST.out, show 8 - j = (8 - (j + 1)) + 1 by omega]; rfl, hy1, rfl⟩
        · obtain rfl : j = 8 := by omega
          have hn8 : y = Pl.stN 8 y0 := by rw [← hst]; rfl
          have HN := Lib.hid (show y = crcTo l (k + 1) by rw [hn8, ← hy]; unfold crcTo; rw [foldl_crc_take hu]; rw [show (l.take k).foldl (fun x b => Pl.crcByte x b.toNat) 4294967295 = x from HX.out.symm]; rfl)
          clear hn8 hst
          go_wp2
          go_roundg (n - (k + 1))
          case measure => omega
          case rel => exact ⟨k + 1, y, by omega, by omega, rfl, by go_num, HN.out, hy32, rfl⟩
    · obtain rfl : k = n := by omega
      have HV := Lib.hid (show 4294967295 ^^^ x = Pl.crcL l by rw [hx]; exact crcTo_end HL.out)
      clear hx
      have hx2 : 4294967295 ^^^ x < 4294967296 := Nat.xor_lt_two_pow (n := 32) (by omega) hx32
      have HE := Lib.hid (show wrap64 (bits .xor .u32 IntKind.u32.max (x : Int)) = ((Pl.crcL l : Nat) : Int) by
        rw [show IntKind.u32.max = ((4294967295 : Nat) : Int) by decide, u32_xor_nat _ _ (by omega) hx32, HV.out, wrap64_nat (by rw [← HV.out]; omega)])
      clear hx2
      go_wp2
      go_ret
      exact ⟨ret_int HE.out, rfl⟩
theorem Own.fresh (w : World) (e : TypeId) (xs : List Value) (n : Nat) (h : xs.length = n) (hn : n ≤ 1000000000000 := by omega) : Own (w.alloc (.cells xs.toArray e)) w.heap.size e (some ⟨w.heap.size, 0, none⟩) n n xs :=
  ⟨by simpa using h, .inr ⟨w.heap.size, n, xs.toArray, rfl, Nat.le_refl _, heap_alloc_new w _, Nat.le_refl _, by unfold maxLen; omega, by simpa using h, by simp [List.take_of_length_le, h]⟩⟩
def sumOf (l : List UInt8) : List UInt8 := [UInt8.ofNat (Pl.crcL l), UInt8.ofNat (Pl.crcL l / 256), UInt8.ofNat (Pl.crcL l / 65536), UInt8.ofNat (Pl.crcL l / 16777216)]
set_option maxHeartbeats 1000000 in
theorem packSum (A : Option Addr) (n c : Nat) (l : List UInt8) (w : World) (hl : l.length = n) (hr : Bs w A l) (hn : n ≤ 1000000000000) :
    Calls Tryz.prog 15 #[.slice A n c] w fun e w' => ∃ A' c', e = .returned (.slice A' 4 c') ∧ OwnB w' w.heap.size A' 4 c' (sumOf l) ∧ Below w.heap.size w w' := by
  have HC := Lib.hid (sumsCrc A n c l w hl hr hn)
  have hlt := Pl.crcL_lt l
  generalize hx : Pl.crcL l = x at *
  have HX := Lib.hid hx
  clear hl hr hx
  go_enter Tryz.func15, Tryz.ntmps15
  go_wp2_with fail
  refine HC.out.mono ?_
  rintro e w1 ⟨rfl, rfl⟩
  go_wp2
  go_ret
  refine ⟨_, 4, rfl, ?_, (Below.refl _ _).alloc (Nat.le_refl _) _⟩
  have e : (sumOf l).map u8v = [Value.int .u8 ((x : Int) % 256), .int .u8 ((x : Int) / 256 % 256), .int .u8 ((x : Int) / 65536 % 256), .int .u8 ((x : Int) / 16777216)] := by
    unfold sumOf
    rw [HX.out]
    simp only [List.map_cons, List.map_nil, u8v, UInt8.toNat_ofNat']
    simp only [List.cons.injEq, Value.int.injEq, true_and, and_true]
    refine ⟨by omega, by omega, by omega, by omega⟩
  unfold OwnB
  rw [e]
  exact Own.fresh w1 5 _ 4 rfl
end Go.Proofs.YtaelgbbnmjbjiaaGreat
namespace Go.Proofs.YtaelgbbnmjbjiaaGreat
open Go.RowKit
def NewB (w : World) (base : Nat) (A : Option Addr) (n c : Nat) (l : List UInt8) : Prop :=
  l.length = n ∧ Bs w A l ∧ (∀ b, bk A = some b → base ≤ b ∧ b < w.heap.size) ∧ n ≤ c ∧ c ≤ 9223372036854775807 ∧ ∀ b o, A = some ⟨b, o, none⟩ → ∀ j, w.frozen? ⟨b, o + j, none⟩ = false
theorem OwnB.newB {w : World} {base n c : Nat} {A : Option Addr} {l : List UInt8} (h : OwnB w base A n c l) : NewB w base A n c l := by
  refine ⟨OwnB.length h, OwnB.bs h, fun b hb => Own.lt h hb, (Own.cap h).1, (Own.cap h).2, ?_⟩
  intro b o hA j
  rcases Own.form h with ⟨e, -⟩ | ⟨g, e, -⟩
  · rw [e] at hA; cases hA
  · rw [e] at hA
    injection hA with hA
    injection hA with h1 h2
    subst h1; subst h2; subst e
    rw [Nat.zero_add]
    exact World.ownsRow.frozenAt h j
theorem NewB.kept {w w' : World} {row : Option Nat} {base n c : Nat} {A : Option Addr} {l : List UInt8} (h : NewB w base A n c l) (hg : w.grownBy w' row) (hne : bk A = none ∨ bk A ≠ row) : NewB w' base A n c l := by
  obtain ⟨h1, h2, h3, h4, h5, h6⟩ := h
  refine ⟨h1, Rd.keptB h2 hg hne, fun b hb => ⟨(h3 b hb).1, Nat.lt_of_lt_of_le (h3 b hb).2 hg.size⟩, h4, h5, fun b o hA j => ?_⟩
  rw [← h6 b o hA j]
  have hb : bk A = some b := by rw [hA]; rfl
  have := hg.block b (h3 b hb).2 (fun e => by
    rcases hne with h | h
    · rw [hb] at h; cases h
    · exact h (by rw [hb, e]))
  exact World.frozen?_of_block this
theorem NewB.later {w w' : World} {base n c : Nat} {A : Option Addr} {l : List UInt8} (h : NewB w base A n c l) (hb : Below w.heap.size w w') : NewB w' base A n c l := by
  refine h.kept (grown_of_below hb) ?_
  cases A <;> simp [bk]
theorem NewB.mono {w : World} {base base' n c : Nat} {A : Option Addr} {l : List UInt8} (h : NewB w base A n c l) (hb : base' ≤ base) : NewB w base' A n c l :=
  ⟨h.1, h.2.1, fun b e => ⟨Nat.le_trans hb (h.2.2.1 b e).1, (h.2.2.1 b e).2⟩, h.2.2.2⟩
theorem NewB.nil (w : World) (base : Nat) : NewB w base none 0 0 [] := ⟨rfl, Rd.nil _ _, (fun b hb => by cases hb), Nat.le_refl _, by omega, (fun b o hA => by cases hA)⟩
theorem splice_fill (cur : List Value) (k m : Nat) (v : Value) (h : cur.take k = List.replicate k v) (hl : k + m ≤ cur.length) : (splice cur k (List.replicate m v)).take (k + m) = List.replicate (k + m) v := by
  unfold splice
  rw [h, ← List.append_assoc, List.replicate_append_replicate, List.take_left' (by simp)]
set_option maxHeartbeats 4000000 in
set_option maxRecDepth 10000 in
theorem bytesRepeat (A : Option Addr) (c : Nat) (x : UInt8) (n : Nat) (w : World) (hr : Bs w A [x]) (hn : n ≤ 65536) :
    Calls Tryz.prog 50 #[.slice A 1 c, .int .i64 (n : Int)] w fun e w' => ∃ A' c', e = .returned (.slice A' n c') ∧ NewB w' w.heap.size A' n c' (List.replicate n x) ∧ Below w.heap.size w w' := by
  obtain ⟨b, o, u, rfl, hu, hc⟩ := hr.at_ (k := 0) (by simp)
  obtain rfl : x = u := by simpa using hu
  clear hu hr
  rw [Nat.add_zero] at hc
  by_cases h0 : n = 0
  · subst h0
    go_enter Tryz.func50, Tryz.ntmps50
    go_wp2
    go_ret
    refine ⟨_, 0, rfl, ⟨rfl, Rd.nil _ _, fun b hb => by cases hb; exact ⟨Nat.le_refl _, by simp⟩, by omega, by omega, ?_⟩, (Below.refl _ _).alloc (Nat.le_refl _) _⟩
    intro b o hA j
    injection hA with hA
    injection hA with h1 h2
    subst h1; subst h2
    exact (Blk.new w 5 #[]).frozen _
  · have hM := Lib.hid (show Calls Tryz.prog 89 #[.int .u64 1, .int .u64 (n : Int)] w fun e w' => e = .returned (.tuple #[.int .u64 0, .int .u64 (n : Int)]) ∧ w' = w from (Tryz.bits_Mul 1 n (by omega) (by omega) w).mono fun e w' ⟨h1, h2⟩ => ⟨by rw [h1, Nat.one_mul, Nat.div_eq_of_lt (by omega), Nat.mod_eq_of_lt (by omega)]; rfl, h2⟩)
    have e0 : ((n : Int) == 0) = false := beq_eq_false_iff_ne.2 (by omega)
    obtain ⟨cs, hrunM, hle, hcm⟩ := Lib.run_makeNoZero (P := Tryz.prog) w #[3] 22 5 Tryz.underlying22 n (by omega)
    have hcall : (callFunc 90 #[.int .i64 (n : Int)]).run Tryz.prog w = .ok (.value (.slice (some ⟨w.heap.size, 0, none⟩) n cs.size)) ((w.alloc (.cells cs 5)).drewN 2) := by
      rw [run_callFunc_extern Tryz.func90 (by kernel_rfl) (by kernel_rfl) (by kernel_rfl) (e := Extern.BytealgMakeNoZero.makeNoZero #[3] #[22]) (by kernel_rfl), hrunM]
      rfl
    have HH := Lib.hid (heap_alloc_new w (.cells cs 5))
    have HB0 := Lib.hid (show Below w.heap.size w ((w.alloc (.cells cs 5)).drewN 2) from ((Below.refl _ _).alloc (Nat.le_refl _) _).trans ((below_drewN _ 2).mono (by simp)))
    obtain ⟨L, rfl⟩ : ∃ L : List Value, cs = L.toArray := ⟨cs.toList, by simp⟩
    have hL : n ≤ L.length := by simpa using hle
    have hhb : w.heap.size ≤ w.heap.size := Nat.le_refl _
    have hbw := block_lt hc
    clear hrunM
    go_enter Tryz.func50, Tryz.ntmps50
    by_cases h8 : 8192 < n
    all_goals
      go_wp2_with fail
      refine hM.out.mono ?_
      rintro e w1 ⟨rfl, rfl⟩
      go_wp2_with (with_reducible refine wpList_copy_splice rfl (.tmp 58) (.tmp 59) 22 22 ?ho 5 Tryz.underlying22 (by kernel_rfl) (some ⟨w1.heap.size, 0, none⟩) (some ⟨b, o, none⟩) n n 1 c ?hd ?hs w1.heap.size 0 L 5 ?hg [u8v x] ?hn ?hpos ?hfit ?h1 w1.heap.size w1 ?hb ?hBg ?_; (case ho => exact rfl))
      case hd => rfl
      case hs => rfl
      case hg => exact HH.out
      case hn =>
        show 1 = Nat.min 1 n
        rw [show Nat.min 1 n = 1 from Nat.min_eq_left (by omega)]
      case hpos =>
        intro j v hj
        obtain rfl : j = 0 := by
          have := (List.getElem?_eq_some_iff.1 hj).1
          simp at this; omega
        rw [Nat.add_zero, hc]
        simpa [u8v] using hj
      case hfit => simp; omega
      case h1 => intro v hv; simp at hv; subst hv; rfl
      case hb => exact HB0.out
      case hBg => exact Nat.le_refl _
      intro w2 hg2 hb2
      have HR2 := Lib.hid (show ∃ cur : List Value, w2.heap[w1.heap.size]? = some (.cells cur.toArray 5 (0, 0)) ∧ n ≤ cur.length ∧ cur.take 1 = List.replicate 1 (u8v x) from
        ⟨_, hg2.out, by rw [length_splice _ _ _ (by simp; omega)]; exact hL, by simp [splice]⟩)
      have HB2 := Lib.hid hb2
      clear hg2 hb2 hcall HH HB0 hc
      go_wp2
      go_loopg [10] n (fun gg s10 wr => ∃ (k : Nat) (cur : List Value), 1 ≤ k ∧ k ≤ n ∧ n - k ≤ gg ∧ s10 = .int .i64 (k : Int) ∧ wr.heap[w1.heap.size]? = some (.cells cur.toArray 5 (0, 0)) ∧ n ≤ cur.length ∧ cur.take k = List.replicate k (u8v x) ∧ Below w1.heap.size w1 wr)
      case atStart =>
        obtain ⟨cur, q1, q2, q3⟩ := HR2.out
        exact ⟨1, cur, by omega, by omega, by omega, rfl, q1, q2, q3, HB2.out⟩
      case round =>
        obtain ⟨k, cur, hk1, hkn, hgg, rfl, hg, hlen, htake, hbel⟩ := hrel
        have HG := Lib.hid hg
        have HT := Lib.hid htake
        have HB := Lib.hid hbel
        clear hg htake hbel
        by_cases hlt : k < n
        · obtain ⟨ch, hm1, hm2, hc1, hc2⟩ : ∃ ch : Nat, (8192 < n → min (k : Int) 8192 = ch) ∧ (¬ 8192 < n → min (k : Int) n = ch) ∧ 1 ≤ ch ∧ ch ≤ k := by
            by_cases h : 8192 < n
            · exact ⟨min k 8192, fun _ => by omega, fun h' => absurd h h', by omega, by omega⟩
            · exact ⟨k, fun h' => absurd h' h, fun _ => by omega, by omega, by omega⟩
          first | have hmin := hm1 h8 | have hmin := hm2 h8
          clear hm1 hm2
          obtain ⟨m, hm, hm1, hm2⟩ : ∃ m, m = Nat.min ch (n - k) ∧ 1 ≤ m ∧ k + m ≤ n := ⟨_, rfl, by simp only [Nat.min_def]; split <;> omega, by simp only [Nat.min_def]; split <;> omega⟩
          have HSF := Lib.hid (splice_fill cur k m (u8v x) HT.out (by omega))
          have HSL := Lib.hid (length_splice cur k (List.replicate m (u8v x)) (by rw [List.length_replicate]; omega))
          have HM := Lib.hid hm
          clear hm
          have i1 : (0 : Int) ≤ (ch : Int) := by omega
          have i2 : (ch : Int) ≤ (n : Int) := by omega
          have i3 : (0 : Int) ≤ (k : Int) := by omega
          have i4 : (k : Int) ≤ (n : Int) := by omega
          have i5 : ¬ n = k := by omega
          go_wp2
          have hmk : m ≤ k := by
            have h1 := HM.out
            have h2 : Nat.min ch (n - k) ≤ ch := Nat.min_le_left _ _
            omega
          have Q1 := Lib.hid (show (List.replicate m (u8v x)).length = Nat.min ch (n - k) by rw [List.length_replicate]; exact HM.out)
          have Q2 := Lib.hid (show 0 < (List.replicate m (u8v x)).length → (some (⟨w1.heap.size, k, none⟩ : Addr)) = some ⟨w1.heap.size, k, none⟩ ∧ ∃ ad, (some (⟨w1.heap.size, 0, none⟩ : Addr)) = some ad ∧ ∀ j v, (List.replicate m (u8v x))[j]? = some v → wr.cell? (ad.add j) = some v from fun _ => ⟨rfl, _, rfl, fun j v hj => by
              have hjm : j < m := by
                have := (List.getElem?_eq_some_iff.1 hj).1
                simpa using this
              rw [Addr.add_lit, Nat.zero_add, cell_of_row wr w1.heap.size j cur.toArray 5 (0, 0) HG.out, List.getElem?_toArray, ← List.getElem?_take_of_lt (show j < k by omega), HT.out]
              rw [List.getElem?_replicate, if_pos (by omega)]
              rw [List.getElem?_replicate, if_pos hjm] at hj
              exact hj⟩)
          have Q3 := Lib.hid (show k + (List.replicate m (u8v x)).length ≤ cur.length by rw [List.length_replicate]; omega)
          have Q4 := Lib.hid (show ∀ v ∈ List.replicate m (u8v x), v.oneCell' = true from fun v hv => by rw [List.eq_of_mem_replicate hv]; rfl)
          go_region_law (refine step_copy_splice rfl (.tmp 70) (.tmp 73) 22 22 rfl 5 Tryz.underlying22 (by kernel_rfl) (some ⟨w1.heap.size, k, none⟩) (some ⟨w1.heap.size, 0, none⟩) (n - k) (n - k) ch n ?hd ?hs w1.heap.size k cur 5 HG.out (List.replicate m (u8v x)) Q1.out Q2.out Q3.out Q4.out w1.heap.size w1 HB.out.drew (Nat.le_refl _) ?_; (case hd => simp [Act.eval, Act.put]); (case hs => simp [Act.eval, Act.put]); intro w4 hg4 hb4; rw [List.length_replicate])
          all_goals go_wp2
          all_goals go_roundg (n - (k + m))
          all_goals first
            | omega
            | exact ⟨k + m, splice cur k (List.replicate m (u8v x)), by omega, by omega, by omega, int_eq (by rw [IntKind.wrap_i64]; omega), hg4.out, by rw [HSL.out]; exact hlen, HSF.out, hb4⟩
        · obtain rfl : k = n := by omega
          go_wp2
          go_ret
          refine ⟨_, k, rfl, ⟨by simp, ?_, fun b hb => by cases hb; exact ⟨Nat.le_refl _, (Array.getElem?_eq_some_iff.1 HG.out).1⟩, Nat.le_refl _, by omega, ?_⟩, HB.out⟩
          · intro _
            refine ⟨_, 0, rfl, fun j hj => ?_⟩
            have hjk : j < k := by simpa using hj
            rw [Nat.zero_add, cell_of_row wr w1.heap.size j cur.toArray 5 (0, 0) HG.out, List.getElem?_toArray, ← List.getElem?_take_of_lt hjk, HT.out, List.map_replicate]
          · intro b o hA j
            injection hA with hA
            injection hA with h1 h2
            subst h1; subst h2
            exact frozen_of_row wr _ _ cur.toArray 5 HG.out
end Go.Proofs.YtaelgbbnmjbjiaaGreat
