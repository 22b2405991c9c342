/-
  Parts of the proofs, in the order in which they build: V2c, Y6, Y7, V2d, Y8, L4.
-/
import Derived.Test.YtaelgbbnmjbjiaaGreatKd
import Derived.Test.YtaelgbbnmjbjiaaGreatKf
import Derived.Test.YtaelgbbnmjbjiaaGreatKg
import Derived.Deep.CutBlock
import Derived.Deep.CutRange
import Derived.Deep.RegionWith
set_option linter.unusedSimpArgs false
set_option linter.unusedVariables false
namespace Go.Proofs.YtaelgbbnmjbjiaaGreat
open Go.RowKit
theorem lvK_one {counts : List Nat} {y : Ky} : ∀ k, lvK counts k = [y] → ∃ p wt, y = ⟨wt, 0, [p]⟩ ∧ p < k
  | 0, h => by simp [lvK] at h
  | k + 1, h => by
    rw [lvK] at h
    split at h
    · have hl := congrArg List.length h
      rw [List.length_append, List.length_singleton, List.length_singleton] at hl
      have e : lvK counts k = [] := List.eq_nil_of_length_eq_zero (by omega)
      rw [e] at h
      simp only [List.nil_append, List.length_nil, List.cons.injEq, and_true] at h
      exact ⟨k, _, h.symm, by omega⟩
    · obtain ⟨p, wt, h1, h2⟩ := lvK_one k h
      exact ⟨p, wt, h1, by omega⟩
theorem lvK_step {counts : List Nat} {k x : Nat} (hx : counts[k]? = some x) : lvK counts (k + 1) = if 0 < x then lvK counts k ++ [⟨x, (lvK counts k).length, [k]⟩] else lvK counts k := by
  have e : counts.getD k 0 = x := by simp [List.getD, hx]
  rw [lvK, e]
theorem one_at {l : List Nat} {p : Nat} (hp : p < l.length) : ∀ x ∈ (List.replicate l.length 0).set p 1, x ≤ 1 := fun x hx => by
  rcases List.mem_or_eq_of_mem_set hx with h | h
  · have := List.eq_of_mem_replicate h; omega
  · omega
set_option maxHeartbeats 8000000 in
set_option maxRecDepth 10000 in
theorem refTree (A : Option Addr) (n c : Nat) (counts : List Nat) (w : World) (hl : counts.length = n) (hr : Ns w A counts) (hn0 : 0 < n) (hn : n ≤ 256) (hb : ∀ x ∈ counts, x ≤ 4294967295) (hp : ∃ p, 0 < counts.getD p 0) :
    Calls Tryz.prog 81 #[.slice A n c] w fun e w' => ∃ S cs out M, e = .returned (.tuple #[.slice S n cs, .int .i64 ((M : Nat) : Int)]) ∧ OwnN w' w.heap.size S n cs out ∧ TreeX counts out ∧ (∀ x ∈ out, x ≤ M) ∧ (M = 0 ∨ M ∈ out) ∧ Below w.heap.size w w' := by
  have hsome : lvK counts n ≠ [] := by
    obtain ⟨p, hp⟩ := hp
    refine lvK_some hp n ?_
    rcases Nat.lt_or_ge p n with h | h
    · exact h
    · rw [getD_out (by omega)] at hp; omega
  have HSome := Lib.hid hsome
  have HLk := Lib.hid (fun k hk => lvK_ok hb k (by rw [hl]; exact hk) : ∀ k, k ≤ n → KyOk k (lvK counts k) ∧ (lvK counts k).length ≤ k)
  have HL := Lib.hid hl
  have HR := Lib.hid hr
  have HBd := Lib.hid hb
  clear hl hr hb hp hsome
  obtain ⟨ti, hi, hz0, hz1, hz2⟩ := info_parts elemN_info
  go_enter Tryz.func81, Tryz.ntmps81
  go_wp2_with (at_make; refine wpList_make_full _ rfl _ _ 45 rfl w.heap.size 3 ti _ 1 Tryz.underlying45 hi hz0 hz1 .i64 .i64 n n n rfl rfl rfl rfl (by rw [hz2]; omega) (by unfold maxLen; omega) (Nat.le_refl _) ?_)
  intro w1 hown1 hg1
  rw [made_zeros] at hown1
  have HO1 := Lib.hid (show OwnN w1 w.heap.size (some ⟨w.heap.size, 0, none⟩) n n (List.replicate n 0) from hown1)
  have HB1 := Lib.hid ((Below.refl _ _).grown hg1 (Nat.le_refl _) (fun k hk => by cases hk) : Below w.heap.size w w1)
  have hgB : w.heap.size < w1.heap.size := (Own.lt HO1.out rfl).2
  have HM1 := Lib.hid (⟨RowT.Own.nil _ _ _, fun x hx => by (cases hx), HO1.out, hgB, Nat.le_refl _⟩ : TrM w1 w1.heap.size w.heap.size n none 0 0 [] (List.replicate n 0))
  obtain ⟨go, hgo⟩ : ∃ go, go = w.heap.size := ⟨_, rfl⟩
  obtain ⟨B, hB⟩ : ∃ B, B = w1.heap.size := ⟨_, rfl⟩
  rw [← hgo, ← hB] at HM1 hgB
  rw [← hgo] at HO1
  rw [← hgo]
  have HGo := Lib.hid hgo
  clear hown1 hg1 hi hz0 hz1 hz2 hgo hB HO1
  go_wp2_with fail
  go_loopg [5, 6] n (fun gg s5 s6 wr => ∃ (k m co : Nat) (Ao : Option Addr) (L : List Tg), k ≤ n ∧ n - k ≤ gg ∧ m ≤ k ∧ s5 = .slice Ao m co ∧ s6 = .int .i64 (k : Int) ∧ TrM wr B go n Ao m co L (List.replicate n 0) ∧ L.map (·.ky) = lvK counts k ∧ Below w.heap.size w wr)
  case atStart => exact ⟨0, 0, 0, none, [], by omega, by omega, by omega, rfl, rfl, HM1.out, rfl, HB1.out⟩
  case round =>
    clear HM1 HB1
    obtain ⟨k, m, co, Ao, L, hk, hgg, hmk, rfl, rfl, hM, hK, hbel⟩ := hrel
    have HM := Lib.hid hM
    have HK := Lib.hid hK
    have HB := Lib.hid hbel
    have hml := hM.lst.length
    have HMl := Lib.hid hml
    clear hM hK hbel hml
    by_cases hkn : k < n
    · obtain ⟨b, o, x, hA, hx, hc⟩ := HR.out.at_ (by rw [HL.out]; exact hkn : k < counts.length)
      subst hA
      have hc2 := (HB.out.cell (by simpa using block_lt hc)).trans hc
      have HSt := Lib.hid (lvK_step hx)
      clear hx hc
      by_cases hx0 : 0 < x
      · have g1 : decide ((0 : Int) < x) = true := decide_eq_true (by omega)
        have HSt2 := Lib.hid (show lvK counts (k + 1) = (L ++ [(⟨⟨x, m, [k]⟩, some ⟨wr.heap.size, 0, none⟩, 1, 1⟩ : Tg)]).map (·.ky) by
          rw [HSt.out, if_pos hx0, ← HK.out, List.length_map, HMl.out, List.map_append]; rfl)
        have HMa := Lib.hid (HM.out.later ((Below.refl _ _).alloc (Nat.le_refl _) (.cells #[.int .i64 (k : Int)] 3)))
        have HF := Lib.hid (Own.mono (Own.fresh wr 3 [natv k] 1 rfl) HM.out.hB)
        have hm9 : m ≤ 1000000000 := by omega
        go_wp2_with (at_builtin; refine TgT.wpList_append_new rfl _ _ rfl B Ao m co L (wr.alloc (.cells #[.int .i64 (k : Int)] 3)) ⟨⟨x, m, [k]⟩, some ⟨wr.heap.size, 0, none⟩, 1, 1⟩ _ rfl rfl ?hs HMa.out.lst ?hx hm9 HMa.out.hB ?_)
        case hs => rfl
        case hx => simp [Act.eval]
        intro A3 c3 w3 hown3 hg3
        have HM3 := Lib.hid (HMa.out.app hg3 hown3 (Own.kept HF.out hg3 (TgT.ne_own HMa.out.lst HF.out (by decide))))
        have HB3 := Lib.hid ((HB.out.alloc HB.out.size (.cells #[.int .i64 (k : Int)] 3)).grown hg3 (by have := HB.out.size; simp; omega) (fun k hk => by have := (HMa.out.lst.lt hk).1; have := HGo.out; omega))
        clear hown3 hg3
        go_wp2
        go_roundg (n - (k + 1))
        case measure => omega
        case rel => exact ⟨k + 1, m + 1, c3, A3, _, by omega, by omega, by omega, rfl, by go_num, HM3.out, HSt2.out.symm, HB3.out⟩
      · have g1 : decide ((0 : Int) < x) = false := decide_eq_false (by omega)
        have HSt2 := Lib.hid (show lvK counts (k + 1) = L.map (·.ky) by rw [HSt.out, if_neg hx0, HK.out])
        go_wp2
        go_roundg (n - (k + 1))
        case measure => omega
        case rel => exact ⟨k + 1, m, co, Ao, L, by omega, by omega, by omega, rfl, by go_num, HM.out, HSt2.out.symm, HB.out⟩
    · obtain rfl : k = n := by omega
      have hm0 : m ≠ 0 := by
        rintro rfl
        have := HMl.out
        exact HSome.out (by rw [← HK.out, List.eq_nil_of_length_eq_zero this]; rfl)
      by_cases hm1 : m = 1
      · subst hm1
        obtain ⟨y, hy⟩ : ∃ y, L = [y] := by
          have h := HMl.out
          match L, h with
          | [y], _ => exact ⟨y, rfl⟩
        subst hy
        obtain ⟨p, wt, hyk, hpn⟩ := lvK_one k (y := y.ky) HK.out.symm
        obtain ⟨yk, yA, yn, yc⟩ := y
        simp only at hyk
        subst hyk
        have hrow := HM.out.rows _ (List.mem_singleton.2 rfl)
        simp only at hrow
        obtain rfl : yn = 1 := (OwnN.length hrow).symm
        obtain ⟨g1, hyA, hcy⟩ := OwnN.cell_at hrow (i := 0) (by omega)
        subst hyA
        obtain ⟨g, hA, hg1, hg2, c0, c1, c2⟩ := TgT.at_ HM.out.lst (i := 0) rfl
        subst hA
        have c2' : wr.cell? ⟨g, 2, none⟩ = some (.slice (some ⟨g1, 0, none⟩) 1 yc) := c2
        have hcy' : wr.cell? ⟨g1, 0, none⟩ = some (.int .i64 (p : Int)) := hcy
        obtain ⟨gz, xz, hgz, hgz1, -, hxz, hcz, hfz⟩ := Own.at_ HM.out.out (k := p) hpn
        cases hgz
        have HTx := Lib.hid (show TreeX counts ((List.replicate k 0).set p 1) from .inl ⟨p, wt, by rw [HL.out, ← HK.out]; rfl, by rw [HL.out]⟩)
        have HM5 := Lib.hid (HM.out.set p 1)
        have HB5 := Lib.hid (HB.out.setCell (p := ⟨go, p, none⟩) (by have := HGo.out; show w.heap.size ≤ go; omega) (.int .i64 1))
        have HLe := Lib.hid (show (∀ x ∈ (List.replicate k 0).set p 1, x ≤ 1) ∧ 1 ∈ (List.replicate k 0).set p 1 by
          have h := HL.out
          subst h
          exact ⟨one_at hpn, List.mem_iff_getElem?.2 ⟨p, by simp [hpn]⟩⟩)
        have i1 : (p : Int) < k := by omega
        clear c0 c1 c2 hcy hxz hrow
        go_wp2
        go_ret2
        exact ⟨_, k, _, 1, rfl, by rw [← HGo.out]; exact HM5.out.out, HTx.out, HLe.out.1, .inr HLe.out.2, HB5.out⟩
      · have HK0 := Lib.hid ((HLk.out k (Nat.le_refl _)).1)
        have hmk2 := (HLk.out k (Nat.le_refl _)).2
        rw [← HK.out, List.length_map, HMl.out] at hmk2
        rw [← HK.out] at HK0
        have HMR := Lib.hid (fun f hf => .inr ⟨by rw [HL.out, ← HK.out, List.length_map, HMl.out]; omega, by rw [HL.out, ← HK.out, List.length_map, HMl.out]; exact hf⟩ : ∀ f, MRun (L.map (·.ky)) (List.replicate k 0) m f → TreeX counts f)
        have HM0 := Lib.hid HM.out
        have HB0 := Lib.hid HB.out
        obtain ⟨w2, hw2⟩ : ∃ w2, w2 = wr := ⟨_, rfl⟩
        subst hw2
        have g0 : ((m : Int) == 1) = false := beq_eq_false_iff_ne.2 (by omega)
        clear hmk HM HB HK HMl HSome HLk
        go_wp2_with fail
        go_loopg [5, 7] m (fun gg s5 s7 wr => ∃ (m co nx : Nat) (Ao : Option Addr) (L : List Tg) (out : List Nat), 1 ≤ m ∧ m ≤ gg + 1 ∧ m ≤ k ∧ nx + m ≤ 512 ∧ s5 = .slice Ao m co ∧ s7 = .int .i64 (nx : Int) ∧ TrM wr B go k Ao m co L out ∧ KyOk k (L.map (·.ky)) ∧
          (∀ p, out.getD p 0 + 256 * m ≤ 65536) ∧ (∀ f, MRun (L.map (·.ky)) out nx f → TreeX counts f) ∧ Below w.heap.size w wr)
        case atStart => exact ⟨m, co, m, Ao, L, List.replicate k 0, by omega, by omega, hmk2, by omega, rfl, rfl, HM0.out, HK0.out, fun p => by
            have e : (List.replicate k 0).getD p 0 = 0 := by rw [List.getD, List.getElem?_replicate]; split <;> rfl
            rw [e]; omega, HMR.out, HB0.out⟩
        case round =>
          clear HM0 HB0 HK0 HMR hm0 hm1 hmk2
          obtain ⟨m, co, nx, Ao, L, out, hm, hgg, hmk, hnx, rfl, rfl, hM, hK, hout, hMR, hbel⟩ := hrel
          have HM := Lib.hid hM
          have HK := Lib.hid hK
          have HOut := Lib.hid hout
          have HMR := Lib.hid hMR
          have HB := Lib.hid hbel
          have HMl := Lib.hid hM.lst.length
          clear hM hK hout hMR hbel
          by_cases h1 : 1 < m
          · have HLe := Lib.hid (refLeast Ao B m co L wr HM.out.lst (by omega) (by omega))
            go_wp2_with fail
            refine HLe.out.mono ?_
            rintro e w3 ⟨i, rfl, hle, q3, rfl⟩
            have him : i < m := hle.elim (fun x h => h.2.1)
            have hat := hle
            rw [← HMl.out] at hat
            obtain ⟨a, ha, hak, hamin⟩ := LeastTo.at_ hat
            have HAk := Lib.hid hak
            have HAm := Lib.hid hamin
            have HM3 := Lib.hid (HM.out.later (below_drewN wr q3))
            have HB3 := Lib.hid (HB.out.trans ((below_drewN wr q3).mono HB.out.size))
            obtain ⟨w3, hw3⟩ : ∃ w3, w3 = wr.drewN q3 := ⟨_, rfl⟩
            rw [← hw3] at HM3 HB3 ⊢
            have HRa := Lib.hid (HM3.out.rows a (List.mem_of_getElem? ha))
            obtain ⟨g, hA, hg1, hg2, c0, c1, c2⟩ := TgT.at_ HM3.out.lst ha
            subst hA
            obtain ⟨⟨aw, an, ap⟩, aA, al, ac⟩ := a
            simp only at c0 c1 c2 HRa HAk HAm
            have i1 : (i : Int) < m := by omega
            clear hw3 hle hat ha hak hamin HLe
            go_wp2_with fail
            obtain ⟨wA, hwA⟩ : ∃ wA, wA = w3.alloc (.cells #[.int .i64 (aw : Int), .int .i64 (an : Int), .slice aA al ac] 142) := ⟨_, rfl⟩
            have HPa := Lib.hid (show Blk wA w3.heap.size 142 #[.int .i64 (aw : Int), .int .i64 (an : Int), .slice aA al ac] by rw [hwA]; exact Blk.new w3 _ _)
            have HAl := Lib.hid (show Below w3.heap.size w3 wA by rw [hwA]; exact (Below.refl _ _).alloc (Nat.le_refl _) _)
            rw [← hwA]
            clear hwA c0 c1 c2
            obtain ⟨pa, hpa⟩ : ∃ pa, pa = w3.heap.size := ⟨_, rfl⟩
            rw [← hpa] at HPa ⊢
            clear hpa
            have HMA := Lib.hid (HM3.out.later HAl.out)
            have HBA := Lib.hid (HB3.out.trans (HAl.out.mono HB3.out.size))
            have HRA := Lib.hid (Own.later HRa.out HAl.out)
            clear HM3 HB3 HRa HAl
            refine (refWithout (some ⟨g, 0, none⟩) B m co i L wA HMA.out.lst him (by omega)).mono ?_
            rintro e w4 ⟨S4, m4, c4, rfl, hown4, hb4⟩
            have hm4 := hown4.length
            rw [List.length_eraseIdx_of_lt (by rw [HMl.out]; exact him), HMl.out] at hm4
            have HM4 := Lib.hid (HMA.out.list hb4 hown4 HMA.out.hB (fun x hx => List.mem_of_mem_eraseIdx hx))
            have HB4 := Lib.hid (HBA.out.trans (hb4.mono HBA.out.size))
            have HRa := Lib.hid (Own.later HRA.out hb4)
            have HPa4 := Lib.hid (HPa.out.later hb4)
            obtain ⟨L4, hL4⟩ : ∃ L4, L4 = L.eraseIdx i := ⟨_, rfl⟩
            have HL4 := Lib.hid hL4
            rw [← hL4] at HM4
            have hm4r : m4 + 1 = m := by omega
            have HM4r := Lib.hid hm4r
            have hm4b : 1 ≤ m4 ∧ m4 ≤ 256 := by omega
            clear hown4 hb4 HMA HBA HRA HPa hL4 hm4 hm4r
            have HLe := Lib.hid (refLeast S4 B m4 c4 L4 w4 HM4.out.lst (by omega) (by omega))
            go_wp2_with fail
            refine HLe.out.mono ?_
            rintro e w5 ⟨j, rfl, hle, q5, rfl⟩
            have hjm : j < m4 := hle.elim (fun x h => h.2.1)
            have hat := hle
            rw [← HM4.out.lst.length] at hat
            obtain ⟨b, hb, hbk, hbmin⟩ := LeastTo.at_ hat
            have HBk := Lib.hid hbk
            have HBm := Lib.hid hbmin
            have HM5 := Lib.hid (HM4.out.later (below_drewN w4 q5))
            have HB5 := Lib.hid (HB4.out.trans ((below_drewN w4 q5).mono HB4.out.size))
            have HRa5 := Lib.hid (Own.later HRa.out (below_drewN w4 q5))
            have HPa5 := Lib.hid (HPa4.out.later (below_drewN w4 q5))
            obtain ⟨w5, hw5⟩ : ∃ w5, w5 = w4.drewN q5 := ⟨_, rfl⟩
            rw [← hw5] at HM5 HB5 HRa5 HPa5 ⊢
            have HRb := Lib.hid (HM5.out.rows b (List.mem_of_getElem? hb))
            obtain ⟨g2, hA, hg1, hg2, c0, c1, c2⟩ := TgT.at_ HM5.out.lst hb
            subst hA
            obtain ⟨⟨bw, bn, bp⟩, bA, bl, bc⟩ := b
            simp only at c0 c1 c2 HRb HBk HBm
            have i1 : (j : Int) < m4 := by omega
            clear hw5 hle hat hb hbk hbmin HLe HM4 HB4 HRa HPa4
            go_wp2_with fail
            obtain ⟨wA, hwA⟩ : ∃ wA, wA = w5.alloc (.cells #[.int .i64 (bw : Int), .int .i64 (bn : Int), .slice bA bl bc] 142) := ⟨_, rfl⟩
            have HPb := Lib.hid (show Blk wA w5.heap.size 142 #[.int .i64 (bw : Int), .int .i64 (bn : Int), .slice bA bl bc] by rw [hwA]; exact Blk.new w5 _ _)
            have HAl := Lib.hid (show Below w5.heap.size w5 wA by rw [hwA]; exact (Below.refl _ _).alloc (Nat.le_refl _) _)
            rw [← hwA]
            clear hwA c0 c1 c2
            obtain ⟨pb, hpb⟩ : ∃ pb, pb = w5.heap.size := ⟨_, rfl⟩
            rw [← hpb] at HPb ⊢
            clear hpb
            have HMA := Lib.hid (HM5.out.later HAl.out)
            have HBA := Lib.hid (HB5.out.trans (HAl.out.mono HB5.out.size))
            have HRA := Lib.hid (Own.later HRa5.out HAl.out)
            have HRB := Lib.hid (Own.later HRb.out HAl.out)
            have HPA := Lib.hid (HPa5.out.later HAl.out)
            clear HM5 HB5 HRa5 HRb HPa5 HAl
            refine (refWithout (some ⟨g2, 0, none⟩) B m4 c4 j L4 wA HMA.out.lst hjm (by omega)).mono ?_
            rintro e w6 ⟨S6, m6, c6, rfl, hown6, hb6⟩
            have hm6 := hown6.length
            rw [List.length_eraseIdx_of_lt (by rw [HMA.out.lst.length]; exact hjm), HMA.out.lst.length] at hm6
            have HM6 := Lib.hid (HMA.out.list hb6 hown6 HMA.out.hB (fun x hx => List.mem_of_mem_eraseIdx hx))
            have HB6 := Lib.hid (HBA.out.trans (hb6.mono HBA.out.size))
            have HRa := Lib.hid (Own.later HRA.out hb6)
            have HRb := Lib.hid (Own.later HRB.out hb6)
            have HPa6 := Lib.hid (HPA.out.later hb6)
            have HPb6 := Lib.hid (HPb.out.later hb6)
            obtain ⟨L6, hL6⟩ : ∃ L6, L6 = L4.eraseIdx j := ⟨_, rfl⟩
            have HL6 := Lib.hid hL6
            rw [← hL6] at HM6
            have hm6r : m6 + 1 = m4 := by omega
            have HM6r := Lib.hid hm6r
            have hm6b : m6 ≤ 256 := by omega
            -- what the two make
            have hperm : ((⟨aw, an, ap⟩ : Ky) :: ⟨bw, bn, bp⟩ :: (((L.map (·.ky)).eraseIdx i).eraseIdx j)).Perm (L.map (·.ky)) := by
              have h1 : ((L.map (·.ky)).eraseIdx i)[j]? = some (⟨bw, bn, bp⟩ : Ky) := by
                rw [← erase_map, ← HL4.out]; exact HBk.out
              exact ((erase_perm h1).cons _).trans (erase_perm HAk.out)
            have hk6 : L6.map (·.ky) = ((L.map (·.ky)).eraseIdx i).eraseIdx j := by rw [HL6.out, HL4.out, erase_map, erase_map]
            obtain ⟨hwt, hlen⟩ := HK.out.two hperm
            simp only at hwt hlen
            have HK6 := Lib.hid (show KyOk k ((L6.map (·.ky)) ++ [⟨aw + bw, nx, ap ++ bp⟩]) by rw [hk6]; exact HK.out.merge (nx := nx) hperm)
            have HMR6 := Lib.hid (show ∀ f, MRun ((L6.map (·.ky)) ++ [⟨aw + bw, nx, ap ++ bp⟩]) (incT out (ap ++ bp)) (nx + 1) f → TreeX counts f from fun f hf => by
              rw [hk6] at hf
              refine HMR.out f (MRun.take2 (a := ⟨aw, an, ap⟩) (b := ⟨bw, bn, bp⟩) HAk.out HAm.out ?_ ?_ hf)
              · rw [← erase_map, ← HL4.out]; exact HBk.out
              · rw [← erase_map, ← HL4.out]; exact HBm.out)
            have HLt := Lib.hid (show ∀ p ∈ ap ++ bp, p < k from fun p hp => by
              have h2 := HK.out.perm hperm.symm
              rcases List.mem_append.1 hp with hp | hp
              · exact h2.lt _ List.mem_cons_self p hp
              · exact h2.lt _ (List.mem_cons_of_mem _ List.mem_cons_self) p hp)
            have HO2 := Lib.hid (show ∀ p, (incT out (ap ++ bp)).getD p 0 + 256 * m4 ≤ 65536 from fun p => by
              have h1 := incT_more (ap ++ bp) out p
              have h2 := HOut.out p
              have h3 := HM4r.out
              rw [List.length_append] at h1
              omega)
            have HO3 := Lib.hid (show ∀ q p, (incT out ((ap ++ bp).take q)).getD p 0 ≤ 65536 from fun q p => by
              have h1 := incT_more ((ap ++ bp).take q) out p
              have h2 := HOut.out p
              have h3 : ((ap ++ bp).take q).length ≤ (ap ++ bp).length := by rw [List.length_take]; omega
              rw [List.length_append] at h3
              omega)
            have hwt2 : aw + bw ≤ 1099511627776 := by omega
            have hal := OwnN.length HRa.out
            have hbl := OwnN.length HRb.out
            have hab : al + bl ≤ 256 := by omega
            have p0 := HPa6.out.cell 2
            have p1 := HPb6.out.cell 2
            simp only [List.getElem?_toArray, List.getElem?_cons_zero, List.getElem?_cons_succ] at p0 p1
            clear hown6 hb6 HMA HBA HRA HRB HPA HPb hL6 hm6 hm6r hperm hk6 hlen hwt HK HMR HAk HAm HBk HBm HOut hal hbl
            go_wp2_with (at_builtin; refine wpList_append_rd rfl _ _ elemN rfl B none 0 0 [] rfl (Own.nil _ _ _) aA al ac (ap.map natv) rfl (Own.rd HRa.out) ?h1 (nat_one _) ?h2 ?h3 HM6.out.hB ?_)
            case h1 => rw [List.length_map]; exact OwnN.length HRa.out
            case h2 => omega
            case h3 => omega
            intro A7 c7 w7 hown7 hb7 hg7 hat7
            have hb67 : Below w6.heap.size w6 w7 := (Below.refl _ _).grown hg7 (Nat.le_refl _) (fun k hk => by cases hk)
            have HM7 := Lib.hid (HM6.out.later hb67)
            have HFar := Lib.hid (fun (w8 : World) (hg : w7.grownBy w8 (bk A7)) => HM6.out.far HM7.out hg (fun k hk => by
              rcases hat7 with h | h
              · rw [hk] at h; cases h
              · rw [hk] at h; cases h; exact Nat.le_refl _))
            have HB7 := Lib.hid (HB6.out.trans (hb67.mono HB6.out.size))
            have HRb7 := Lib.hid (Own.later HRb.out hb67)
            have HPa7 := Lib.hid (HPa6.out.later hb67)
            have HPb7 := Lib.hid (HPb6.out.later hb67)
            have HO7 := Lib.hid (show OwnN w7 B A7 al c7 ap by
              exact hown7)
            have p2 := HPb7.out.cell 2
            simp only [List.getElem?_toArray, List.getElem?_cons_zero, List.getElem?_cons_succ] at p2
            clear hown7 hb7 hg7 hat7 hb67 HM6 HB6 HRb HRa HPa6 HPb6 p0 p1
            go_wp2_with (at_builtin; refine wpList_append_rd rfl _ _ elemN rfl B A7 al c7 (ap.map natv) rfl HO7.out bA bl bc (bp.map natv) rfl (Own.rd HRb7.out) ?h1 (nat_one _) ?h2 ?h3 HM7.out.hB ?_)
            case h1 => rw [List.length_map]; exact OwnN.length HRb7.out
            case h2 => omega
            case h3 => omega
            intro A8 c8 w8 hown8 hb8 hg8 hat8
            have HM8 := Lib.hid (show TrM w8 B go k S6 m6 c6 L6 out from HFar.out w8 hg8)
            have HB8 := Lib.hid (HB7.out.grown hg8 HB7.out.size (fun k hk => by have := (Own.lt HO7.out hk).1; have := HGo.out; omega))
            have HPa8 := Lib.hid (HPa7.out.kept hg8 (Own.ne_blk HO7.out HPa7.out (by decide)))
            have HPb8 := Lib.hid (HPb7.out.kept hg8 (Own.ne_blk HO7.out HPb7.out (by decide)))
            have HO8 := Lib.hid (show OwnN w8 B A8 (al + bl) c8 (ap ++ bp) by
              unfold OwnN
              rw [List.map_append]
              exact hown8)
            clear hown8 hb8 hg8 hat8 HFar HM7 HB7 HRb7 HPa7 HPb7 HO7 p2
            go_wp2_with fail
            go_loopg [13] (al + bl) (fun gg s13 wz => ∃ q : Nat, q ≤ al + bl ∧ al + bl - q ≤ gg ∧ s13 = .int .i64 (q : Int) ∧ TrM wz B go k S6 m6 c6 L6 (incT out ((ap ++ bp).take q)) ∧ OwnN wz B A8 (al + bl) c8 (ap ++ bp) ∧ Blk wz pa 142 #[.int .i64 (aw : Int), .int .i64 (an : Int), .slice aA al ac] ∧ Blk wz pb 142 #[.int .i64 (bw : Int), .int .i64 (bn : Int), .slice bA bl bc] ∧ Below w.heap.size w wz)
            case atStart => exact ⟨0, by omega, by omega, rfl, HM8.out, HO8.out, HPa8.out, HPb8.out, HB8.out⟩
            case round =>
              clear HM8 HO8 HPa8 HPb8 HB8
              obtain ⟨q, hq, hgq, rfl, hM, hO, hPa, hPb, hbz⟩ := hrel
              have HM := Lib.hid hM
              have HO := Lib.hid hO
              have HPa := Lib.hid hPa
              have HPb := Lib.hid hPb
              have HBz := Lib.hid hbz
              clear hM hO hPa hPb hbz
              by_cases hqn : q < al + bl
              · obtain ⟨gb, hAb, hcb⟩ := OwnN.cell_at HO.out hqn
                subst hAb
                have hlen := OwnN.length HO.out
                obtain ⟨p, hp⟩ : ∃ p, (ap ++ bp)[q]? = some p := ⟨_, List.getElem?_eq_getElem (by omega)⟩
                have hpd : (ap ++ bp).getD q 0 = p := by rw [List.getD, hp]; rfl
                rw [hpd] at hcb
                have hpk := HLt.out p (List.mem_of_getElem? hp)
                obtain ⟨gz, xz, hgz, hgz1, -, hxz, hcz, hfz⟩ := Own.at_ HM.out.out (k := p) hpk
                cases hgz
                obtain ⟨v, hv⟩ : ∃ v, v = (incT out ((ap ++ bp).take q)).getD p 0 := ⟨_, rfl⟩
                have hv9 : v ≤ 65536 := by rw [hv]; exact HO3.out q p
                have hxv : xz = .int .i64 (v : Int) := by
                  rw [List.getElem?_map] at hxz
                  rw [hv, List.getD]
                  cases hq : (incT out ((ap ++ bp).take q))[p]? with
                  | none => rw [hq] at hxz; cases hxz
                  | some q => rw [hq] at hxz; exact (Option.some.inj hxz).symm
                subst hxv
                have HSt := Lib.hid (show incT out ((ap ++ bp).take (q + 1)) = (incT out ((ap ++ bp).take q)).set p (v + 1) by
                  rw [List.take_add_one, hp, hv]; exact incT_snoc _ _ _)
                have HM2 := Lib.hid (HM.out.set p (v + 1))
                have hneb : go ≠ gb := by
                  have h1 := (Own.lt HO.out (k := gb) rfl).1
                  omega
                have HO2 := Lib.hid (Own.setCell HO.out (p := ⟨go, p, none⟩) (by intro e; exact hneb (by simpa [bk] using e.symm)) (.int .i64 ((v + 1 : Nat) : Int)))
                have HPa2 := Lib.hid (HPa.out.kept (grown_set wr ⟨go, p, none⟩ (.int .i64 ((v + 1 : Nat) : Int))) (by have := Own.ne_blk HM.out.out HPa.out (by decide); exact this))
                have HPb2 := Lib.hid (HPb.out.kept (grown_set wr ⟨go, p, none⟩ (.int .i64 ((v + 1 : Nat) : Int))) (by have := Own.ne_blk HM.out.out HPb.out (by decide); exact this))
                have HBz2 := Lib.hid (HBz.out.setCell (p := ⟨go, p, none⟩) (by have := HGo.out; show w.heap.size ≤ go; omega) (.int .i64 ((v + 1 : Nat) : Int)))
                have i2 : (q : Int) < (al : Int) + bl := by omega
                have i3 : (p : Int) < k := by omega
                have ev : ((v + 1 : Nat) : Int) = (v : Int) + 1 := by omega
                rw [ev] at HM2 HO2 HPa2 HPb2 HBz2
                clear hp hpd hv hxz hlen hneb ev
                go_wp2
                go_roundg (al + bl - (q + 1))
                case measure => omega
                case rel => exact ⟨q + 1, by omega, by omega, by go_num, by rw [HSt.out]; exact HM2.out, HO2.out, HPa2.out, HPb2.out, HBz2.out⟩
              · obtain rfl : q = al + bl := by omega
                have HMf := Lib.hid (show TrM wr B go k S6 m6 c6 L6 (incT out (ap ++ bp)) by
                  have h := HM.out
                  rwa [List.take_of_length_le (by rw [OwnN.length HO.out]; exact Nat.le_refl _)] at h)
                have p0 := HPa.out.cell 0
                have p1 := HPb.out.cell 0
                simp only [List.getElem?_toArray, List.getElem?_cons_zero] at p0 p1
                have hm9 : m6 ≤ 1000000000 := by omega
                clear HM
                go_wp2_with (at_builtin; refine TgT.wpList_append_new rfl _ _ rfl B S6 m6 c6 L6 wr ⟨⟨aw + bw, nx, ap ++ bp⟩, A8, al + bl, c8⟩ _ rfl rfl ?hs HMf.out.lst ?hx hm9 HMf.out.hB ?_)
                case hs => rfl
                case hx => simp [Act.eval]
                intro A9 c9 w9 hown9 hg9
                have HM9 := Lib.hid (HMf.out.app hg9 hown9 (Own.kept HO.out hg9 (TgT.ne_own HMf.out.lst HO.out (by decide))))
                have HB9 := Lib.hid (HBz.out.grown hg9 HBz.out.size (fun k hk => by have := (HMf.out.lst.lt hk).1; have := HGo.out; omega))
                have HK9 := Lib.hid (show KyOk k ((L6 ++ [(⟨⟨aw + bw, nx, ap ++ bp⟩, A8, al + bl, c8⟩ : Tg)]).map (·.ky)) by
                  rw [List.map_append]; exact HK6.out)
                have HMR9 := Lib.hid (show ∀ f, MRun ((L6 ++ [(⟨⟨aw + bw, nx, ap ++ bp⟩, A8, al + bl, c8⟩ : Tg)]).map (·.ky)) (incT out (ap ++ bp)) (nx + 1) f → TreeX counts f by
                  rw [List.map_append]; exact HMR6.out)
                have HO9 := Lib.hid (show ∀ p, (incT out (ap ++ bp)).getD p 0 + 256 * (m6 + 1) ≤ 65536 by rw [HM6r.out]; exact HO2.out)
                clear hown9 hg9 p0 p1
                go_wp2
                go_roundg (m6)
                case measure => have := HM6r.out; have := HM4r.out; omega
                case rel => exact ⟨m6 + 1, c9, nx + 1, A9, _, _, by omega, by omega, by have := HM6r.out; have := HM4r.out; omega, by have := HM6r.out; have := HM4r.out; omega, rfl, by go_num, HM9.out, HK9.out, HO9.out, HMR9.out, HB9.out⟩
          · obtain rfl : m = 1 := by omega
            obtain ⟨y, hy⟩ : ∃ y, L = [y] := by
              have h := HMl.out
              match L, h with
              | [y], _ => exact ⟨y, rfl⟩
            subst hy
            have HTx := Lib.hid (HMR.out out (.done y.ky out nx))
            have HO := Lib.hid HM.out.out
            obtain ⟨w2, hw2⟩ : ∃ w2, w2 = wr := ⟨_, rfl⟩
            subst hw2
            have HO9 := Lib.hid (fun p => Nat.le_trans (Nat.le_add_right _ _) (HOut.out p) : ∀ p, out.getD p 0 ≤ 65536)
            clear HM HK HOut HMR HMl hm hgg hmk
            go_wp2_with fail
            go_loopg [14, 15] k (fun gg s14 s15 wr => ∃ M q : Nat, q ≤ k ∧ k - q ≤ gg ∧ s14 = .int .i64 (M : Int) ∧ s15 = .int .i64 (q : Int) ∧ (∀ x ∈ out.take q, x ≤ M) ∧ (M = 0 ∨ M ∈ out) ∧ wr = w2)
            case atStart => exact ⟨0, 0, by omega, by omega, rfl, rfl, by simp, .inl rfl, rfl⟩
            case round =>
              obtain ⟨M, q, hq, hgq, rfl, rfl, hmx, hmm, rfl⟩ := hrel
              have HMx := Lib.hid hmx
              have HMm := Lib.hid hmm
              clear hmx hmm
              by_cases hqk : q < k
              · obtain ⟨x, hx⟩ : ∃ x, out[q]? = some x := ⟨_, List.getElem?_eq_getElem (by rw [OwnN.length HO.out]; exact hqk)⟩
                obtain ⟨gb, hAb, hcb⟩ := OwnN.cell_at HO.out hqk
                cases hAb
                have hxd : out.getD q 0 = x := by rw [List.getD, hx]; rfl
                rw [hxd] at hcb
                have i2 : (q : Int) < k := by omega
                have HX := Lib.hid hx
                clear hx hxd
                by_cases hxM : M < x
                · have HMx2 := Lib.hid (show ∀ y ∈ out.take (q + 1), y ≤ x from fun y hy => by
                    rw [List.take_add_one, HX.out] at hy
                    rcases List.mem_append.1 hy with hy | hy
                    · have := HMx.out y hy; omega
                    · simp at hy; omega)
                  have HMm2 := Lib.hid (show x ∈ out from List.mem_of_getElem? HX.out)
                  go_wp2
                  go_roundg (k - (q + 1))
                  case measure => omega
                  case rel => exact ⟨x, q + 1, by omega, by omega, rfl, by go_num, HMx2.out, .inr HMm2.out, rfl⟩
                · have HMx2 := Lib.hid (show ∀ y ∈ out.take (q + 1), y ≤ M from fun y hy => by
                    rw [List.take_add_one, HX.out] at hy
                    rcases List.mem_append.1 hy with hy | hy
                    · exact HMx.out y hy
                    · simp at hy; omega)
                  go_wp2
                  go_roundg (k - (q + 1))
                  case measure => omega
                  case rel => exact ⟨M, q + 1, by omega, by omega, rfl, by go_num, HMx2.out, HMm.out, rfl⟩
              · obtain rfl : q = k := by omega
                have HMx2 := Lib.hid (show ∀ x ∈ out, x ≤ M by
                  have h := HMx.out
                  rwa [List.take_of_length_le (by rw [OwnN.length HO.out]; exact Nat.le_refl _)] at h)
                go_wp2
                go_ret2
                exact ⟨_, q, out, M, rfl, by rw [← HGo.out]; exact HO.out, HTx.out, HMx2.out, HMm.out, HB.out⟩
end Go.Proofs.YtaelgbbnmjbjiaaGreat
namespace Go.Proofs.YtaelgbbnmjbjiaaGreat
open Go.RowKit
theorem lvK_put {counts : List Nat} {k x N : Nat} {ts : List Th} (h : ts.map keyT = lvK counts k) (hx : counts[k]? = some x) (h0 : 0 < x) (hl : ts.length = N) (pa : Option Addr) (pn pc : Nat) : (ts ++ [(⟨x, N, pa, pn, pc, [k], 0⟩ : Th)]).map keyT = lvK counts (k + 1) := by
  have e : counts.getD k 0 = x := by rw [List.getD, hx]; rfl
  show _ = if 0 < counts.getD k 0 then _ else _
  rw [e, if_pos h0, List.map_append, h, ← hl, ← h, List.length_map]
  rfl
theorem lvK_skip {counts : List Nat} {k : Nat} {ts : List Th} (h : ts.map keyT = lvK counts k) (hx : counts[k]? = some 0) : ts.map keyT = lvK counts (k + 1) := by
  have e : counts.getD k 0 = 0 := by rw [List.getD, hx]; rfl
  show _ = if 0 < counts.getD k 0 then _ else _
  rw [e, if_neg (by omega), h]
theorem lvK_num0 (counts : List Nat) (k : Nat) {x : Th} (h : lvK counts k = [x].map keyT) : x.num = 0 := by
  have h1 := (lvK_num counts k).2
  rw [h] at h1
  have := h1 (keyT x) (by simp)
  show (keyT x).num = 0
  simp only [List.map_cons, List.map_nil, List.length_cons, List.length_nil] at this
  omega
set_option maxHeartbeats 8000000 in
set_option maxRecDepth 10000 in
theorem huffTreeX (A : Option Addr) (n c : Nat) (counts : List Nat) (w : World) (hl : counts.length = n) (hr : Ns w A counts) (hn0 : 0 < n) (hn : n ≤ 256) (hb : ∀ x ∈ counts, x ≤ 4294967295) (hpos : 0 < nz counts) :
    Calls Tryz.prog 105 #[.slice A n c] w fun e w' => ∃ S cs out, e = .returned (.slice S n cs) ∧ OwnN w' w.heap.size S n cs out ∧ TreeOk counts out ∧ LowOk counts out ∧ PosOk counts out ∧ TreeX counts out ∧ Below w.heap.size w w' := by
  have HL := Lib.hid hl
  have HR := Lib.hid hr
  have HBd := Lib.hid hb
  have HPos := Lib.hid hpos
  clear hl hr hb hpos
  obtain ⟨ti, hi, hz0, hz1, hz2⟩ := info_parts elemN_info
  go_enter Tryz.func105, Tryz.ntmps105
  go_wp2_with (at_make; refine wpList_make_full _ rfl _ _ 45 rfl w.heap.size 3 ti _ 1 Tryz.underlying45 hi hz0 hz1 .i64 .i64 n n n rfl rfl rfl rfl (by rw [hz2]; omega) (by unfold maxLen; omega) (Nat.le_refl _) ?_)
  intro w1 hown1 hg1
  rw [made_zeros] at hown1
  have hb1 : Below w.heap.size w w1 := (Below.refl _ _).grown hg1 (Nat.le_refl _) (fun k hk => by cases hk)
  have hlt1 := (Own.lt hown1 (k := w.heap.size) rfl).2
  have hbA := (Below.refl w1.heap.size w1).alloc (Nat.le_refl _) (.cells #[.slice none 0 0] 159)
  have HOut := Lib.hid (show OwnN (w1.alloc (.cells #[.slice none 0 0] 159)) w.heap.size (some ⟨w.heap.size, 0, none⟩) n n (List.replicate n 0) from Own.later (w := w1) hown1 hbA)
  have HHp := Lib.hid (⟨Blk.new w1 159 #[.slice none 0 0], OwnT.nil _ _⟩ : HeapR (w1.alloc (.cells #[.slice none 0 0] 159)) (w.heap.size + 1) w1.heap.size none 0 0 [])
  have HB1 := Lib.hid (hb1.trans (hbA.mono hb1.size))
  have hsz1 : (w1.alloc (.cells #[.slice none 0 0] 159)).heap.size = w1.heap.size + 1 := by simp
  clear hown1 hg1 hi hz0 hz1 hz2 hbA
  go_wp2_with fail
  obtain ⟨w2, hw2⟩ : ∃ w2, w2 = w1.alloc (.cells #[.slice none 0 0] 159) := ⟨_, rfl⟩
  rw [← hw2] at HOut HHp HB1 hsz1 ⊢
  clear hw2
  obtain ⟨hbx, hhb⟩ : ∃ hbx, hbx = w1.heap.size := ⟨_, rfl⟩
  rw [← hhb] at HHp hlt1 hsz1 ⊢
  clear hhb hb1
  go_loopg [18] n (fun gg s18 wr => ∃ (k N cc : Nat) (AA : Option Addr) (ts : List Th), k ≤ n ∧ n - k ≤ gg ∧ s18 = .int .i64 (k : Int) ∧ HeapR wr (w.heap.size + 1) hbx AA N cc ts ∧ LeafR counts k ts ∧ WtIn counts ts ∧ PartsR wr w.heap.size ts ∧ OwnN wr w.heap.size (some ⟨w.heap.size, 0, none⟩) n n (List.replicate n 0) ∧ hbx < wr.heap.size ∧ Below w.heap.size w wr ∧ N ≤ cc ∧ ts.map keyT = lvK counts k)
  case atStart => exact ⟨0, 0, 0, none, [], by omega, by omega, rfl, HHp.out, ⟨⟨by simp, List.Pairwise.nil, rfl, List.Perm.refl _, fun p _ => getD_rep _ p⟩, by simp, Nat.le_refl _⟩, by intro x hx; simp at hx, by intro x hx; simp at hx, HOut.out, by omega, HB1.out, Nat.le_refl _, rfl⟩
  case round =>
    clear HHp HOut HB1
    obtain ⟨k, N, cc, AA, ts, hk, hgg, rfl, hh, hlf, hwi, hpr, hout, hbs, hbel, hNc, hky⟩ := hrel
    have HKy := Lib.hid hky
    clear hky
    have HWi := Lib.hid hwi
    have HH := Lib.hid hh
    have HLf := Lib.hid hlf
    have HPr := Lib.hid hpr
    have HO := Lib.hid hout
    have HB := Lib.hid hbel
    have hNl := hh.row.length
    have hNk : N ≤ k := by have := hlf.len; omega
    have hbx0 := hh.cell
    clear hh hlf hwi hpr hout hbel
    by_cases hkn : k < n
    · obtain ⟨b, o, x, hA, hx, hc⟩ := HR.out.at_ (by rw [HL.out]; exact hkn : k < counts.length)
      subst hA
      have hc2 := (HB.out.cell (by simpa using block_lt hc)).trans hc
      have hxb := HBd.out x (List.mem_of_getElem? hx)
      have HX := Lib.hid hx
      clear hx hc
      by_cases hx0 : 0 < x
      · have g1 : decide ((0 : Int) < (x : Int)) = true := decide_eq_true (by omega)
        have hbA := (Below.refl wr.heap.size wr).alloc (Nat.le_refl _) (.cells #[.int .i64 (k : Int)] 3)
        have hsA : (wr.alloc (.cells #[.int .i64 (k : Int)] 3)).heap.size = wr.heap.size + 1 := by simp
        have HHA := Lib.hid (HH.out.later hbA)
        have HPA := Lib.hid (show PartsR (wr.alloc (.cells #[.int .i64 (k : Int)] 3)) w.heap.size (ts ++ [⟨x, N, some ⟨wr.heap.size, 0, none⟩, 1, 1, [k], 0⟩]) from fun y hy => by
          rcases List.mem_append.1 hy with hy | hy
          · exact HPr.out.later hbA y hy
          · obtain rfl : y = _ := List.mem_singleton.1 hy
            exact Own.mono (own_one wr (.int .i64 (k : Int)) 3) (by omega))
        have HOA := Lib.hid (Own.later HO.out hbA)
        have HBA := Lib.hid (HB.out.trans (hbA.mono HB.out.size))
        have HLf2 := Lib.hid (HLf.out.put HX.out hx0 N (some ⟨wr.heap.size, 0, none⟩) 1 1)
        have HKy2 := Lib.hid (lvK_put HKy.out HX.out hx0 hNl (some ⟨wr.heap.size, 0, none⟩) 1 1)
        have HWi2 := Lib.hid (HWi.out.put HX.out N (some ⟨wr.heap.size, 0, none⟩) 1 1 [k] 0)
        have hbxA := (hbA.cell (p := ⟨hbx, 0, none⟩) hbs).trans hbx0
        have hbB := (Below.refl (wr.alloc (.cells #[.int .i64 (k : Int)] 3)).heap.size (wr.alloc (.cells #[.int .i64 (k : Int)] 3))).alloc (Nat.le_refl _) (.cells #[.int .i64 (x : Int), .int .i64 (N : Int), .slice (some ⟨wr.heap.size, 0, none⟩) 1 1] 161)
        have hbxB := (hbB.cell (p := ⟨hbx, 0, none⟩) (by rw [hsA]; show hbx < _; omega)).trans hbxA
        clear hbA hbB
        go_wp2_with (at_builtin; go_loud (refine wpList_append_th rfl _ _ rfl (w.heap.size + 1) AA N cc ts ⟨x, N, some ⟨wr.heap.size, 0, none⟩, 1, 1, [k], 0⟩ ?hw rfl HHA.out.row ?hh ?hb ?hbase ?_; (case hh => simp [Act.eval])))
        case hw => rfl
        case hb => omega
        case hbase => rw [hsA]; omega
        intro A6 c6 w6 hrow6 hg6 hnt6
        have hbox6 := HHA.out.box.kept hg6 HHA.out.ne
        have c6b := hbox6.cell 0
        simp only [List.getElem?_toArray, List.getElem?_cons_zero] at c6b
        have f6b := hbox6.frozen 0
        have hgs := grown_set w6 ⟨hbx, 0, none⟩ (.slice A6 (N + 1) c6)
        have htw : Two hbx AA (wr.alloc (.cells #[.int .i64 (k : Int)] 3)) (w6.setCell ⟨hbx, 0, none⟩ (.slice A6 (N + 1) c6)) := ((Two.refl hbx AA _).grown hg6 (fun k hk _ => .inr hk)).set_g _
        have HH7 := Lib.hid (⟨hbox6.set 0 (.slice A6 (N + 1) c6), hrow6.kept hgs (.inr (hrow6.ne_blk hbox6 (by decide)))⟩ : HeapR (w6.setCell ⟨hbx, 0, none⟩ (.slice A6 (N + 1) c6)) (w.heap.size + 1) hbx A6 (N + 1) c6 (ts ++ [⟨x, N, some ⟨wr.heap.size, 0, none⟩, 1, 1, [k], 0⟩]))
        have HP7 := Lib.hid (HPA.out.two HHA.out htw)
        have HO7 := Lib.hid (htw.own HOA.out (Own.ne_blk HOA.out HHA.out.box (by decide)) (by
          rcases HHA.out.row.ne_own HOA.out (by decide) with h1 | h1
          · exact .inr (by rw [h1]; simp [bk])
          · exact .inr (fun e => h1 e.symm)))
        have HB7 := Lib.hid (show Below w.heap.size w (w6.setCell ⟨hbx, 0, none⟩ (.slice A6 (N + 1) c6)) from (HBA.out.grown hg6 HBA.out.size (fun k hk => by have := (HHA.out.row.lt hk).1; omega)).setCell (p := ⟨hbx, 0, none⟩) (show w.heap.size ≤ hbx by omega) _)
        have hbs7 : hbx < (w6.setCell ⟨hbx, 0, none⟩ (.slice A6 (N + 1) c6)).heap.size := by
          have h1 := hg6.size
          have h2 : (w6.setCell ⟨hbx, 0, none⟩ (.slice A6 (N + 1) c6)).heap.size = w6.heap.size := by simp [World.setCell]
          omega
        have hc7 : N + 1 ≤ c6 := by
          rcases hrow6.2 with ⟨-, h0⟩ | ⟨g', cap, cur, hv, -, -, h3, -⟩
          · omega
          · simp only [Value.slice.injEq] at hv
            omega
        clear hbox6 hrow6 hg6 hnt6 hgs htw hbx0 hbxA hbxB hsA
        go_wp2
        go_roundg (n - (k + 1))
        case measure => omega
        case rel => exact ⟨k + 1, N + 1, c6, A6, _, by omega, by omega, by go_num, HH7.out, HLf2.out, HWi2.out, HP7.out, HO7.out, hbs7, HB7.out, hc7, HKy2.out⟩
      · have g1 : decide ((0 : Int) < (x : Int)) = false := decide_eq_false (by omega)
        obtain rfl : x = 0 := by omega
        have HLf2 := Lib.hid (HLf.out.skip HX.out)
        have HKy2 := Lib.hid (lvK_skip HKy.out HX.out)
        clear hbx0
        go_wp2
        go_roundg (n - (k + 1))
        case measure => omega
        case rel => exact ⟨k + 1, N, cc, AA, ts, by omega, by omega, by go_num, HH.out, HLf2.out, HWi.out, HPr.out, HO.out, hbs, HB.out, hNc, HKy2.out⟩
    · obtain rfl : k = n := by omega
      have hfor : Forest (posL counts) (sumL counts) (List.replicate counts.length 0) ts := by
        have h := HLf.out.forest
        rw [← HL.out, List.take_of_length_le (Nat.le_refl _)] at h
        exact h
      have HFor := Lib.hid hfor
      have HLow := Lib.hid HLf.out.low
      have hN1 : 1 ≤ N := by
        rcases Nat.lt_or_ge 0 N with h | h
        · exact h
        · exfalso
          have h0 : ts = [] := List.length_eq_zero_iff.1 (by omega)
          have h1 := hfor.wts
          rw [h0] at h1
          have h2 := nz_pos HPos.out
          have : wtsT ([] : List Th) = 0 := rfl
          omega
      clear HLf hfor
      by_cases hone : N = 1
      · subst hone
        obtain ⟨x, hx⟩ : ∃ x, ts = [x] := List.length_eq_one_iff.1 hNl
        subst hx
        obtain ⟨p, hp⟩ := one_ps (HFor.out.ok x (List.mem_singleton_self _)) (HLow.out x (List.mem_singleton_self _))
        obtain ⟨htree, hpn⟩ := TreeOk.one HFor.out hp
        have HTx := Lib.hid (show TreeX counts ((List.replicate counts.length 0).set p 1) from .inl (by
          have h1 := HKy.out
          rw [← HL.out] at h1
          have h2 := lvK_num0 counts _ h1.symm
          exact ⟨p, x.wt, by rw [← h1]; show [Ky.mk x.wt x.num x.ps] = _; rw [h2, hp], rfl⟩))
        have HPo := Lib.hid (PosOk.one HFor.out hp)
        obtain ⟨g, x', hAA, hg1, hg2, hx', -, -, a2, -⟩ := HH.out.row.at_ (k := 0) (by omega)
        cases hx'
        subst hAA
        have hpr := HPr.out x (List.mem_singleton_self _)
        have hpl := OwnN.length hpr
        rw [hp] at hpl
        have hpl1 : x.pn = 1 := hpl.symm
        obtain ⟨gp, xp, hpa, -, -, hxp, hcp, -⟩ := Own.at_ hpr (k := 0) (by omega)
        rw [hp] at hxp
        have hxp2 : xp = .int .i64 (p : Int) := by simpa [natv] using hxp.symm
        subst hxp2
        rw [hpa, hpl1] at a2
        have e03 : 0 * 3 + 2 = 2 := rfl
        rw [e03] at a2
        obtain ⟨go, xo, hgo, -, hgo2, -, hco, hfo⟩ := Own.at_ HO.out (k := p) (by rw [← HL.out]; exact hpn)
        have hgo' : go = w.heap.size := by injection hgo with h; injection h with h1; exact h1.symm
        subst hgo'
        have HTr := Lib.hid htree
        have HO2 := Lib.hid (show OwnN (wr.setCell ⟨w.heap.size, p, none⟩ (.int .i64 1)) w.heap.size (some ⟨w.heap.size, 0, none⟩) k k ((List.replicate k 0).set p 1) from by
          unfold OwnN
          rw [List.map_set]
          exact (Own.stored HO.out p _).1)
        have HB2 := Lib.hid (HB.out.setCell (p := ⟨w.heap.size, p, none⟩) (Nat.le_refl _) (.int .i64 1))
        have i1 : (0 : Int) ≤ (p : Int) := by omega
        have i2 : (p : Int) < (k : Int) := by rw [← HL.out]; omega
        clear hp htree hpr hpl hpl1 hxp hpa hgo e03
        go_wp2
        go_ret
        refine ⟨some ⟨w.heap.size, 0, none⟩, k, _, rfl, HO2.out, ?_, ?_, ?_, ?_, HB2.out⟩
        · rw [← HL.out]
          exact HTr.out
        · rw [← HL.out]
          exact LowOk.one p
        · rw [← HL.out]
          exact HPo.out
        · rw [← HL.out]
          exact HTx.out
      · have g1 : ((N : Int) == 1) = false := beq_eq_false_iff_ne.2 (by omega)
        have HIn := Lib.hid (hpInit (w.heap.size + 1) hbx AA N cc ts wr HH.out (by omega))
        go_wp2_with fail
        refine HIn.out.mono ?_
        rintro e w5 ⟨⟨v5, rfl⟩, ⟨l5, hh5, hp5, ha5⟩, ht5⟩
        have HH5 := Lib.hid hh5
        have HF5 := Lib.hid (HFor.out.perm hp5)
        have HA5 := Lib.hid ha5
        have HRn := Lib.hid (fun f hf => by rw [← HKy.out]; rw [show List.replicate k 0 = List.replicate counts.length 0 by rw [HL.out]]; exact hf.perm (hp5.map keyT) : ∀ f, MRun (l5.map keyT) (List.replicate counts.length 0) N f → MRun (lvK counts k) (List.replicate k 0) N f)
        have HNl := Lib.hid hNl
        have HN2 := Lib.hid (show 2 ≤ (posL counts).length by rw [← leaves_len HFor.out HLow.out]; omega)
        have HPh5 := Lib.hid ((PhaseR.leaves HFor.out HLow.out HWi.out).perm hp5)
        have HP5 := Lib.hid (PartsR.perm (HPr.out.two HH.out ht5) (fun x hx => hp5.subset hx))
        have HO5 := Lib.hid (ht5.own HO.out (Own.ne_blk HO.out HH.out.box (by decide)) (by
          rcases HH.out.row.ne_own HO.out (by decide) with h1 | h1
          · exact .inr (by rw [h1]; simp [bk])
          · exact .inr (fun e => h1 e.symm)))
        have HB5 := Lib.hid (show Below w.heap.size w w5 from HB.out.trans (two_below HH.out ht5 (by omega) (by omega) HB.out.size))
        have hs5 : hbx < w5.heap.size := Nat.lt_of_lt_of_le hbs ht5.size
        clear hh5 hp5 ha5 ht5 HIn hbx0 g1
        go_wp2_with fail
        go_loopg [7] N (fun gg s7 wl => ∃ (M c2 nx : Nat) (A2 : Option Addr) (hs : List Th) (out : List Nat), 1 ≤ M ∧ M ≤ gg ∧ s7 = .int .i64 (nx : Int) ∧ nx + M ≤ 600 ∧ HeapR wl (w.heap.size + 1) hbx A2 M c2 hs ∧ HAll (fnT hs) M 0 ∧ Forest (posL counts) (sumL counts) out hs ∧ PhaseR counts hs ∧ out.length = k ∧ PartsR wl w.heap.size hs ∧ OwnN wl w.heap.size (some ⟨w.heap.size, 0, none⟩) k k out ∧ hbx < wl.heap.size ∧ Below w.heap.size w wl ∧ M ≤ c2 ∧ ∀ f, MRun (hs.map keyT) out nx f → MRun (lvK counts k) (List.replicate k 0) N f)
        case atStart => exact ⟨N, cc, N, AA, l5, _, hN1, Nat.le_refl _, rfl, by omega, HH5.out, HA5.out, HF5.out, HPh5.out, by rw [List.length_replicate]; exact HL.out, HP5.out, by have h := HO5.out; rw [← HL.out] at h ⊢; exact h, hs5, HB5.out, hNc, HRn.out⟩
        case round =>
          clear HH5 HF5 HPh5 HA5 HP5 HO5 HB5 hs5 HH HPr HO HB HFor HLow HRn
          obtain ⟨M, c2, nx, A2, hs, out, hM1, hMg, rfl, hnx, hh, ha, hf, hph, hol, hp, ho, hbs2, hbel, hMc, hrn⟩ := hrel
          have HRn := Lib.hid hrn
          clear hrn
          have HH := Lib.hid hh
          have HA := Lib.hid ha
          have HF := Lib.hid hf
          have HPh := Lib.hid hph
          have HOl := Lib.hid hol
          have HP := Lib.hid hp
          have HO := Lib.hid ho
          have HB := Lib.hid hbel
          have HHl := Lib.hid hh.row.length
          have hbx0 := hh.cell
          clear hh ha hf hph hol hp ho hbel
          by_cases hM2 : 1 < M
          · obtain ⟨M2, rfl⟩ : ∃ M2, M = M2 + 1 + 1 := ⟨M - 2, by omega⟩
            have g1 : decide ((1 : Int) < ((M2 + 1 + 1 : Nat) : Int)) = true := decide_eq_true (by omega)
            have HT0 := Lib.hid (⟨HH.out, HA.out, HP.out, HO.out, hbs2, HB.out⟩ : TreeR w hbx A2 c2 k (M2 + 1 + 1) hs [] out wr)
            have hta := fun (x : Th) (W : World) => (show (Instr.typeAssert (thV x) 20 161 false).run Tryz.prog W = .ok (.agg #[.int .i64 (x.wt : Int), .int .i64 (x.num : Int), .slice x.pa x.pn x.pc]) W from assert_thing _ W)
            go_upto_region 15 with fail
            clear hbx0 HH HA HP HO HB hbs2 g1
            go_cut [8, 9] from 54 to 59 (fun s8 s9 wx => ∃ (b8 b9 : Nat) (x1 x2 : Th) (l1 l3 : List Th), s8 = .pointer (some ⟨b8, 0, none⟩) ∧ s9 = .pointer (some ⟨b9, 0, none⟩) ∧ TreeR w hbx A2 c2 k M2 l3 [x2, x1] out wx ∧ LocR w hbx A2 b8 (vTh x1) wx ∧ LocR w hbx A2 b9 (vTh x2) wx ∧ b8 ≠ b9 ∧ (x1 :: l1).Perm hs ∧ (∀ y ∈ l1, leT x1 y) ∧ (x2 :: l3).Perm l1 ∧ (∀ y ∈ l3, leT x2 y))
            case first =>
              refine reg15 (hb := hbx) (M := M2) (by kernel_rfl) ?h15 (by kernel_rfl) (Nat.le_of_ble_eq_true (by kernel_rfl)) HT0.out.drew (by omega) hMc (by omega) ?hQ
              case h15 =>
                refine ⟨by kernel_rfl, by kernel_rfl, by kernel_rfl, ?r0, ?r3, ?r1, ?r4, ?r2, ?r5, ?r6, ?r7, ?r8, ?r9⟩
                case r0 => exact ⟨_, rfl, rfl, rfl, fun ρ W h => runMake hbx _ W h⟩
                case r3 => exact ⟨_, rfl, rfl, rfl, fun ρ W h => runMake hbx _ W h⟩
                case r1 => exact ⟨_, rfl, rfl, rfl, fun a W v h => by subst h; kernel_rfl⟩
                case r4 => exact ⟨_, rfl, rfl, rfl, fun a W v h => by subst h; kernel_rfl⟩
                case r2 => exact ⟨_, rfl, rfl, rfl, fun ρ W x h => runAssert x _ W h⟩
                case r5 => exact ⟨_, rfl, rfl, rfl, fun ρ W x h => runAssert x _ W h⟩
                case r6 => exact ⟨_, rfl, rfl, rfl, fun ρ W => runAlloc W⟩
                case r7 => exact ⟨_, rfl, rfl, rfl, fun ρ W => runAlloc W⟩
                case r8 => exact ⟨_, rfl, rfl, rfl, fun ρ W b x h1 h2 hk => runStore x _ _ hk h1 h2⟩
                case r9 => exact ⟨_, rfl, rfl, rfl, fun ρ W b x h1 h2 hk => runStore x _ _ hk h1 h2⟩
              case hQ =>
                intro val x1 x2 l1 l3 b8 b9 wx e8 e9 hTx k8 k9 hne p1 m1 p2 m2
                obtain ⟨z54, hz54⟩ : ∃ z, z = val 54 := ⟨_, rfl⟩
                obtain ⟨z55, hz55⟩ : ∃ z, z = val 55 := ⟨_, rfl⟩
                obtain ⟨z56, hz56⟩ : ∃ z, z = val 56 := ⟨_, rfl⟩
                obtain ⟨z57, hz57⟩ : ∃ z, z = val 57 := ⟨_, rfl⟩
                obtain ⟨z58, hz58⟩ : ∃ z, z = val 58 := ⟨_, rfl⟩
                obtain ⟨z59, hz59⟩ : ∃ z, z = val 59 := ⟨_, rfl⟩
                simp only [List.foldl_cons, List.foldl_nil]
                rw [e8, e9, ← hz54, ← hz55, ← hz56, ← hz57, ← hz58, ← hz59]
                clear hz54 hz55 hz56 hz57 hz58 hz59 e8 e9
                simp only [Act.put, List.setIfInBounds_toArray, List.set_cons_zero, List.set_cons_succ]
                go_step
                go_step
                go_meet
                exact ⟨b8, b9, x1, x2, l1, l3, rfl, rfl, hTx, k8, k9, hne, p1, m1, p2, m2⟩
            case rest =>
              obtain ⟨b8, b9, x1, x2, l1, l3, rfl, rfl, hTx, k8, k9, hne, p1, m1, p2, m2⟩ := hcut
              have HTx := Lib.hid hTx
              have K8 := Lib.hid k8
              have K9 := Lib.hid k9
              obtain ⟨a0, a1, a2, a3, a4, a5, a6⟩ := blk_cells k8.blk
              obtain ⟨d0, d1, d2, d3, d4, d5, d6⟩ := blk_cells k9.blk
              clear hTx k8 k9
              have HF2 := Lib.hid (HF.out.perm ((p2.cons x1).trans p1))
              have HPm := Lib.hid ((p2.cons x1).trans p1 : (x1 :: x2 :: l3).Perm hs)
              have HPh2 := Lib.hid (HPh.out.perm ((p2.cons x1).trans p1))
              have hpl := Nat.le_trans (psum_len HF2.out) (posL_len counts)
              have HPlt := Lib.hid (ps_lt HF2.out)
              have hwt := wt_le HF2.out
              have hws := sumL_le counts 4294967295 HBd.out
              rw [HL.out] at hpl hws
              have HPx1 := Lib.hid (HTx.out.parts x1 (by simp))
              have HPx2 := Lib.hid (HTx.out.parts x2 (by simp))
              have hM1a : leT x1 x2 := m1 x2 (p2.subset (List.mem_cons_self))
              have HM1 := Lib.hid (show ∀ y ∈ l3, leT x1 y from fun y hy => m1 y (p2.subset (List.mem_cons_of_mem _ hy)))
              have HM2 := Lib.hid m2
              have HMa := Lib.hid hM1a
              have HTa := Lib.hid (HTx.out.alloc (.cells #[.slice x1.pa x1.pn x1.pc, .slice x2.pa x2.pn x2.pc] 45))
              have K8a := Lib.hid (K8.out.alloc (.cells #[.slice x1.pa x1.pn x1.pc, .slice x2.pa x2.pn x2.pc] 45))
              have K9a := Lib.hid (K9.out.alloc (.cells #[.slice x1.pa x1.pn x1.pc, .slice x2.pa x2.pn x2.pc] 45))
              have HCat := Lib.hid (concatN wc.heap.size 2 2 (fun i => if i = 0 then x1.pa else x2.pa) (fun i => if i = 0 then x1.pn else x2.pn) (fun i => if i = 0 then x1.pc else x2.pc) (fun i => if i = 0 then x1.ps else x2.ps) (wc.alloc (.cells #[.slice x1.pa x1.pn x1.pc, .slice x2.pa x2.pn x2.pc] 45)) ?hc1 ?hc2 ?hc3 (by omega) ?hc4)
              case hc1 =>
                intro i hi
                obtain rfl | rfl : i = 0 ∨ i = 1 := by omega
                · exact (blk2_cells (Blk.new wc 45 #[.slice x1.pa x1.pn x1.pc, .slice x2.pa x2.pn x2.pc])).1
                · exact (blk2_cells (Blk.new wc 45 #[.slice x1.pa x1.pn x1.pc, .slice x2.pa x2.pn x2.pc])).2
              case hc2 =>
                intro i hi
                obtain rfl | rfl : i = 0 ∨ i = 1 := by omega
                · exact OwnN.length HPx1.out
                · exact OwnN.length HPx2.out
              case hc3 =>
                intro i hi
                obtain rfl | rfl : i = 0 ∨ i = 1 := by omega
                · exact OwnN.ns (Own.alloc HPx1.out _)
                · exact OwnN.ns (Own.alloc HPx2.out _)
              case hc4 => show (x1.ps ++ x2.ps).length ≤ 1000000; omega
              clear p1 m1 p2 m2 hM1a HF HPh HTx K8 K9 hta HT0
              go_wp2_with fail
              refine HCat.out.mono ?_
              rintro e wd ⟨S, np, cs, rfl, hrow, hbd⟩
              have hrow' : OwnN wd (wc.alloc (.cells #[.slice x1.pa x1.pn x1.pc, .slice x2.pa x2.pn x2.pc] 45)).heap.size S np cs (x1.ps ++ x2.ps) := hrow
              clear hrow
              obtain ⟨ps, hps⟩ : ∃ ps, ps = x1.ps ++ x2.ps := ⟨_, rfl⟩
              rw [← hps] at hrow' hpl HPlt
              have hnp : np = ps.length := (OwnN.length hrow').symm
              have HRow := Lib.hid (show OwnN wd (w.heap.size + 1) S np cs ps from Own.mono hrow' (by have := HTa.out.lt; omega))
              have HTd := Lib.hid (HTa.out.later hbd)
              have K8d := Lib.hid (⟨K8a.out.blk.later hbd, K8a.out.ne, K8a.out.ge⟩ : LocR w hbx A2 b8 (vTh x1) wd)
              have K9d := Lib.hid (⟨K9a.out.blk.later hbd, K9a.out.ne, K9a.out.ge⟩ : LocR w hbx A2 b9 (vTh x2) wd)
              have HPs := Lib.hid hps
              clear hrow' hps hbd HTa K8a K9a HCat a0 a1 a2 a3 a4 a5 a6 d0 d1 d2 d3 d4 d5 d6 HPx1 HPx2
              go_wp2_with fail
              go_loopg [68] np (fun gg s68 wl => ∃ (i : Nat), i ≤ np ∧ np - i ≤ gg ∧ s68 = .int .i64 (i : Int) ∧ TreeR w hbx A2 c2 k M2 l3 [x2, x1] (incT out (ps.take i)) wl ∧ LocR w hbx A2 b8 (vTh x1) wl ∧ LocR w hbx A2 b9 (vTh x2) wl ∧ OwnN wl (w.heap.size + 1) S np cs ps)
              case atStart => exact ⟨0, by omega, by omega, rfl, HTd.out, K8d.out, K9d.out, HRow.out⟩
              case round =>
                clear HTd K8d K9d HRow
                obtain ⟨i, hi, hig, rfl, hT, k8, k9, hrow⟩ := hrel
                have HT := Lib.hid hT
                have K8 := Lib.hid k8
                have K9 := Lib.hid k9
                have HRow := Lib.hid hrow
                clear hT k8 k9 hrow
                by_cases hin : i < np
                · obtain ⟨gs, x', hS, -, -, hx', hcs, -⟩ := Own.at_ HRow.out hin
                  subst hS
                  obtain ⟨p, hp⟩ : ∃ p, ps[i]? = some p := ⟨_, List.getElem?_eq_getElem (by omega)⟩
                  have hx2 : x' = natv p := by
                    rw [List.getElem?_map, hp] at hx'
                    simpa using hx'.symm
                  subst hx2
                  have hpk := HPlt.out p (List.mem_of_getElem? hp)
                  rw [HL.out] at hpk
                  obtain ⟨go, xo, hgo, -, -, hxo, hco, hfo⟩ := Own.at_ HT.out.out_ (k := p) hpk
                  have hgo' : go = w.heap.size := by injection hgo with h; injection h with h1; exact h1.symm
                  subst hgo'
                  obtain ⟨v, hv⟩ : ∃ v, v = (incT out (ps.take i)).getD p 0 := ⟨_, rfl⟩
                  have hxo2 : xo = natv v := by
                    rw [List.getElem?_map] at hxo
                    rw [hv, List.getD]
                    cases hq : (incT out (ps.take i))[p]? with
                    | none => rw [hq] at hxo; cases hxo
                    | some q => rw [hq] at hxo; simpa using hxo.symm
                  subst hxo2
                  have hvb : v ≤ sumL counts + 257 := by rw [hv]; exact HF2.out.inc_le ps i p (by omega)
                  have HT2 := Lib.hid (HT.out.inc p (v + 1) (by omega))
                  rw [hv] at HT2
                  have HT3 := Lib.hid (show TreeR w hbx A2 c2 k M2 l3 [x2, x1] (incT out (ps.take (i + 1))) (wr.setCell ⟨w.heap.size, p, none⟩ (natv (v + 1))) from by
                    rw [incT_step out hp, hv]
                    exact HT2.out)
                  have K82 := Lib.hid (K8.out.inc HT.out p (natv (v + 1)))
                  have K92 := Lib.hid (K9.out.inc HT.out p (natv (v + 1)))
                  have HRow2 := Lib.hid (show OwnN (wr.setCell ⟨w.heap.size, p, none⟩ (natv (v + 1))) (w.heap.size + 1) (some ⟨gs, 0, none⟩) np cs ps from Own.setCell HRow.out (p := ⟨w.heap.size, p, none⟩) (fun e => by have h5 : w.heap.size + 1 ≤ w.heap.size := (Own.lt HRow.out e).1; omega) _)
                  have i1 : (0 : Int) ≤ (p : Int) := by omega
                  have i2 : (p : Int) < (k : Int) := by omega
                  have hcs' : wr.cell? ⟨gs, i, none⟩ = some (.int .i64 (p : Int)) := hcs
                  have hco' : wr.cell? ⟨w.heap.size, p, none⟩ = some (.int .i64 (v : Int)) := hco
                  clear hx' hgo hxo hv HT2 hp hcs hco
                  go_wp2
                  go_roundg (np - (i + 1))
                  case measure => omega
                  case rel => exact ⟨i + 1, by omega, by omega, by go_num, HT3.out, K82.out, K92.out, HRow2.out⟩
                · obtain rfl : i = np := by omega
                  subst hnp
                  obtain ⟨a0, a1, a2, a3, a4, a5, a6⟩ := blk_cells K8.out.blk
                  obtain ⟨d0, d1, d2, d3, d4, d5, d6⟩ := blk_cells K9.out.blk
                  have a0' : wr.cell? ⟨b8, 0, none⟩ = some (.int .i64 (x1.wt : Int)) := a0
                  have d0' : wr.cell? ⟨b9, 0, none⟩ = some (.int .i64 (x2.wt : Int)) := d0
                  have hTe := HT.out
                  rw [List.take_length] at hTe
                  have hbx1 := hTe.heap.cell
                  obtain ⟨x, hx⟩ : ∃ x : Th, x = ⟨x1.wt + x2.wt, nx, S, ps.length, cs, ps, max x1.ht x2.ht + 1⟩ := ⟨_, rfl⟩
                  have HPush := Lib.hid (hpPush (w.heap.size + 1) hbx A2 M2 c2 l3 x wr hTe.heap (by omega) (by have := hTe.lt; omega) hTe.all)
                  have hthx : thV x = .iface 161 (.agg #[.int .i64 ((x1.wt : Int) + (x2.wt : Int)), .int .i64 (nx : Int), .slice S ps.length cs]) := by
                    rw [hx]
                    show Value.iface _ (.agg #[.int .i64 ((x1.wt + x2.wt : Nat) : Int), .int .i64 (nx : Int), .slice S ps.length cs]) = _
                    rw [Int.natCast_add]
                  rw [hthx] at HPush
                  have HTe := Lib.hid hTe
                  have HX := Lib.hid hx
                  clear hTe hx hthx a0 a1 a2 a3 a4 a5 d0 d1 d2 d3 d4 d5 HT
                  go_wp2_with fail
                  refine HPush.out.mono ?_
                  rintro e wz ⟨⟨v, rfl⟩, ⟨A', c', l', hh', hp', ha', -⟩, ht⟩
                  obtain ⟨q1, q2, q3, q4⟩ := HTe.out.two ht (by omega)
                  have hS := ht.own HRow.out (own_row_ne HTe.out.heap HRow.out).1 (own_row_ne HTe.out.heap HRow.out).2
                  have hxps : x.ps = ps := by rw [HX.out]
                  have HHn := Lib.hid hh'
                  have HAn := Lib.hid ha'
                  have HPn := Lib.hid (show PartsR wz w.heap.size l' from fun y hy => by
                    rcases List.mem_cons.1 (hp'.subset hy) with rfl | hy
                    · rw [HX.out]; exact hS
                    · exact q1 y (List.mem_append_right _ hy))
                  have HFn := Lib.hid (show Forest (posL counts) (sumL counts) (incT out ps) l' from by
                    have := (HF2.out.merge (posL_nodup counts) (posL_lt counts) (by rw [HOl.out, HL.out]) HM1.out HM2.out (x := x) (by rw [HX.out]) (by rw [HX.out]) (by rw [hxps, HPs.out])).perm hp'
                    rwa [hxps] at this)
                  have HPhn := Lib.hid ((HPh2.out.merge HM1.out HM2.out HMa.out (x := x) (by rw [HX.out]) (by rw [HX.out])).perm hp')
                  have HRn2 := Lib.hid (fun f hf => HRn.out f (MRun.step (a := keyT x1) (b := keyT x2) (l := l3.map keyT) (HPm.out.map keyT) (fun y hy => by
                      rcases List.mem_cons.1 hy with rfl | hy
                      · exact HMa.out
                      · obtain ⟨z, hz, rfl⟩ := List.mem_map.1 hy; exact HM1.out z hz) (fun y hy => by obtain ⟨z, hz, rfl⟩ := List.mem_map.1 hy; exact HM2.out z hz)
                    (by
                      have h1 := hf.perm (hp'.map keyT)
                      have h2 : keyT x = ⟨x1.wt + x2.wt, nx, x1.ps ++ x2.ps⟩ := by rw [HX.out]; show Ky.mk _ _ ps = _; rw [HPs.out]
                      rw [List.map_cons, h2, HPs.out] at h1
                      exact h1)) : ∀ f, MRun (l'.map keyT) (incT out ps) (nx + 1) f → MRun (lvK counts k) (List.replicate k 0) N f)
                  have HOn := Lib.hid q2
                  have HBn := Lib.hid q4
                  have hcap := OwnT.cap hh'.row
                  clear hh' hp' ha' ht q1 q2 q4 hS hxps HPush HRow HTe
                  go_wp2_with fail
                  go_roundg (M2 + 1)
                  case measure => omega
                  case rel => exact ⟨M2 + 1, c', nx + 1, A', l', incT out ps, by omega, by omega, by go_num, by omega, HHn.out, HAn.out, HFn.out, HPhn.out, by rw [incT_len]; exact HOl.out, HPn.out, HOn.out, q3, HBn.out, hcap, HRn2.out⟩
          · obtain rfl : M = 1 := by omega
            have hx : ∃ x, hs = [x] := List.length_eq_one_iff.1 HHl.out
            obtain ⟨x, rfl⟩ := hx
            have HTr := Lib.hid (TreeOk.many HF.out (by rw [HOl.out, HL.out]))
            have HTx := Lib.hid (show TreeX counts out from .inr (by
              have h1 := HRn.out out (.done _ _ _)
              have h2 : (lvK counts k).length = N := by rw [← HKy.out, List.length_map]; exact HNl.out
              rw [HL.out, h2]
              exact ⟨by omega, h1⟩))
            go_wp2
            go_ret
            exact ⟨some ⟨w.heap.size, 0, none⟩, k, out, rfl, HO.out, HTr.out, LowOk.many HF.out HPh.out, PosOk.many HF.out HN2.out, HTx.out, HB.out⟩
end Go.Proofs.YtaelgbbnmjbjiaaGreat
namespace Go.Proofs.YtaelgbbnmjbjiaaGreat
open Go.RowKit
inductive LensR : List Nat → List Nat → Prop
  | done {cs out : List Nat} (h : TreeX cs out) (h2 : ∀ x ∈ out, x ≤ 11) : LensR cs out
  | half {cs out f : List Nat} (h : TreeX cs out) (h2 : ∃ x ∈ out, 11 < x) (h3 : LensR (cs.map hv) f) : LensR cs f
def LensX (counts out : List Nat) : Prop := ∃ m, m < counts.length ∧ 0 < counts.getD m 0 ∧ (∀ p, m < p → counts.getD p 0 = 0) ∧ LensR (counts.take (m + 1)) out
set_option maxHeartbeats 4000000 in
set_option maxRecDepth 10000 in
theorem huffLensX (A : Option Addr) (n c : Nat) (counts : List Nat) (w : World) (hl : counts.length = n) (hr : Ns w A counts) (hn0 : 0 < n) (hn : n ≤ 256) (hb : ∀ x ∈ counts, x ≤ 4294967295) (hp : ∃ p, 0 < counts.getD p 0) :
    Calls Tryz.prog 76 #[.slice A n c] w fun e w' => ∃ S m cs out, e = .returned (.tuple #[.slice S m cs, .int .i64 0]) ∧ OwnN w' w.heap.size S m cs out ∧ LensOk counts out ∧ LensX counts out ∧ Below w.heap.size w w' := by
  have HL := Lib.hid hl
  have HBd := Lib.hid hb
  have HP := Lib.hid hp
  have HCl := Lib.hid (cloneN A n c counts w hl hr hn0 (by omega))
  clear hl hr hb hp
  go_enter Tryz.func76, Tryz.ntmps76
  go_wp2_with fail
  refine HCl.out.mono ?_
  rintro e w1 ⟨g, c1, rfl, ho, hbel⟩
  have HO := Lib.hid ho
  have HB := Lib.hid hbel
  have HCon := Lib.hid (huffContains (some ⟨g, 0, none⟩) n c1 counts w1 HL.out (OwnN.ns ho) (by omega) HBd.out)
  obtain ⟨M, hM1, hM2, hM3⟩ := maxN g n c1 w.heap.size counts w1 ho hn0 (by omega)
  have hM0 : 0 < M := by
    obtain ⟨p, hp⟩ := HP.out
    rcases Nat.lt_or_ge p counts.length with h' | h'
    · rw [List.getD, List.getElem?_eq_getElem h', Option.getD_some] at hp
      have := hM1 _ (List.getElem_mem h'); omega
    · rw [getD_out h'] at hp; omega
  have HMax := Lib.hid hM3
  clear ho hbel hM1 hM2 hM3 HCl
  have g1 : decide ((256 : Int) < (n : Int)) = false := decide_eq_false (by omega)
  have g2 : ((n : Int) == 0) = false := beq_eq_false_iff_ne.2 (by omega)
  have g3 : ((M : Int) == 0) = false := beq_eq_false_iff_ne.2 (by omega)
  go_wp2_with fail
  refine HCon.out.mono ?_
  rintro e w2 ⟨rfl, rfl⟩
  go_wp2_with fail
  refine HMax.out.mono ?_
  rintro e w3 ⟨rfl, rfl⟩
  clear HCon HMax
  have hcap : n ≤ c1 := (Own.cap HO.out).1
  have HT0 := Lib.hid (⟨by rw [HL.out]; exact Nat.le_refl _, fun p hp => getD_out (by rw [HL.out]; exact hp)⟩ : TrimOk counts n)
  go_wp2_with fail
  go_loopg [4] n (fun gg s4 wr => ∃ (m : Nat), 0 < m ∧ m ≤ n ∧ m ≤ gg ∧ s4 = .slice (some ⟨g, 0, none⟩) m c1 ∧ TrimOk counts m ∧ w3 = wr)
  case atStart => exact ⟨n, hn0, Nat.le_refl _, Nat.le_refl _, rfl, HT0.out, rfl⟩
  case round =>
    obtain ⟨m0, hm0, hmn, hmg, rfl, htr, rfl⟩ := hrel
    obtain ⟨m, rfl⟩ : ∃ m, m0 = m + 1 := ⟨m0 - 1, by omega⟩
    have HTr := Lib.hid htr
    obtain ⟨g', x', hg', -, -, hx', hc, -⟩ := Own.at_ HO.out (k := m) (by omega)
    cases hg'
    obtain ⟨x, hx⟩ : ∃ x, counts[m]? = some x := ⟨_, List.getElem?_eq_getElem (by rw [HL.out]; omega)⟩
    have hxv : x' = .int .i64 (x : Int) := by
      rw [List.getElem?_map, hx] at hx'
      exact (Option.some.inj hx').symm
    subst hxv
    have HX := Lib.hid hx
    clear htr hx hx'
    have i1 : (0 : Int) ≤ ((m + 1 : Nat) : Int) - 1 := by omega
    by_cases hx0 : x = 0
    · have g4 : ((x : Int) == 0) = true := by rw [hx0]; rfl
      subst hx0
      have htr2 := HTr.out.step HX.out
      have hmp : 0 < m := by
        rcases Nat.eq_zero_or_pos m with h | h
        · exfalso
          obtain ⟨p, hp⟩ := HP.out
          rw [htr2.zero p (by omega)] at hp
          omega
        · exact h
      have HTr2 := Lib.hid htr2
      clear htr2
      go_wp2
      go_roundg m
      case measure => omega
      case rel => exact ⟨m, hmp, by omega, Nat.le_refl _, rfl, HTr2.out, rfl⟩
    · have g4 : ((x : Int) == 0) = false := beq_eq_false_iff_ne.2 (by omega)
      have HS0 := Lib.hid (HTr.out.same HX.out (by omega) HBd.out)
      have HTop := Lib.hid (⟨by rw [HL.out]; omega, by rw [List.getD, HX.out]; show 0 < x; omega, fun p hp => HTr.out.zero p hp⟩ : m < counts.length ∧ 0 < counts.getD m 0 ∧ ∀ p, m < p → counts.getD p 0 = 0)
      have HO1 := Lib.hid (show OwnN w3 w.heap.size (some ⟨g, 0, none⟩) (m + 1) c1 (counts.take (m + 1)) from by
        have h := Own.take HO.out hmn
        unfold OwnN
        rw [List.map_take]
        exact h)
      obtain ⟨cs0, hcs0⟩ : ∃ cs0, cs0 = counts.take (m + 1) := ⟨_, rfl⟩
      have HFin := Lib.hid (fun f hf => ⟨m, HTop.out.1, HTop.out.2.1, HTop.out.2.2, by rw [← hcs0]; exact hf⟩ : ∀ f, LensR cs0 f → LensX counts f)
      rw [← hcs0] at HS0 HO1
      obtain ⟨N, hN⟩ : ∃ N, N = m + 1 := ⟨_, rfl⟩
      rw [← hN] at HO1 hmn
      clear hcs0 HX HTr hmg hm0
      go_wp2_with fail
      rw [show m + 1 = N from hN.symm]
      clear hN hc i1 g4 hx0 HO
      go_loopg [5] (sumL cs0) (fun gg s5 wr => ∃ (cs : List Nat), sumL cs ≤ gg ∧ SameP counts cs ∧ OwnN wr w.heap.size (some ⟨g, 0, none⟩) N c1 cs ∧ Below w.heap.size w wr ∧ ∀ f, LensR cs f → LensX counts f)
      case atStart => exact ⟨cs0, Nat.le_refl _, HS0.out, HO1.out, HB.out, HFin.out⟩
      case round =>
        obtain ⟨cs, hsg, hS, hO, hB, hfin⟩ := hrel
        have HFn := Lib.hid hfin
        clear hfin HFin
        have hNl := OwnN.length hO
        have HS := Lib.hid hS
        have HO := Lib.hid hO
        have HB' := Lib.hid hB
        have hN0 : 0 < N := by have := hS.some_; omega
        have HTree := Lib.hid (huffTreeX (some ⟨g, 0, none⟩) N c1 cs wr hNl (OwnN.ns hO) hN0 (by omega) hS.le hS.nz)
        clear hS hO hB HS0 HO1
        go_wp2_with fail
        refine HTree.out.mono ?_
        rintro e w5 ⟨S, ct, out, rfl, hO5, hT5, hL5, hP5, hX5, hB5⟩
        have HX5 := Lib.hid hX5
        clear hX5
        obtain ⟨gs, x5, hS5, -, -, -, -, -⟩ := Own.at_ hO5 (k := 0) hN0
        subst hS5
        obtain ⟨M5, hM1, hM2, hM3⟩ := maxN gs N ct wr.heap.size out w5 hO5 hN0 (by omega)
        have HMax5 := Lib.hid hM3
        have HO5 := Lib.hid (show OwnN w5 w.heap.size (some ⟨gs, 0, none⟩) N ct out from Own.mono hO5 HB'.out.size)
        have HCs := Lib.hid (show OwnN w5 w.heap.size (some ⟨g, 0, none⟩) N c1 cs from Own.later HO.out hB5)
        have HB5 := Lib.hid (HB'.out.trans (hB5.mono HB'.out.size))
        have HT5 := Lib.hid hT5
        have HP5 := Lib.hid hP5
        have HBig := Lib.hid (fun h : ∃ x ∈ out, 11 < x => big_some hL5 (by omega) h)
        clear hO5 hT5 hL5 hP5 hB5 hM3 HTree HO HB'
        go_wp2_with fail
        refine HMax5.out.mono ?_
        rintro e w6 ⟨rfl, rfl⟩
        clear HMax5
        by_cases hM11 : M5 ≤ 11
        · have g5 : decide ((M5 : Int) ≤ 11) = true := decide_eq_true (by omega)
          have HLx := Lib.hid (HFn.out out (.done HX5.out (fun x hx => Nat.le_trans (hM1 x hx) hM11)))
          have HLens := Lib.hid (HS.out.lens (by rw [HL.out]; exact hn) HT5.out HP5.out (fun x hx => Nat.le_trans (hM1 x hx) hM11))
          clear hM1 hM2
          go_wp2
          go_ret2
          exact ⟨some ⟨gs, 0, none⟩, N, ct, out, rfl, HO5.out, HLens.out, HLx.out, HB5.out⟩
        · have g5 : decide ((M5 : Int) ≤ 11) = false := decide_eq_false (by omega)
          have HFn2 := Lib.hid (fun f hf => HFn.out f (.half HX5.out ⟨M5, hM2, by omega⟩ hf) : ∀ f, LensR (cs.map hv) f → LensX counts f)
          have hless := sum_hv_lt cs (HBig.out ⟨M5, hM2, by omega⟩)
          clear hM1 hM2
          go_wp2_with fail
          go_loopg [47] N (fun gg s47 wz => ∃ i : Nat, i ≤ N ∧ N - i ≤ gg ∧ s47 = .int .i64 (i : Int) ∧ OwnN wz w.heap.size (some ⟨g, 0, none⟩) N c1 (hvUp cs i) ∧ Below w.heap.size w wz)
          case atStart => exact ⟨0, by omega, by omega, rfl, by rw [hvUp_zero]; exact HCs.out, HB5.out⟩
          case round =>
            obtain ⟨i, hi, hig, rfl, hOi, hBi⟩ := hrel
            have HOi := Lib.hid hOi
            have HBi := Lib.hid hBi
            clear hOi hBi HCs HB5
            by_cases hiN : i < N
            · obtain ⟨gz, xz, hgz, hg1, -, hxz, hcz, hfz⟩ := Own.at_ HOi.out hiN
              cases hgz
              obtain ⟨y, hy⟩ : ∃ y, cs[i]? = some y := ⟨_, List.getElem?_eq_getElem (by omega)⟩
              have hxv : xz = .int .i64 (y : Int) := by
                rw [List.getElem?_map, hvUp_at (by omega), hy] at hxz
                exact (Option.some.inj hxz).symm
              subst hxv
              have hyb := HS.out.le y (List.mem_of_getElem? hy)
              have HY := Lib.hid hy
              clear hy hxz
              have i1 : (0 : Int) ≤ (i : Int) := by omega
              have i2 : (i : Int) < (N : Int) := by omega
              by_cases hy0 : 0 < y
              · have g6 : decide ((0 : Int) < (y : Int)) = true := decide_eq_true (by omega)
                have HO2 := Lib.hid (show OwnN (wr.setCell ⟨g, i, none⟩ (.int .i64 ((y : Int) / 2 + 1))) w.heap.size (some ⟨g, 0, none⟩) N c1 (hvUp cs (i + 1)) from by
                  have h := (Own.stored HOi.out i (natv (hv y))).1
                  rw [← List.map_set, hvUp_step HY.out] at h
                  have e : natv (hv y) = .int .i64 ((y : Int) / 2 + 1) := by
                    unfold hv natv
                    rw [if_pos hy0]
                    simp
                  rw [e] at h
                  exact h)
                have HB2 := Lib.hid (HBi.out.setCell (p := ⟨g, i, none⟩) hg1 (.int .i64 ((y : Int) / 2 + 1)))
                go_wp2
                go_roundg (N - (i + 1))
                case measure => omega
                case rel => exact ⟨i + 1, by omega, by omega, by go_num, HO2.out, HB2.out⟩
              · obtain rfl : y = 0 := by omega
                have g6 : decide ((0 : Int) < ((0 : Nat) : Int)) = false := decide_eq_false (by omega)
                have HO2 := Lib.hid (show OwnN wr w.heap.size (some ⟨g, 0, none⟩) N c1 (hvUp cs (i + 1)) from by
                  rw [hvUp_skip HY.out]; exact HOi.out)
                go_wp2
                go_roundg (N - (i + 1))
                case measure => omega
                case rel => exact ⟨i + 1, by omega, by omega, by go_num, HO2.out, HBi.out⟩
            · obtain rfl : i = N := by omega
              have HO2 := Lib.hid (show OwnN wr w.heap.size (some ⟨g, 0, none⟩) i c1 (cs.map hv) from by
                rw [← hvUp_all hNl.symm]; exact HOi.out)
              go_wp2
              go_roundg (sumL (cs.map hv))
              case measure => omega
              case rel => exact ⟨cs.map hv, Nat.le_refl _, HS.out.half, HO2.out, HBi.out, HFn2.out⟩
end Go.Proofs.YtaelgbbnmjbjiaaGreat
namespace Go.Proofs.YtaelgbbnmjbjiaaGreat
open Go.RowKit
def LensK : Nat → List Nat → List Nat → Prop
  | 0, cs, f => TreeX cs f ∧ ∀ x ∈ f, x ≤ 11
  | k + 1, cs, f => ∃ out, TreeX cs out ∧ (∃ x ∈ out, 11 < x) ∧ LensK k (cs.map hv) f
theorem LensR.k {cs f : List Nat} (h : LensR cs f) : ∃ k, LensK k cs f := by
  induction h with
  | done h h2 => exact ⟨0, h, h2⟩
  | half h h2 h3 ih =>
    obtain ⟨k, hk⟩ := ih
    exact ⟨k + 1, _, h, h2, hk⟩
structure CsOk (n : Nat) (cs : List Nat) : Prop where
  len : cs.length = n
  le : ∀ x ∈ cs, x ≤ 4294967295
  nz : ∃ p, 0 < cs.getD p 0
theorem CsOk.half {n : Nat} {cs : List Nat} (h : CsOk n cs) : CsOk n (cs.map hv) := by
  refine ⟨by rw [List.length_map]; exact h.len, fun x hx => ?_, ?_⟩
  · obtain ⟨y, hy, rfl⟩ := List.mem_map.1 hx
    have := h.le y hy
    unfold hv
    split <;> omega
  · obtain ⟨p, hp⟩ := h.nz
    refine ⟨p, ?_⟩
    have hlt : p < cs.length := by
      rcases Nat.lt_or_ge p cs.length with h' | h'
      · exact h'
      · rw [getD_out h'] at hp; omega
    simp only [List.getD, List.getElem?_map, List.getElem?_eq_getElem hlt, Option.map_some, Option.getD_some] at hp ⊢
    unfold hv
    rw [if_pos hp]; omega
set_option maxHeartbeats 8000000 in
set_option maxRecDepth 10000 in
theorem refLengths (A : Option Addr) (n c : Nat) (counts lens : List Nat) (w : World) (hl : counts.length = n) (hr : Ns w A counts) (hc : n ≤ c) (hn : n ≤ 256) (hb : ∀ x ∈ counts, x ≤ 4294967295) (hx : LensX counts lens) :
    Calls Tryz.prog 39 #[.slice A n c] w fun e w' => ∃ S m cs, e = .returned (.tuple #[.slice S m cs, .int .i64 0]) ∧ OwnN w' w.heap.size S m cs lens ∧ Below w.heap.size w w' := by
  obtain ⟨m, hm, hm0, hmz, hlr⟩ := hx
  have HMz := Lib.hid hmz
  have HM0 := Lib.hid hm0
  have HLr := Lib.hid hlr
  have HL := Lib.hid hl
  have HR := Lib.hid hr
  have HBd := Lib.hid hb
  rw [hl] at hm
  clear hl hr hb hmz hm0 hlr
  have g0 : decide ((256 : Int) < (n : Int)) = false := decide_eq_false (by omega)
  go_enter Tryz.func39, Tryz.ntmps39
  go_wp2
  go_loopg [4, 5] n (fun gg s4 s5 wr => ∃ (k t : Nat), k ≤ n ∧ n - k ≤ gg ∧ s4 = .int .i64 ((t : Int) - 1) ∧ s5 = .int .i64 (k : Int) ∧ t ≤ k ∧ (∀ p, t ≤ p → p < k → counts.getD p 0 = 0) ∧ (0 < t → 0 < counts.getD (t - 1) 0) ∧ wr = w)
  case atStart => exact ⟨0, 0, by omega, by omega, rfl, rfl, by omega, fun p h1 h2 => by omega, fun h => by omega, rfl⟩
  case round =>
    obtain ⟨k, t, hk, hgg, rfl, rfl, htk, hz, hp, rfl⟩ := hrel
    have HZ := Lib.hid hz
    have HP := Lib.hid hp
    clear hz hp
    by_cases hkn : k < n
    · obtain ⟨b, o, x, hA, hx, hcx⟩ := HR.out.at_ (by rw [HL.out]; exact hkn : k < counts.length)
      subst hA
      have hxd : counts.getD k 0 = x := by simp [List.getD, hx]
      have hx32 := HBd.out x (List.mem_of_getElem? hx)
      have HXd := Lib.hid hxd
      clear hx hxd
      by_cases hx0 : 0 < x
      · have HZ2 := Lib.hid (show ∀ p, k + 1 ≤ p → p < k + 1 → counts.getD p 0 = 0 from fun p h1 h2 => by omega)
        have HP2 := Lib.hid (show 0 < k + 1 → 0 < counts.getD (k + 1 - 1) 0 from fun _ => by rw [Nat.add_sub_cancel, HXd.out]; exact hx0)
        go_wp2
        go_roundg (n - (k + 1))
        case measure => omega
        case rel => exact ⟨k + 1, k + 1, by omega, by omega, by go_num, by go_num, by omega, HZ2.out, HP2.out, rfl⟩
      · have HZ2 := Lib.hid (show ∀ p, t ≤ p → p < k + 1 → counts.getD p 0 = 0 from fun p h1 h2 => by
          by_cases e : p = k
          · rw [e, HXd.out]; omega
          · exact HZ.out p h1 (by omega))
        go_wp2
        go_roundg (n - (k + 1))
        case measure => omega
        case rel => exact ⟨k + 1, t, by omega, by omega, rfl, by go_num, by omega, HZ2.out, HP.out, rfl⟩
    · obtain rfl : k = n := by omega
      obtain rfl : t = m + 1 := by
        rcases Nat.lt_trichotomy t (m + 1) with h | h | h
        · have h1 := HZ.out m (by omega) hm
          have h2 := HM0.out
          omega
        · exact h
        · have h1 := HP.out (by omega)
          have h2 := HMz.out (t - 1) (by omega)
          omega
      have e1 : ((m + 1 : Nat) : Int) - 1 = (m : Int) := by omega
      rw [e1]
      have HT := Lib.hid (show Ns wr A (counts.take (m + 1)) by
        have h := Rd.take (m + 1) HR.out
        rwa [← List.map_take] at h)
      obtain ⟨cs0, hcs0⟩ : ∃ cs0, cs0 = counts.take (m + 1) := ⟨_, rfl⟩
      have HC0 := Lib.hid (show CsOk (m + 1) cs0 by
        rw [hcs0]
        refine ⟨by rw [List.length_take, HL.out]; omega, fun x hx => HBd.out x (List.mem_of_mem_take hx), m, ?_⟩
        have h := HM0.out
        simp only [List.getD, List.getElem?_take] at h ⊢
        rw [if_pos (by omega)]; exact h)
      obtain ⟨K, hK⟩ := HLr.out.k
      rw [← hcs0] at HT hK
      have HK := Lib.hid hK
      clear hcs0 hK HZ HP htk hgg hkn e1
      obtain ⟨N, hN⟩ : ∃ N, N = m + 1 := ⟨_, rfl⟩
      have HN := Lib.hid hN
      rw [← hN] at HC0
      have hN9 : 0 < N ∧ N ≤ 256 := by omega
      have hNc : N ≤ c := by omega
      have e2 : (m : Int) + 1 = (N : Int) := by omega
      clear hN
      go_wp2_with (first | (at_builtin; refine wpList_append_rd rfl _ _ elemN rfl wr.heap.size none 0 0 [] rfl (Own.nil _ _ _) A N c (cs0.map natv) ?hx HT.out ?h1 (nat_one _) ?h2 ?h3 ?hb ?_) | (with_reducible refine wpList_slice_hi ?g ?s ?h elemN ?ho A k c N ?hs ?hh ?hk ?_; (case ho => exact rfl); (case g => exact rfl); (case hs => exact rfl); (case hh => first | exact rfl | (rw [← e2]; exact rfl)); (case hk => omega)))
      case hx => rfl
      case h1 => rw [List.length_map]; exact HC0.out.len
      case h2 => omega
      case h3 => omega
      case hb => exact Nat.le_refl _
      intro A1 c1 w1 hown1 hb1 hg1 hat1
      have HO1 := Lib.hid (show OwnN w1 wr.heap.size A1 N c1 cs0 from hown1)
      have HB1 := Lib.hid hb1
      obtain ⟨g, -, hA1, -, -, -, -, -⟩ := Own.at_ HO1.out (k := 0) (by omega)
      subst hA1
      clear hown1 hb1 hg1 hat1 HT hNc e2 g0 hm hk
      obtain ⟨w0, hw0⟩ : ∃ w0, w0 = wr := ⟨_, rfl⟩
      subst hw0
      go_wp2_with fail
      go_loopg [8] K (fun gg s8 wz => ∃ (j : Nat) (cs : List Nat), j ≤ gg ∧ LensK j cs lens ∧ CsOk N cs ∧ OwnN wz w0.heap.size (some ⟨g, 0, none⟩) N c1 cs ∧ Below w0.heap.size w0 wz)
      case atStart => exact ⟨K, cs0, Nat.le_refl _, HK.out, HC0.out, HO1.out, HB1.out⟩
      case round =>
        clear HK HC0 HO1 HB1
        obtain ⟨j, cs, hj, hK, hC, hO, hB⟩ := hrel
        have HK := Lib.hid hK
        have HC := Lib.hid hC
        have HO := Lib.hid hO
        have HB := Lib.hid hB
        have HTr := Lib.hid (refTree (some ⟨g, 0, none⟩) N c1 cs wr hC.len (OwnN.ns hO) hN9.1 hN9.2 hC.le hC.nz)
        clear hK hC hO hB
        go_wp2_with fail
        refine HTr.out.mono ?_
        rintro e w5 ⟨S, ct, out, M, rfl, hO5, hT5, hM5, hM6, hB5⟩
        have HT5 := Lib.hid hT5
        have HM5 := Lib.hid hM5
        have HM6 := Lib.hid hM6
        have HO5 := Lib.hid (show OwnN w5 w0.heap.size S N ct out from Own.mono hO5 HB.out.size)
        have HCs := Lib.hid (show OwnN w5 w0.heap.size (some ⟨g, 0, none⟩) N c1 cs from Own.later HO.out hB5)
        have HB5 := Lib.hid (HB.out.trans (hB5.mono HB.out.size))
        clear hT5 hM5 hM6 hO5 hB5 HTr HO HB
        cases j with
        | zero =>
          have hout : out = lens := HT5.out.one HK.out.1
          subst hout
          have hM11 : M ≤ 11 := by
            rcases HM6.out with h | h
            · omega
            · exact HK.out.2 M h
          go_wp2
          go_ret2
          exact ⟨S, N, ct, rfl, HO5.out, HB5.out⟩
        | succ j =>
          have hM11 : ¬ M ≤ 11 := by
            obtain ⟨o, h1, ⟨x, h2, h3⟩, -⟩ := HK.out
            rw [h1.one HT5.out] at h2
            have := HM5.out x h2
            omega
          have HK2 := Lib.hid (show LensK j (cs.map hv) lens from HK.out.elim (fun o h => h.2.2))
          have hNl := HC.out.len
          have HNl := Lib.hid hNl
          clear HT5 HM5 HM6 HO5 HK hNl
          go_wp2_with fail
          go_loopg [9] N (fun gg s9 wz => ∃ i : Nat, i ≤ N ∧ N - i ≤ gg ∧ s9 = .int .i64 (i : Int) ∧ OwnN wz w0.heap.size (some ⟨g, 0, none⟩) N c1 (hvUp cs i) ∧ Below w0.heap.size w0 wz)
          case atStart => exact ⟨0, by omega, by omega, rfl, by rw [hvUp_zero]; exact HCs.out, HB5.out⟩
          case round =>
            obtain ⟨i, hi, hig, rfl, hOi, hBi⟩ := hrel
            have HOi := Lib.hid hOi
            have HBi := Lib.hid hBi
            clear hOi hBi HCs HB5
            by_cases hiN : i < N
            · obtain ⟨gz, xz, hgz, hg1, -, hxz, hcz, hfz⟩ := Own.at_ HOi.out hiN
              cases hgz
              obtain ⟨y, hy⟩ : ∃ y, cs[i]? = some y := ⟨_, List.getElem?_eq_getElem (by rw [HNl.out]; omega)⟩
              have hxv : xz = .int .i64 (y : Int) := by
                rw [List.getElem?_map, hvUp_at (by rw [HNl.out]; omega), hy] at hxz
                exact (Option.some.inj hxz).symm
              subst hxv
              have hyb := HC.out.le y (List.mem_of_getElem? hy)
              have HY := Lib.hid hy
              clear hy hxz
              have i2 : (i : Int) < (N : Int) := by omega
              by_cases hy0 : 0 < y
              · have HO2 := Lib.hid (show OwnN (wr.setCell ⟨g, i, none⟩ (.int .i64 ((y : Int) / 2 + 1))) w0.heap.size (some ⟨g, 0, none⟩) N c1 (hvUp cs (i + 1)) from by
                  have h := (Own.stored HOi.out i (natv (hv y))).1
                  rw [← List.map_set, hvUp_step HY.out] at h
                  have e : natv (hv y) = .int .i64 ((y : Int) / 2 + 1) := by
                    unfold hv natv
                    rw [if_pos hy0]
                    simp
                  rw [e] at h
                  exact h)
                have HB2 := Lib.hid (HBi.out.setCell (p := ⟨g, i, none⟩) hg1 (.int .i64 ((y : Int) / 2 + 1)))
                go_wp2
                go_roundg (N - (i + 1))
                case measure => omega
                case rel => exact ⟨i + 1, by omega, by omega, by go_num, HO2.out, HB2.out⟩
              · obtain rfl : y = 0 := by omega
                have HO2 := Lib.hid (show OwnN wr w0.heap.size (some ⟨g, 0, none⟩) N c1 (hvUp cs (i + 1)) from by
                  rw [hvUp_skip HY.out]; exact HOi.out)
                go_wp2
                go_roundg (N - (i + 1))
                case measure => omega
                case rel => exact ⟨i + 1, by omega, by omega, by go_num, HO2.out, HBi.out⟩
            · obtain rfl : i = N := by omega
              have HO2 := Lib.hid (show OwnN wr w0.heap.size (some ⟨g, 0, none⟩) i c1 (cs.map hv) from by
                rw [← hvUp_all HNl.out.symm]; exact HOi.out)
              go_wp2
              go_roundg j
              case measure => omega
              case rel => exact ⟨j, cs.map hv, Nat.le_refl _, HK2.out, HC.out.half, HO2.out, HBi.out⟩
end Go.Proofs.YtaelgbbnmjbjiaaGreat
namespace Go.Proofs.YtaelgbbnmjbjiaaGreat
open Go.RowKit
def shV (counts : List Nat) (i : Nat) : Nat := if 0 < counts.getD i 0 then max 1 (counts.getD i 0 * 64 / sumL counts) else 0
def TopAt (l : List Nat) (i : Nat) : Prop := i < l.length ∧ (∀ x ∈ l, x ≤ l.getD i 0) ∧ ∀ j, j < i → l.getD j 0 ≠ l.getD i 0
theorem TopAt.one {l : List Nat} {i k : Nat} (h : TopAt l i) (h' : TopAt l k) : i = k := by
  have h1 := h.2.1 _ (getD_mem' h'.1)
  have h2 := h'.2.1 _ (getD_mem' h.1)
  have e : l.getD i 0 = l.getD k 0 := by omega
  rcases Nat.lt_trichotomy i k with h3 | h3 | h3
  · exact absurd e (h'.2.2 i h3)
  · exact h3
  · exact absurd e.symm (h.2.2 k h3)
inductive AdjR : List Nat → List Nat → Prop
  | done {l : List Nat} (h : sumL l = 64) : AdjR l l
  | dec {l f : List Nat} {i : Nat} (h : 64 < sumL l) (ht : TopAt l i) (h2 : AdjR (l.set i (l.getD i 0 - 1)) f) : AdjR l f
  | inc {l f : List Nat} {i : Nat} (h : sumL l < 64) (ht : TopAt l i) (h2 : AdjR (l.set i (l.getD i 0 + 1)) f) : AdjR l f
theorem AdjR.one {l f : List Nat} (h : AdjR l f) : ∀ {f' : List Nat}, AdjR l f' → f = f' := by
  induction h with
  | done h =>
    intro f' h'
    cases h' with
    | done => rfl
    | dec h2 => omega
    | inc h2 => omega
  | dec h ht h2 ih =>
    intro f' h'
    cases h' with
    | done h3 => omega
    | dec h3 ht3 h4 => obtain rfl := ht.one ht3; exact ih h4
    | inc h3 => omega
  | inc h ht h2 ih =>
    intro f' h'
    cases h' with
    | done h3 => omega
    | dec h3 => omega
    | inc h3 ht3 h4 => obtain rfl := ht.one ht3; exact ih h4
def ShareX (counts sh : List Nat) : Prop := ∃ out : List Nat, (∀ j, out.getD j 0 = shV counts j) ∧ (out = [] ∨ 0 < out.getD (out.length - 1) 0) ∧ AdjR out sh
theorem trim_one {a b : List Nat} (h : ∀ j, a.getD j 0 = b.getD j 0) (ha : a = [] ∨ 0 < a.getD (a.length - 1) 0) (hb : b = [] ∨ 0 < b.getD (b.length - 1) 0) : a = b := by
  have hle : ∀ {a b : List Nat}, (∀ j, a.getD j 0 = b.getD j 0) → (a = [] ∨ 0 < a.getD (a.length - 1) 0) → a.length ≤ b.length := by
    intro a b h ha
    rcases ha with rfl | ha
    · simp
    · rcases Nat.lt_or_ge b.length a.length with h2 | h2
      · rw [h, List.getD, List.getElem?_eq_none (by omega)] at ha
        simp at ha
      · exact h2
  have e : a.length = b.length := Nat.le_antisymm (hle h ha) (hle (fun j => (h j).symm) hb)
  refine List.ext_getElem e fun i h1 h2 => ?_
  have := h i
  simpa [List.getD, List.getElem?_eq_getElem h1, List.getElem?_eq_getElem h2] using this
theorem ShareX.one {counts sh sh' : List Nat} (h : ShareX counts sh) (h' : ShareX counts sh') : sh = sh' := by
  obtain ⟨a, h1, h2, h3⟩ := h
  obtain ⟨b, h1', h2', h3'⟩ := h'
  obtain rfl := trim_one (fun j => (h1 j).trans (h1' j).symm) h2 h2'
  exact h3.one h3'
theorem idx_factsX {l : List Nat} {m : Nat} (hm : m ∈ l) : ∃ k, k < l.length ∧ l.getD k 0 = m ∧ Lib.idxOf (l.map (fun x : Nat => (x : Int))) (m : Int) = (k : Int) ∧ ∀ j, j < k → l.getD j 0 ≠ m := by
  obtain ⟨k, h1, h2, h3⟩ := first_at hm
  refine ⟨k, h1, h2, ?_, h3⟩
  have := Lib.idxOf_hit (l.map (fun x : Nat => (x : Int))) l.length k (m : Int) h1 (by simp) (by simp [List.getD, List.getElem?_eq_getElem h1] at h2 ⊢; omega) (fun j hj => by
    have h4 := h3 j hj
    have hj1 : j < l.length := by omega
    simp [List.getD, List.getElem?_eq_getElem hj1] at h4 ⊢; omega)
  rw [List.take_of_length_le (by simp)] at this
  exact this
theorem sh_out {counts : List Nat} {j : Nat} (h : counts.length ≤ j) : shV counts j = 0 := by
  unfold shV
  have : counts.getD j 0 = 0 := by rw [List.getD, List.getElem?_eq_none h]; rfl
  rw [this, if_neg (by omega)]
theorem sh_skip {counts out : List Nat} {i : Nat} (h : ∀ j, out.getD j 0 = if j < i then shV counts j else 0) (hx : counts[i]? = some 0) : ∀ j, out.getD j 0 = if j < i + 1 then shV counts j else 0 := fun j => by
  rw [h j]
  by_cases e : j = i
  · subst e
    have : shV counts j = 0 := by
      unfold shV
      have : counts.getD j 0 = 0 := by rw [List.getD, hx]; rfl
      rw [this, if_neg (by omega)]
    rw [if_neg (by omega), if_pos (by omega), this]
  · by_cases h2 : j < i
    · rw [if_pos h2, if_pos (by omega)]
    · rw [if_neg h2, if_neg (by omega)]
theorem sh_put {counts out : List Nat} {i x X : Nat} (h : ∀ j, out.getD j 0 = if j < i then shV counts j else 0) (hx : counts[i]? = some x) (h0 : 0 < x) (hl : out.length ≤ i) (hX : X = max 1 (x * 64 / sumL counts)) :
    ∀ j, (out ++ (List.replicate (i - out.length) 0 ++ [X])).getD j 0 = if j < i + 1 then shV counts j else 0 := fun j => by
  have hv : shV counts i = X := by
    unfold shV
    have : counts.getD i 0 = x := by rw [List.getD, hx]; rfl
    rw [this, if_pos h0, hX]
  have hj := h j
  simp only [List.getD] at hj ⊢
  by_cases h1 : j < out.length
  · rw [List.getElem?_append_left h1, hj, if_pos (by omega), if_pos (by omega)]
  · rw [List.getElem?_append_right (by omega)]
    rw [List.getElem?_eq_none (by omega)] at hj
    by_cases h2 : j < i
    · rw [List.getElem?_append_left (by simp; omega), if_pos (by omega)]
      rw [if_pos h2] at hj
      rw [← hj]
      simp [List.getElem?_replicate]
      split <;> rfl
    · by_cases e : j = i
      · subst e
        rw [List.getElem?_append_right (by simp), List.length_replicate, Nat.sub_self, if_pos (by omega), hv]
        rfl
      · rw [List.getElem?_eq_none (by simp; omega), if_neg (by omega)]
        rfl
set_option maxHeartbeats 4000000 in
set_option maxRecDepth 10000 in
theorem fseShareX (A : Option Addr) (n c : Nat) (l : List Nat) (w : World) (hl : l.length = n) (hr : Ns w A l) (hn : n ≤ 64) (hb : ∀ x ∈ l, x ≤ 65536) (h0 : 0 < nz l) (h32 : nz l ≤ 32) :
    Calls Tryz.prog 28 #[.slice A n c, .int .i64 6] w fun e w' => ∃ S m cs sh, e = .returned (.tuple #[.slice S m cs, .int .i64 0]) ∧ OwnN w' w.heap.size S m cs sh ∧ ShareOk l sh ∧ ShareX l sh ∧ Below w.heap.size w w' := by
  have HL := Lib.hid hl
  have HR := Lib.hid hr
  have HB := Lib.hid hb
  have HZ0 := Lib.hid h0
  have HZ32 := Lib.hid h32
  clear hl hr hb h0 h32
  have g0 : decide ((64 : Int) < (n : Int)) = false := decide_eq_false (by omega)
  go_enter Tryz.func28, Tryz.ntmps28
  go_wp2
  clear g0
  go_loopg [7, 8, 30] n (fun gg s7 s8 s30 wr => ∃ k : Nat, k ≤ n ∧ n - k ≤ gg ∧ s7 = .int .i64 ((sumL (l.take k) : Nat) : Int) ∧ s8 = .int .i64 ((nz (l.take k) : Nat) : Int) ∧ s30 = .int .i64 (k : Int) ∧ w = wr)
  case atStart => exact ⟨0, by omega, by omega, rfl, rfl, rfl, rfl⟩
  case round =>
    obtain ⟨k, hk, hgg, rfl, rfl, rfl, rfl⟩ := hrel
    by_cases hkn : k < n
    · obtain ⟨b, o, x, hA, hx, hc⟩ := HR.out.at_ (by rw [HL.out]; exact hkn : k < l.length)
      subst hA
      have hxb := HB.out x (List.mem_of_getElem? hx)
      have hs1 := sumL_step hx
      have hz1 := nz_step hx
      have hle := sumL_take_le l k
      have hS : sumL (l.take k) ≤ 65536 * 64 := by
        have h1 := sum_le_nz (l := l.take k) (m := 65536) (fun y hy => HB.out y (List.mem_of_mem_take hy))
        have h2 := nz_le (l.take k)
        have h3 : (l.take k).length ≤ 64 := by rw [List.length_take]; omega
        omega
      have hZ : nz (l.take k) ≤ 64 := by
        have h2 := nz_le (l.take k)
        have h3 : (l.take k).length ≤ 64 := by rw [List.length_take]; omega
        omega
      obtain ⟨T, hT⟩ : ∃ T, sumL (l.take k) = T := ⟨_, rfl⟩
      obtain ⟨Z, hZZ⟩ : ∃ Z, nz (l.take k) = Z := ⟨_, rfl⟩
      rw [hT] at hs1 hS hle
      rw [hZZ] at hz1 hZ
      rw [hT, hZZ]
      have HS1 := Lib.hid hs1
      have HZ1 := Lib.hid hz1
      clear hx hs1 hz1 hle hT hZZ
      by_cases hx0 : 0 < x
      · have g1 : decide ((0 : Int) < (x : Int)) = true := decide_eq_true (by omega)
        have HZ2 := Lib.hid (show nz (l.take (k + 1)) = Z + 1 by rw [HZ1.out, if_pos hx0])
        clear HZ1
        go_wp2
        go_roundg (n - (k + 1))
        case measure => omega
        case rel => exact ⟨k + 1, by omega, by omega, by rw [HS1.out]; go_num, by rw [HZ2.out]; go_num, by go_num, rfl⟩
      · have g1 : decide ((0 : Int) < (x : Int)) = false := decide_eq_false (by omega)
        have HZ2 := Lib.hid (show nz (l.take (k + 1)) = Z by rw [HZ1.out, if_neg hx0]; rfl)
        clear HZ1
        go_wp2
        go_roundg (n - (k + 1))
        case measure => omega
        case rel => exact ⟨k + 1, by omega, by omega, by rw [HS1.out]; go_num, by rw [HZ2.out], by go_num, rfl⟩
    · obtain rfl : k = n := by omega
      have hfull : l.take k = l := List.take_of_length_le (by rw [HL.out]; exact Nat.le_refl _)
      rw [hfull]
      clear hfull
      have hT : sumL l ≤ 65536 * 64 := by
        have h1 := sum_le_nz (l := l) (m := 65536) HB.out
        have h2 := nz_le l
        rw [HL.out] at h2
        omega
      have hTpos := nz_pos HZ0.out
      have hZ1 := HZ0.out
      have hZ2 := HZ32.out
      have HMem := Lib.hid (fun x (hx : x ∈ l) => mem_le_sum hx)
      obtain ⟨T, hTT⟩ : ∃ T, sumL l = T := ⟨_, rfl⟩
      have HTT := Lib.hid hTT
      obtain ⟨Z, hZZ⟩ : ∃ Z, nz l = Z := ⟨_, rfl⟩
      rw [hTT] at hT hTpos HMem ⊢
      rw [hZZ] at hZ1 hZ2 ⊢
      clear hTT hZZ
      have g2 : ((Z : Int) == 0) = false := beq_eq_false_iff_ne.2 (by omega)
      have g3 : decide ((32 : Int) < (Z : Int)) = false := decide_eq_false (by omega)
      go_wp2
      clear g2 g3
      go_loopg [11, 12, 58] k (fun gg s11 s12 s58 wr2 => ∃ (i m co : Nat) (Ao : Option Addr) (out : List Nat), i ≤ k ∧ k - i ≤ gg ∧ s11 = .slice Ao m co ∧ s12 = .int .i64 ((sumL out : Nat) : Int) ∧ s58 = .int .i64 (i : Int) ∧ OwnN wr2 w.heap.size Ao m co out ∧ Sh2 l i out ∧ Below w.heap.size w wr2 ∧ ∀ j, out.getD j 0 = if j < i then shV l j else 0)
      case atStart => exact ⟨0, 0, 0, none, [], by omega, by omega, rfl, rfl, rfl, OwnN.nil _ _, ⟨Nat.le_refl _, .inl rfl, fun i hi => by omega, by simp, by simp [nz]⟩, Below.refl _ _, fun j => by rw [if_neg (by omega)]; rfl⟩
      case round =>
        obtain ⟨i, m, co, Ao, out, hi, hgi, rfl, rfl, rfl, hown, hsh, hbel, hpt⟩ := hrel
        have HPt := Lib.hid hpt
        clear hpt
        have hm := OwnN.length hown
        have hmi : m ≤ i := by have := hsh.len; omega
        have hsum := hsh.sum_le
        have HO := Lib.hid hown
        have HSh := Lib.hid hsh
        have HBel := Lib.hid hbel
        have HM := Lib.hid hm
        clear hown hsh hbel hm
        by_cases hik : i < k
        · obtain ⟨b, o, x, hA, hx, hc⟩ := HR.out.at_ (by rw [HL.out]; exact hik : i < l.length)
          subst hA
          have hc2 := (HBel.out.cell (by simpa using block_lt hc)).trans hc
          have hxb := HB.out x (List.mem_of_getElem? hx)
          have hxT := HMem.out x (List.mem_of_getElem? hx)
          have HX := Lib.hid hx
          clear hx hc
          by_cases hx0 : 0 < x
          · have g1 : decide ((0 : Int) < (x : Int)) = true := decide_eq_true (by omega)
            obtain ⟨y, hy⟩ : ∃ y, i - m = y := ⟨_, rfl⟩
            have e1 : IntKind.i64.wrap ((i : Int) - m) = (y : Int) := by rw [wrapi64 (by omega) (by omega)]; omega
            go_wp2_with (at_builtin; go_loud (refine wpList_append_zeros rfl _ _ elemN .i64 .i64 Tryz.underlying3 rfl w.heap.size Ao m co (out.map natv) rfl HO.out (y + 1) ?c0 ?c1 rfl ?c2 ?c3 ?c4 ?_))
            case c0 => rfl
            case c1 => omega
            case c2 => omega
            case c3 => omega
            case c4 => exact HBel.out.size
            intro A' c' w5 hown5 hb5 hgr5 _
            have HO5 := Lib.hid (ownN_zeros hown5)
            have HB5 := Lib.hid (HBel.out.trans hb5)
            clear hown5 hb5 hgr5 e1 hc2
            obtain ⟨g, xa, hA', hg1, hg2, -, hcg, hfg⟩ := Own.at_ HO5.out (k := i) (by omega)
            subst hA'
            have hmi2 : m + (y + 1) = i + 1 := by omega
            rw [hmi2]
            have i3 : (0 : Int) ≤ (i : Int) := by omega
            have i4 : (i : Int) < ((i + 1 : Nat) : Int) := by omega
            go_wp2_with fail
            obtain ⟨X, hX⟩ : ∃ X, X = max 1 (x * 64 / T) := ⟨_, rfl⟩
            have hX1 : 0 < X := by omega
            have hX2 : X ≤ 64 := by
              have h1 : x * 64 ≤ T * 64 := Nat.mul_le_mul_right _ hxT
              have h2 : x * 64 / T ≤ 64 := Nat.div_le_of_le_mul h1
              omega
            have eX : max 1 ((x : Int) * 64 / (T : Int)) = (X : Int) := by
              have : ((x : Int) * 64 / (T : Int)) = ((x * 64 / T : Nat) : Int) := by simp
              rw [this, hX]; omega
            rw [eX]
            obtain ⟨hput, hsum2⟩ := HSh.out.put HX.out hx0 hX1 hX2
            have hst := (Own.stored HO5.out i (.int .i64 (X : Int)))
            have hpad := pad_eq (x := X) HSh.out.len
            rw [HM.out, hy] at hpad
            rw [HM.out, hy] at hput hsum2
            have HO6 := Lib.hid (show OwnN (w5.setCell ⟨g, i, none⟩ (.int .i64 (X : Int))) w.heap.size (some ⟨g, 0, none⟩) (i + 1) c' (out ++ (List.replicate y 0 ++ [X])) from by
              unfold OwnN
              rw [← hpad, List.map_set, ← hmi2]
              exact hst.1)
            have HB6 := Lib.hid (show Below w.heap.size w (w5.setCell ⟨g, i, none⟩ (.int .i64 (X : Int))) from HB5.out.setCell hg1 _)
            have HSh6 := Lib.hid hput
            have HPt6 := Lib.hid (by
              have h := sh_put HPt.out HX.out hx0 HSh.out.len (X := X) (by rw [hX, HTT.out])
              rw [HM.out, hy] at h
              exact h : ∀ j, (out ++ (List.replicate y 0 ++ [X])).getD j 0 = if j < i + 1 then shV l j else 0)
            have HSum6 := Lib.hid hsum2
            clear hst hpad hput hsum2 hX eX
            have e5 : wrap64 ((sumL out : Nat) + (X : Int)) = (sumL out : Nat) + (X : Int) := by unfold wrap64; omega
            rw [e5]
            go_roundg (k - (i + 1))
            case measure => omega
            case rel => exact ⟨i + 1, i + 1, c', some ⟨g, 0, none⟩, _, by omega, by omega, rfl, by rw [HSum6.out]; go_num, by go_num, HO6.out, HSh6.out, HB6.out, HPt6.out⟩
          · have g1 : decide ((0 : Int) < (x : Int)) = false := decide_eq_false (by omega)
            obtain rfl : x = 0 := by omega
            have HSh2 := Lib.hid (HSh.out.skip HX.out)
            have HPt2 := Lib.hid (sh_skip HPt.out HX.out)
            go_wp2
            go_roundg (k - (i + 1))
            case measure => omega
            case rel => exact ⟨i + 1, m, co, Ao, out, by omega, by omega, rfl, rfl, by go_num, HO.out, HSh2.out, HBel.out, HPt2.out⟩
        · obtain rfl : i = k := by omega
          have hsh3 := Sh3.of (by have h := HSh.out; rw [← HL.out] at h; exact h) HZ0.out HZ32.out
          have HSh3 := Lib.hid hsh3
          have HFn0 := Lib.hid (fun f hf => ⟨out, fun j => by rw [HPt.out j]; split; rfl; rw [sh_out (by rw [HL.out]; omega)], HSh.out.last, hf⟩ : ∀ f, AdjR out f → ShareX l f)
          clear hsh3
          go_wp2
          go_loopg [12] 8192 (fun gg s12 wr3 => ∃ (out : List Nat), s12 = .int .i64 ((sumL out : Nat) : Int) ∧ sumL out ≤ 8000 ∧ (sumL out - 64) + (64 - sumL out) ≤ gg ∧ OwnN wr3 w.heap.size Ao m co out ∧ Sh3 l out ∧ Below w.heap.size w wr3 ∧ ∀ f, AdjR out f → ShareX l f)
          case atStart => exact ⟨out, rfl, by omega, by omega, HO.out, HSh3.out, HBel.out, HFn0.out⟩
          case round =>
            clear HSh3 HSh HO HM hsum HFn0 HPt
            obtain ⟨sh, rfl, hs, hgs, hown, hsh, hbel, hfn⟩ := hrel
            have HFn := Lib.hid hfn
            clear hfn
            have HO := Lib.hid hown
            have HSh := Lib.hid hsh
            have HB3 := Lib.hid hbel
            have HM := Lib.hid (OwnN.length hown)
            clear hown hsh hbel
            by_cases h64 : sumL sh = 64
            · have HS := Lib.hid h64
              rw [h64]
              clear h64
              go_wp2
              go_ret2
              exact ⟨Ao, m, co, sh, rfl, HO.out, ⟨HS.out, HSh.out.len, HSh.out.last, HSh.out.has⟩, HFn.out sh (.done HS.out), HB3.out⟩
            · have g6 : (((sumL sh : Nat) : Int) != 64) = true := bne_iff_ne.2 (by omega)
              obtain ⟨M, hM1, hM2, hM3⟩ := maxOf_nat HSh.out.ne
              obtain ⟨ix, hix, hixM, hidx, hfst⟩ := idx_factsX hM3
              have HTopx := Lib.hid (⟨hix, hixM ▸ hM2, hixM ▸ hfst⟩ : TopAt sh ix)
              have HixM := Lib.hid hixM
              have hM0 := HSh.out.max_pos hM2
              have hMt := HSh.out.max_two hM2
              have hMs := mem_le_sum hM3
              have hlm := HM.out
              obtain ⟨g, xa, hAo, hg1, hg2, hxa, hcg, hfg⟩ := Own.at_ HO.out (k := ix) (by omega)
              subst hAo
              have hcell := OwnN.cells HO.out
              have hlen2 : (sh.map (fun x : Nat => (x : Int))).length = m := by rw [List.length_map]; exact hlm
              have htk : (sh.map (fun x : Nat => (x : Int))).take m = sh.map (fun x : Nat => (x : Int)) := List.take_of_length_le (by omega)
              have HMax := Lib.hid (by have h := Tryz.slices_Max_int g 0 m co _ wr.drew (by omega) (by omega) (by omega) hcell; rw [htk, hM1] at h; exact h : Calls Tryz.prog 69 #[.slice (some ⟨g, 0, none⟩) m co] wr.drew fun e w' => e = .returned (.int .i64 (M : Int)) ∧ w' = wr.drew)
              have HIdx := Lib.hid (by have h := Tryz.slices_Index_int g 0 m co _ (M : Int) wr.drew (by omega) (by omega) hcell; rw [htk, hidx] at h; exact h : Calls Tryz.prog 68 #[.slice (some ⟨g, 0, none⟩) m co, .int .i64 (M : Int)] wr.drew fun e w' => e = .returned (.int .i64 (ix : Int)) ∧ w' = wr.drew)
              have hxv : xa = .int .i64 (M : Int) := by
                rw [List.getElem?_map, List.getElem?_eq_getElem (by omega)] at hxa
                rw [← Option.some.inj hxa]
                simp only [List.getD, List.getElem?_eq_getElem (show ix < sh.length by omega), Option.getD_some] at hixM
                rw [hixM]; rfl
              subst hxv
              clear hcell hlen2 htk hM1 hidx hxa
              have HSet := Lib.hid (fun x (hx : 0 < x) => HSh.out.set (k := ix) (x := x) hix (by rw [hixM]; exact hM0) hx)
              have HSumS := Lib.hid (fun x => by have h := sum_set sh ix x hix; rw [hixM] at h; exact h : ∀ x, sumL (sh.set ix x) + M = sumL sh + x)
              obtain ⟨S, hS⟩ : ∃ S, sumL sh = S := ⟨_, rfl⟩
              have HSs := Lib.hid hS
              rw [hS] at h64 hMt hMs hs hgs g6 HSumS ⊢
              clear hS hM2 hM3 hixM
              have i1 : (0 : Int) ≤ (ix : Int) := by omega
              have i2 : (ix : Int) < (m : Int) := by omega
              have HTw := Lib.hid (fseToward (S : Int) 64 wr.drew)
              obtain ⟨D, hD⟩ : ∃ D : Int, D = (if (64 : Int) < (S : Int) then -1 else 1) := ⟨_, rfl⟩
              rw [← hD] at HTw
              have HTw2 := Lib.hid (fun wq => (by have h := fseToward (S : Int) 64 wq; rw [← hD] at h; exact h : Calls Tryz.prog 67 #[.int .i64 (S : Int), .int .i64 64] wq fun e w' => e = .returned (.int .i64 D) ∧ w' = wq))
              go_wp2_with fail
              have HD := Lib.hid hD
              clear hD
              have hcg' : wr.drew.cell? ⟨g, ix, none⟩ = some (.int .i64 (M : Int)) := hcg
              have hfg' : wr.drew.frozen? ⟨g, ix, none⟩ = false := hfg
              refine wp_region_still_tail 12 (by kernel_rfl) (by kernel_rfl) ?_
              simp only [List.take_succ_cons, List.take_zero, List.drop_succ_cons, List.drop_zero]
              repeat still_step
              still_call HMax.out
              still_call HIdx.out
              repeat still_step
              still_call HTw.out
              repeat still_step
              refine wpStill_nil ?_
              change wpList _ _ _ _ _ wr.drew
              obtain ⟨X, S2, hX1, hX0, hS1, hSX, hS2, hdist, hway⟩ : ∃ X S2 : Nat, (M : Int) + D = (X : Int) ∧ 0 < X ∧ (S : Int) + D = (S2 : Int) ∧ S2 + M = S + X ∧ S2 ≤ 8000 ∧ (S2 - 64) + (64 - S2) < (S - 64) + (64 - S) ∧ ((64 < S ∧ X = M - 1) ∨ (S < 64 ∧ X = M + 1)) := by
                have hD := HD.out
                by_cases h : (64 : Int) < (S : Int)
                · rw [if_pos h] at hD
                  have := hMt (by omega)
                  exact ⟨M - 1, S - 1, by omega, by omega, by omega, by omega, by omega, by omega, .inl ⟨by omega, rfl⟩⟩
                · rw [if_neg h] at hD
                  exact ⟨M + 1, S + 1, by omega, by omega, by omega, by omega, by omega, by omega, .inr ⟨by omega, rfl⟩⟩
              have eX : IntKind.i64.wrap ((M : Int) + D) = (X : Int) := by rw [hX1]; exact wrapi64 (by omega) (by omega)
              have eX2 : wrap64 ((M : Int) + D) = (X : Int) := by rw [hX1]; unfold wrap64; omega
              have eS : IntKind.i64.wrap ((S : Int) + D) = (S2 : Int) := by rw [hS1]; exact wrapi64 (by omega) (by omega)
              have eS2 : wrap64 ((S : Int) + D) = (S2 : Int) := by rw [hS1]; unfold wrap64; omega
              have HSX := Lib.hid (by have h := HSumS.out X; omega : sumL (sh.set ix X) = S2)
              have HSh6 := Lib.hid (HSet.out X hX0)
              have HFn6 := Lib.hid (fun f hf => HFn.out f (by
                rcases hway with ⟨h1, h2⟩ | ⟨h1, h2⟩
                · exact .dec (by rw [HSs.out]; exact h1) HTopx.out (by rw [HixM.out, ← h2]; exact hf)
                · exact .inc (by rw [HSs.out]; exact h1) HTopx.out (by rw [HixM.out, ← h2]; exact hf)) : ∀ f, AdjR (sh.set ix X) f → ShareX l f)
              clear hway
              have HO6 := Lib.hid (show OwnN (wr.drew.setCell ⟨g, ix, none⟩ (.int .i64 (X : Int))) w.heap.size (some ⟨g, 0, none⟩) m co (sh.set ix X) from by
                unfold OwnN
                rw [List.map_set]
                exact (Own.stored (Own.drew HO.out) ix _).1)
              have HB6 := Lib.hid (show Below w.heap.size w (wr.drew.setCell ⟨g, ix, none⟩ (.int .i64 (X : Int))) from (HB3.out.drew).setCell hg1 _)
              clear hX1 hS1 HD HMax HIdx HTw HSet HSumS
              go_wp2_with fail
              have HT3 := Lib.hid (HTw2.out (wr.drew.setCell ⟨g, ix, none⟩ (.int .i64 (X : Int))))
              refine HT3.out.mono ?_
              rintro e w7 ⟨rfl, rfl⟩
              clear HT3
              go_wp2
              go_roundg ((S2 - 64) + (64 - S2))
              case measure => omega
              case rel => exact ⟨_, by rw [HSX.out], by rw [HSX.out]; exact hS2, by rw [HSX.out]; exact Nat.le_refl _, HO6.out, HSh6.out, HB6.out, HFn6.out⟩
end Go.Proofs.YtaelgbbnmjbjiaaGreat
namespace Go.Proofs.YtaelgbbnmjbjiaaGreat
open Go.RowKit
set_option maxHeartbeats 4000000 in
set_option maxRecDepth 10000 in
theorem huffPutTable (A : Option Addr) (n c : Nat) (l : List Nat) (w : World) (hl : l.length = n) (hr : Ns w A l) (hmay : mayL l = true) :
    Calls Tryz.prog 77 #[.slice A n c] w fun e w' => ∃ S m cs, e = .returned (.tuple #[.slice S m cs, .int .i64 0]) ∧ OwnB w' w.heap.size S m cs (tableB l) ∧ Below w.heap.size w w' := by
  obtain ⟨hn0, hn, h11⟩ := mayL_facts hmay
  have hlast := mayL_last hmay
  have HMay := Lib.hid (by have h := huffMay A n c l w hl hr (by omega) (fun x hx => by have := h11 x hx; omega); rw [hmay] at h; exact h :
    Calls Tryz.prog 106 #[.slice A n c] w fun e w' => e = .returned (.bool true) ∧ w' = w)
  have HL := Lib.hid hl
  have HR := Lib.hid hr
  have H11 := Lib.hid h11
  have HLast := Lib.hid hlast
  rw [hl] at hn0 hn
  clear hl hr hmay h11 hlast
  go_enter Tryz.func77, Tryz.ntmps77
  go_wp2_with fail
  refine HMay.out.mono ?_
  rintro e w1 ⟨rfl, rfl⟩
  go_wp2_with fail
  refine (wrNew _).mono ?_
  rintro e w2 ⟨rfl, hw2, hb2⟩
  have HPut := Lib.hid (hw2.put 8 (n - 1) (by omega) (by show n - 1 < 2 ^ 8; omega) (by show 8 * 0 + 0 ≤ _; omega))
  have h1 : wLen (putS ([], 0, 0) 8 (n - 1)) = 8 := (putS_facts (S := ([], 0, 0)) ⟨by show 0 < 8; omega, by show 0 < 2 ^ 0; decide⟩ (by omega) (by show n - 1 < 2 ^ 8; omega)).2
  have HB2 := Lib.hid hb2
  have e8 : ((n - 1 : Nat) : Int) = (n : Int) - 1 := by omega
  rw [e8] at HPut
  clear hw2 hb2 e8
  go_wp2_with fail
  refine HPut.out.mono ?_
  rintro e w3 ⟨rfl, hw3, hb3⟩
  obtain ⟨F, hF⟩ : ∃ F, F = putsS ([], 0, 0) ((8, l.length - 1) :: tabP l l.length 0) := ⟨_, rfl⟩
  have HW3 := Lib.hid hw3
  have HB3 := Lib.hid (HB2.out.trans hb3)
  have HF := Lib.hid hF
  clear hw3 hb3 hF HPut HB2
  go_wp2_with fail
  go_loopg [5] n (fun gg s5 wr => ∃ (i f : Nat) (S : WSt), i ≤ n ∧ n - i ≤ f ∧ f ≤ gg ∧ s5 = .int .i64 (i : Int) ∧ WrS wr w1.heap.size w1.heap.size S ∧ putsS S (tabP l f i) = F ∧ wLen S ≤ 8 + 8 * i ∧ Below w1.heap.size w1 wr)
  case atStart => exact ⟨0, n, _, by omega, by omega, Nat.le_refl _, rfl, HW3.out, by rw [HF.out, HL.out, putsS_cons], by show wLen (putS ([], 0, 0) 8 (n - 1)) ≤ _; omega, HB3.out⟩
  case round =>
    clear HW3 HB3
    obtain ⟨i, f, S, hi, hf, hfg, rfl, hw, hF, hlen, hb⟩ := hrel
    have HW := Lib.hid hw
    have HB := Lib.hid hb
    have HFin := Lib.hid hF
    clear hw hb hF
    by_cases hin : i < n
    · obtain ⟨f', rfl⟩ : ∃ f', f = f' + 1 := ⟨f - 1, by omega⟩
      obtain ⟨b, o, x, hA, hx, hc⟩ := HR.out.at_ (by rw [HL.out]; exact hin : i < l.length)
      subst hA
      have hlt := block_lt hc
      have hc2 := (HB.out.cell (by simpa using hlt)).trans hc
      have hx11 := H11.out x (List.mem_of_getElem? hx)
      have hxd : l.getD i 0 = x := by simp [List.getD, hx]
      have HXd := Lib.hid hxd
      have HPut := Lib.hid (HW.out.put 4 x (by omega) (by show x < 2 ^ 4; omega) (by omega))
      have hl4 := (putS_facts (k := 4) (v := x) HW.out.ok (by omega) (by show x < 2 ^ 4; omega)).2
      clear hx hxd
      go_wp2_with fail
      refine HPut.out.mono ?_
      rintro e w4 ⟨rfl, hw4, hb4⟩
      have HW4 := Lib.hid hw4
      have HB4 := Lib.hid (HB.out.trans hb4)
      have hc4 := ((HB.out.trans hb4).cell (by simpa using hlt)).trans hc
      clear hw4 hb4 HPut hc2 HW HB hlt
      by_cases hx0 : x = 0
      · have g1 : ((x : Int) != 0) = false := by rw [hx0]; rfl
        subst hx0
        have hz : l.getD i 0 = 0 := HXd.out
        go_wp2_with fail
        go_loopg [6, 5] 15 (fun gh s6 s5 wr => ∃ j : Nat, j ≤ 15 ∧ 15 - j ≤ gh ∧ s6 = .int .i64 (j : Int) ∧ s5 = .int .i64 ((i + j : Nat) : Int) ∧ i + j < n ∧ l.getD (i + j) 0 = 0 ∧ zr l 15 i = j + zr l (15 - j) (i + j) ∧ w4 = wr)
        case atStart => exact ⟨0, by omega, by omega, rfl, rfl, hin, hz, by rw [Nat.zero_add, Nat.sub_zero, Nat.add_zero], rfl⟩
        case round =>
          obtain ⟨j, hj, hjg, rfl, rfl, hij, hzj, hzr, rfl⟩ := hrel
          have hnx : i + j + 1 < n := by
            rcases Nat.lt_or_ge (i + j + 1) n with h | h
            · exact h
            · exfalso
              have h1 := HLast.out
              have h2 : l.length - 1 = i + j := by rw [HL.out]; omega
              rw [h2] at h1; omega
          obtain ⟨b', o', y, e', hy, hcy⟩ := HR.out.at_ (by rw [HL.out]; exact hnx : i + j + 1 < l.length)
          cases e'
          have hyd : l.getD (i + j + 1) 0 = y := by simp [List.getD, hy]
          have hcy2 := (HB4.out.cell (by simpa using block_lt hcy)).trans hcy
          clear hcy hy hz hzj
          by_cases hj15 : j < 15
          · have e15 : 15 - j = (15 - (j + 1)) + 1 := by omega
            rw [e15, show zr l (15 - (j + 1) + 1) (i + j) = if l.getD (i + j + 1) 0 = 0 then zr l (15 - (j + 1)) (i + j + 1) + 1 else 0 from rfl, hyd] at hzr
            by_cases hy0 : y = 0
            · have g2 : ((y : Int) == 0) = true := by rw [hy0]; rfl
              subst hy0
              rw [if_pos rfl] at hzr
              have HZ := Lib.hid (show zr l 15 i = (j + 1) + zr l (15 - (j + 1)) (i + (j + 1)) by rw [hzr, Nat.add_assoc i j 1]; omega)
              have HYd := Lib.hid hyd
              clear hzr hyd e15
              go_wp2
              go_roundg (15 - (j + 1))
              case measure => omega
              case rel => exact ⟨j + 1, by omega, Nat.le_refl _, by go_num, by go_num, by omega, HYd.out, HZ.out, rfl⟩
            · have g2 : ((y : Int) == 0) = false := beq_eq_false_iff_ne.2 (by omega)
              rw [if_neg hy0] at hzr
              have HJ := Lib.hid (show zr l 15 i = j by omega)
              clear hzr hyd e15
              have HPut2 := Lib.hid (HW4.out.put 4 j (by omega) (by show j < 2 ^ 4; omega) (by omega))
              have hl5 := (putS_facts (k := 4) (v := j) HW4.out.ok (by omega) (by show j < 2 ^ 4; omega)).2
              have HF2 := Lib.hid (show putsS (putS (putS S 4 0) 4 j) (tabP l f' (i + j + 1)) = F by
                have h := HFin.out
                rw [tabP, if_pos (by rw [HL.out]; exact hin), HXd.out, if_pos rfl, putsS_cons, putsS_cons, HJ.out] at h
                exact h)
              clear HFin
              go_wp2_with fail
              refine HPut2.out.mono ?_
              rintro e w5 ⟨rfl, hw5, hb5⟩
              have HW5 := Lib.hid hw5
              have HB5 := Lib.hid (HB4.out.trans hb5)
              clear hw5 hb5 HPut2 HB4 HW4
              go_wp2
              go_roundg f'
              case measure => omega
              case rel => exact ⟨i + j + 1, f', _, by omega, by omega, Nat.le_refl _, by go_num, HW5.out, HF2.out, by omega, HB5.out⟩
          · obtain rfl : j = 15 := by omega
            have HJ := Lib.hid (show zr l 15 i = 15 by rw [hzr]; rfl)
            clear hzr hyd
            have HPut2 := Lib.hid (HW4.out.put 4 15 (by omega) (by show 15 < 2 ^ 4; omega) (by omega))
            have hl5 := (putS_facts (k := 4) (v := 15) HW4.out.ok (by omega) (by show 15 < 2 ^ 4; omega)).2
            have HF2 := Lib.hid (show putsS (putS (putS S 4 0) 4 15) (tabP l f' (i + 15 + 1)) = F by
              have h := HFin.out
              rw [tabP, if_pos (by rw [HL.out]; exact hin), HXd.out, if_pos rfl, putsS_cons, putsS_cons, HJ.out] at h
              exact h)
            clear HFin hcy2
            go_wp2_with fail
            refine HPut2.out.mono ?_
            rintro e w5 ⟨rfl, hw5, hb5⟩
            have HW5 := Lib.hid hw5
            have HB5 := Lib.hid (HB4.out.trans hb5)
            clear hw5 hb5 HPut2 HB4 HW4
            go_wp2
            go_roundg f'
            case measure => omega
            case rel => exact ⟨i + 15 + 1, f', _, by omega, by omega, Nat.le_refl _, by go_num, HW5.out, HF2.out, by omega, HB5.out⟩
      · have g1 : ((x : Int) != 0) = true := bne_iff_ne.2 (by omega)
        have HF2 := Lib.hid (show putsS (putS S 4 x) (tabP l f' (i + 1)) = F by
          have h := HFin.out
          rw [tabP, if_pos (by rw [HL.out]; exact hin), HXd.out, if_neg hx0, putsS_cons] at h
          exact h)
        clear HFin
        go_wp2
        go_roundg f'
        case measure => omega
        case rel => exact ⟨i + 1, f', putS S 4 x, by omega, by omega, Nat.le_refl _, by go_num, HW4.out, HF2.out, by omega, HB4.out⟩
    · obtain rfl : i = n := by omega
      have HF2 := Lib.hid (show S = F by
        have h := HFin.out
        rw [tabP_end l f i (by rw [HL.out]; exact Nat.le_refl _)] at h
        exact h)
      have HBy := Lib.hid (HW.out.bytes (by omega))
      go_wp2_with fail
      refine HBy.out.mono ?_
      rintro e w5 ⟨A5, m5, c5, rfl, hown, hb5⟩
      have HO5 := Lib.hid (Own.mono hown HB.out.size)
      have HB5 := Lib.hid (HB.out.trans (hb5.mono HB.out.size))
      clear hown hb5 HBy
      go_wp2
      go_ret2
      refine ⟨A5, m5, c5, rfl, ?_, HB5.out⟩
      unfold tableB
      rw [← HF.out, ← HF2.out]
      exact HO5.out
end Go.Proofs.YtaelgbbnmjbjiaaGreat
