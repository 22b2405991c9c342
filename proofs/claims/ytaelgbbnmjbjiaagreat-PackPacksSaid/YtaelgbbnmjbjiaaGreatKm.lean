/-
  Parts of the proofs, in the order in which they build: V6c, V6d, V7, E0.
-/
import Derived.Test.YtaelgbbnmjbjiaaGreatKj
import Derived.Test.YtaelgbbnmjbjiaaGreatKl
import Derived.ProofKit
import Derived.OpenShut
import Derived.Deep.DeepHandedRow
set_option linter.unusedSimpArgs false
set_option linter.unusedVariables false
namespace Go.Proofs.YtaelgbbnmjbjiaaGreat
open Go.RowKit
def lowR (k : Nat) (x : Sq) : List Nat := bitR (Lib.bitLen (numQ k x) - 1) (numQ k x)
def lowsR (x : Sq) : Nat → List Nat
  | 0 => []
  | k + 1 => lowsR x k ++ lowR k x
def stepsR (L : List Sq) : List Nat := L.flatMap (fun x => lowsR x 3)
theorem lowsR_row {x : Sq} (h : SmallQ x) : lowsR x 3 = rowP (lowsP x) := by
  unfold lowsP
  rw [rowP_append, rowP_append, lowP_row (numQ_le h 0), lowP_row (numQ_le h 1), lowP_row (numQ_le h 2)]
  simp [lowsR, lowR]
theorem stepsR_row : ∀ {L : List Sq}, (∀ x ∈ L, SmallQ x) → stepsR L = rowP (L.flatMap lowsP)
  | [], _ => rfl
  | x :: L, h => by
    have h1 := stepsR_row (L := L) (fun y hy => h y (List.mem_cons_of_mem _ hy))
    unfold stepsR at *
    rw [List.flatMap_cons, h1, List.flatMap_cons, rowP_append, lowsR_row (h x List.mem_cons_self)]
theorem lowP_ok2 {v : Nat} (hv : v ≤ 65535) : putsOk (lowP v) := fun p hp => by
  unfold lowP at hp
  split at hp
  · next h =>
    rw [List.mem_singleton] at hp
    subst hp
    obtain ⟨h1, h2, h3⟩ := Lib.bitLenAux_bounds 64 v (by omega) (by omega)
    change 1 ≤ Lib.bitLen v at h1
    change 2 ^ (Lib.bitLen v - 1) ≤ v at h2
    change v < 2 ^ (Lib.bitLen v) at h3
    have h4 := bitLen_most16 hv
    obtain ⟨b, hb⟩ : ∃ b, Lib.bitLen v = b + 1 := ⟨Lib.bitLen v - 1, by omega⟩
    rw [hb, Nat.pow_succ] at h3
    rw [hb, Nat.add_sub_cancel] at h2
    simp only [hb, Nat.add_sub_cancel]
    exact ⟨by omega, by omega⟩
  · cases hp
theorem steps_ok {L : List Sq} (h : ∀ x ∈ L, SmallQ x) : putsOk (L.flatMap lowsP) := fun p hp => by
  obtain ⟨x, hx, hp⟩ := List.mem_flatMap.1 hp
  unfold lowsP at hp
  rcases List.mem_append.1 hp with hp | hp
  · exact lowP_ok2 (numQ_le (h x hx) 0) p hp
  · rcases List.mem_append.1 hp with hp | hp
    · exact lowP_ok2 (numQ_le (h x hx) 1) p hp
    · exact lowP_ok2 (numQ_le (h x hx) 2) p hp
theorem pack_steps {L : List Sq} (h : ∀ x ∈ L, SmallQ x) : packR (stepsR L) = restB L := by
  rw [stepsR_row h, pack_puts (steps_ok h)]; rfl
theorem stepsR_step {L : List Sq} {i : Nat} {x : Sq} (h : L[i]? = some x) : stepsR (L.take (i + 1)) = stepsR (L.take i) ++ lowsR x 3 := by
  unfold stepsR
  rw [List.take_add_one, h]
  simp [List.flatMap_append]
def SharesOk (L : List Sq) : Prop := ∀ k, k < 3 → ∃ sh, ShareOk (incT (List.replicate 17 0) (L.map (symQ k))) sh ∧ ShareX (incT (List.replicate 17 0) (L.map (symQ k))) sh
set_option maxHeartbeats 8000000 in
set_option maxRecDepth 10000 in
theorem refSteps (A : Option Addr) (n c : Nat) (L : List Sq) (w : World) (hl : L.length = n) (hr : Ss w A L) (hq : ∀ x ∈ L, SmallQ x) (hn : n ≤ 65536) (hS : L ≠ [] → SharesOk L) :
    Calls Tryz.prog 20 #[.slice A n c] w fun e w' => ∃ S m cs B, e = .returned (.slice S m cs) ∧ m ≤ 5000000 ∧ OwnB w' w.heap.size S m cs B ∧ StepsX L B ∧ Below w.heap.size w w' := by
  have HN := Lib.hid (refNum none 0 0 [] n w rfl (Rd.nil _ _) (by omega) (by omega))
  have HL := Lib.hid hl
  have HR := Lib.hid hr
  have HQ := Lib.hid hq
  have HS := Lib.hid hS
  clear hl hr hq hS
  go_enter Tryz.func20, Tryz.ntmps20
  go_wp2_with fail
  refine HN.out.mono ?_
  rintro e w1 ⟨A1, m1, c1, rfl, hown1, hb1⟩
  have hm1 := OwnB.length hown1
  have hnb := numB_len 5 n
  rw [List.nil_append] at hm1
  have hm19 : m1 ≤ 10 := by omega
  have HO1 := Lib.hid (show OwnB w1 w.heap.size A1 m1 c1 (numB 5 n) from hown1)
  have HB1 := Lib.hid hb1
  clear hown1 hb1 HN hm1 hnb
  rcases Nat.eq_zero_or_pos n with hz | hpos
  · subst hz
    have HL0 := Lib.hid (List.eq_nil_of_length_eq_zero HL.out)
    go_wp2
    go_ret
    exact ⟨A1, m1, c1, _, rfl, by omega, HO1.out, .inl ⟨HL0.out, rfl⟩, HB1.out⟩
  · have gn : ((n : Int) == 0) = false := beq_eq_false_iff_ne.2 (by omega)
    have HNe := Lib.hid (show L ≠ [] from fun e => by have h := HL.out; rw [e] at h; simp at h; omega)
    have HSh3 := Lib.hid (HS.out HNe.out)
    clear HS
    go_wp2_with fail
    go_loopg [3, 4] 3 (fun gg s3 s4 wr => ∃ (k m co : Nat) (Ao : Option Addr) (B1 : List UInt8), k ≤ 3 ∧ 3 - k ≤ gg ∧ s3 = .slice Ao m co ∧ s4 = .int .i64 (k : Int) ∧ OwnB wr w.heap.size Ao m co (numB 5 n ++ B1) ∧ strsX k L B1 ∧ B1.length ≤ k * (6 * n + 10000) ∧ Below w.heap.size w wr)
    case atStart => exact ⟨0, m1, c1, A1, [], by omega, by omega, rfl, rfl, by rw [List.append_nil]; exact HO1.out, rfl, by simp, HB1.out⟩
    case round =>
      clear HO1 HB1
      obtain ⟨k, m, co, Ao, B1, hk, hgg, rfl, rfl, hown, hst, hB1, hbel⟩ := hrel
      have HO := Lib.hid hown
      have HSt := Lib.hid hst
      have HB := Lib.hid hbel
      clear hown hst hbel
      by_cases hk3 : k < 3
      · obtain ⟨ti, hi, hz0, hz1, hz2⟩ := info_parts elemN_info
        go_wp2_with (at_make; refine wpList_make_full _ rfl _ _ 45 rfl wr.heap.size 3 ti _ 1 Tryz.underlying45 hi hz0 hz1 .i64 .i64 17 17 17 rfl rfl rfl rfl (by rw [hz2]; omega) (by unfold maxLen; omega) (Nat.le_refl _) ?_)
        intro w3 hown3 hg3
        rw [made_zeros] at hown3
        have hlt3 := (Own.lt hown3 (k := wr.heap.size) rfl).2
        have HO3 := Lib.hid (show OwnN w3 wr.heap.size (some ⟨wr.heap.size, 0, none⟩) 17 17 (cntQ k L 0) from hown3)
        have HB3 := Lib.hid ((Below.refl _ _).grown hg3 (Nat.le_refl _) (fun k hk => by cases hk) : Below wr.heap.size wr w3)
        clear hown3 hg3 hi hz0 hz1 hz2
        go_wp2_with fail
        obtain ⟨wo, rfl⟩ : ∃ wo : World, wo = wr := ⟨_, rfl⟩
        go_loopg [6, 7] n (fun gh s6 s7 wr => ∃ (i cs : Nat) (As : Option Addr), i ≤ n ∧ n - i ≤ gh ∧ s6 = .slice As i cs ∧ s7 = .int .i64 (i : Int) ∧ OwnN wr wo.heap.size (some ⟨wo.heap.size, 0, none⟩) 17 17 (cntQ k L i) ∧ OwnN wr w3.heap.size As i cs (symsQ k L i) ∧ Below wo.heap.size wo wr ∧ w3.heap.size ≤ wr.heap.size)
        case atStart => exact ⟨0, 0, none, by omega, by omega, rfl, rfl, HO3.out, OwnN.nil _ _, HB3.out, Nat.le_refl _⟩
        case round =>
          clear HO3 HB3
          obtain ⟨i, cs, As, hi, hgi, rfl, rfl, hoc, hos, hbel, hsz⟩ := hrel
          have HOC := Lib.hid hoc
          have HOS := Lib.hid hos
          have HBi := Lib.hid hbel
          clear hoc hos hbel
          by_cases hin' : i < n
          · obtain ⟨b, o, x, hA, hx, d0, d1, d2⟩ := ((HR.out.later HB.out).later HBi.out).at_ (by rw [HL.out]; exact hin' : i < L.length)
            subst hA
            have hxq := HQ.out x (List.mem_of_getElem? hx)
            have HC1 := Lib.hid (cntQ_step (k := k) hx)
            have HC2 := Lib.hid (symsQ_step (k := k) hx)
            obtain ⟨v, hv⟩ : ∃ v, v = numQ k x := ⟨_, rfl⟩
            have hvb : v ≤ 65535 := by rw [hv]; exact numQ_le hxq k
            obtain ⟨sy, hsy⟩ : ∃ sy, sy = Lib.bitLen v := ⟨_, rfl⟩
            have hsyb : sy ≤ 16 := by rw [hsy]; exact bitLen_most16 hvb
            have HSy := Lib.hid (show symQ k x = sy by rw [hsy, hv]; rfl)
            have HCall := Lib.hid (refValue x k wr hxq hk3)
            rw [← hv] at HCall
            have HV := Lib.hid hsy
            clear hx hv hsy hxq
            obtain ⟨x1, x2, x3⟩ := x
            simp only at d0 d1 d2 HCall
            unfold sqV at HCall
            simp only at HCall
            have i0 : (i : Int) < n := by omega
            go_wp2_with fail
            refine HCall.out.mono ?_
            rintro e w5 ⟨rfl, hb5⟩
            have HB5 := Lib.hid (HBi.out.trans (hb5.mono HBi.out.size))
            have HOC5 := Lib.hid (Own.later HOC.out hb5)
            have HOS5 := Lib.hid (Own.later HOS.out hb5)
            have hs5 := hb5.size
            have HCode := Lib.hid (refCode v w5 hvb)
            rw [← HV.out] at HCode
            clear hb5 HCall HOC HOS d0 d1 d2
            go_wp2_with fail
            refine HCode.out.mono ?_
            rintro e w6 ⟨rfl, rfl⟩
            obtain ⟨gz, xz, hgz, hg1, -, hxz, hcz, hfz⟩ := Own.at_ HOC5.out (k := sy) (by omega)
            cases hgz
            obtain ⟨q, hq⟩ : ∃ q, q = (cntQ k L i).getD sy 0 := ⟨_, rfl⟩
            have hqk : q ≤ i := by rw [hq]; exact cntQ_le k L i _
            have hxv : xz = .int .i64 (q : Int) := by
              rw [List.getElem?_map] at hxz
              rw [hq, List.getD]
              cases hh : (cntQ k L i)[sy]? with
              | none => rw [hh] at hxz; cases hxz
              | some q => rw [hh] at hxz; exact (Option.some.inj hxz).symm
            subst hxv
            have HOC6 := Lib.hid (show OwnN (w6.setCell ⟨wo.heap.size, sy, none⟩ (.int .i64 ((q : Int) + 1))) wo.heap.size (some ⟨wo.heap.size, 0, none⟩) 17 17 (cntQ k L (i + 1)) from by
              have h := (Own.stored HOC5.out sy (natv (q + 1))).1
              rw [← List.map_set, hq] at h
              rw [HC1.out, HSy.out]
              have e : natv ((cntQ k L i).getD sy 0 + 1) = .int .i64 ((q : Int) + 1) := by unfold natv; rw [Int.natCast_add, hq]; rfl
              rw [← e]
              exact h)
            have hne : bk As ≠ some wo.heap.size := by
              intro he
              have := (Own.lt HOS5.out he).1
              omega
            have HNe' := Lib.hid hne
            have HOS6 := Lib.hid (Own.setCell HOS5.out (p := ⟨wo.heap.size, sy, none⟩) hne (.int .i64 ((q : Int) + 1)))
            have HB6 := Lib.hid (HB5.out.setCell (p := ⟨wo.heap.size, sy, none⟩) (Nat.le_refl _) (.int .i64 ((q : Int) + 1)))
            have hs6 : (w6.setCell ⟨wo.heap.size, sy, none⟩ (.int .i64 ((q : Int) + 1))).heap.size = w6.heap.size := by simp
            have i1 : (0 : Int) ≤ (sy : Int) := by omega
            have i2 : (sy : Int) < 17 := by omega
            clear hxz hq HCode HOC5 HOS5 HB5 hne
            go_wp2_with (at_builtin; refine wpList_append_one rfl _ _ elemN rfl w3.heap.size As i cs ((symsQ k L i).map natv) (w6.setCell ⟨wo.heap.size, sy, none⟩ (.int .i64 ((q : Int) + 1))) (.int .i64 (sy : Int)) rfl rfl HOS6.out ?hx rfl ?d1 ?d2 ?d3 ?_)
            case hx => simp [Act.eval]
            case d1 => omega
            case d2 => omega
            case d3 => omega
            intro A' c' w7 hown7 hb7 hgr7 hat7
            have HOS7 := Lib.hid (show OwnN w7 w3.heap.size A' (i + 1) c' (symsQ k L (i + 1)) from by
              rw [HC2.out, HSy.out]; exact ownN_snoc hown7)
            have HOC7 := Lib.hid (Own.kept HOC6.out hgr7 (.inr (fun e => HNe'.out e.symm)))
            have HB7 := Lib.hid (HB6.out.trans (hb7.mono (by omega)))
            have hs7 := hb7.size
            clear hown7 hb7 hgr7 hat7 hcz hfz
            go_wp2
            go_roundg (n - (i + 1))
            case measure => omega
            case rel => exact ⟨i + 1, c', A', by omega, by omega, rfl, by go_num, HOC7.out, HOS7.out, HB7.out, by omega⟩
          · obtain rfl : i = n := by omega
            have hcl : (cntQ k L i).length = 17 := OwnN.length HOC.out
            have hca : cntQ k L i = incT (List.replicate 17 0) (L.map (symQ k)) := cntQ_all HL.out.symm
            have hsa : symsQ k L i = L.map (symQ k) := symsQ_all HL.out.symm
            have hs17 := symQ_lt HQ.out k
            have hcb : ∀ x ∈ cntQ k L i, x ≤ 65536 := getD_all_le (fun p => by have := cntQ_le k L i p; omega)
            have hp0 : ∀ s ∈ L.map (symQ k), 0 < (cntQ k L i).getD s 0 := by
              intro s hs
              rw [hca]
              obtain ⟨x, hx, rfl⟩ := List.mem_map.1 hs
              exact incT_pos _ _ _ hs (by rw [List.length_replicate]; exact hs17 x hx)
            have hnz0 : 0 < nz (cntQ k L i) := by
              obtain ⟨x, hx⟩ : ∃ x, x ∈ L := List.exists_mem_of_ne_nil _ HNe.out
              exact nz_posC (hp0 _ (List.mem_map_of_mem hx))
            have hnz1 : nz (cntQ k L i) ≤ 32 := by have := nz_leC (cntQ k L i); omega
            have HSh := Lib.hid (refShare (some ⟨wo.heap.size, 0, none⟩) 17 17 (cntQ k L i) wr hcl (OwnN.ns HOC.out) (by omega) hcb hnz0 hnz1)
            have HP0 := Lib.hid hp0
            have HCa := Lib.hid hca
            have HSa := Lib.hid hsa
            clear hca hsa hs17 hcb hp0 hnz0 hnz1
            go_wp2_with fail
            refine HSh.out.mono ?_
            rintro e w5 ⟨S5, m5, c5, sh, rfl, hown5, hshx, hb5⟩
            have hm5 := OwnN.length hown5
            have hsh : ShareOk (cntQ k L i) sh := by
              obtain ⟨sh', h1, h2⟩ := HSh3.out k hk3
              rw [← HCa.out] at h1 h2
              rw [hshx.one h2]; exact h1
            have hmay := hsh.may (by omega)
            have hshl := hsh.len
            have HMay := Lib.hid hmay
            have HShOk := Lib.hid hsh
            have HShX := Lib.hid hshx
            have HO5 := Lib.hid hown5
            have HSy5 := Lib.hid (Own.later HOS.out hb5)
            have HB5 := Lib.hid (HBi.out.trans (hb5.mono HBi.out.size))
            have HPS := Lib.hid (refPutShare S5 m5 c5 sh w5 hm5 (OwnN.ns hown5) hmay)
            have HM5 := Lib.hid hm5
            clear hown5 hsh hshx hb5 HSh hmay HOC HOS HBi hm5
            go_wp2_with fail
            refine HPS.out.mono ?_
            rintro e w6 ⟨S6, m6, c6, rfl, hown6, hb6⟩
            have hm6 := OwnB.length hown6
            have htl := shareB_len sh
            rw [hm6, HM5.out] at htl
            have hm59 : m5 ≤ 17 := by rw [← HM5.out]; omega
            have hm69 : m6 ≤ 200 := by omega
            have HO6 := Lib.hid hown6
            have HB6 := Lib.hid (HB5.out.trans (hb6.mono HB5.out.size))
            have HEn := Lib.hid (refFEncode S5 m5 c5 sh As i cs (symsQ k L i) w6 HM5.out ((OwnN.ns HO5.out).later hb6) HMay.out (OwnN.length HSy5.out) ((OwnN.ns HSy5.out).later hb6) (by omega) (by
              rw [HSa.out]
              intro s hs
              have h1 := HShOk.out.has s (HP0.out s hs)
              refine ⟨?_, h1⟩
              rw [← HM5.out]
              rcases Nat.lt_or_ge s sh.length with h | h
              · exact h
              · rw [getD_out h] at h1; omega))
            have HM6 := Lib.hid hm6
            clear hown6 hb6 HPS HB5 HSy5 HO5 hm6 htl hshl hcl
            go_wp2_with fail
            refine HEn.out.mono ?_
            rintro e w7 ⟨S7, m7, c7, rfl, hown7, hb7⟩
            have HO7 := Lib.hid hown7
            have HT7 := Lib.hid (Own.later HO6.out hb7)
            have HB7 := Lib.hid (HB6.out.trans (hb7.mono HB6.out.size))
            have hbB := HB.out.size
            have hs6 := HB6.out.size
            have hne7 : bk S7 = none ∨ bk S7 ≠ bk Ao := by
              cases hq : bk S7 with
              | none => exact .inl rfl
              | some b =>
                refine .inr fun e => ?_
                have h1 := (Own.lt HO7.out hq).1
                have h2 := (Own.lt HO.out e.symm).2
                omega
            have HNe7 := Lib.hid hne7
            have HBw := Lib.hid (HB.out.trans (HB7.out.mono hbB))
            have HOu := Lib.hid (Own.later HO.out HB7.out)
            have hml := OwnB.length HO.out
            have hm7 := OwnB.length hown7
            have hel : m7 ≤ 6 * i + 16 := by
              rw [← hm7, HSa.out]
              have := encodeL_len (sh := sh) (l := L.map (symQ k)) HShOk.out.sum (fun s hs => HShOk.out.has s (HP0.out s hs))
              rw [List.length_map, HL.out] at this
              exact this
            have hni := numB_len 5 i
            rw [List.length_append] at hml
            have hk10 : k * (6 * i + 10000) ≤ 2 * (6 * i + 10000) := Nat.mul_le_mul_right _ (by omega)
            have h10 : (k + 1) * (6 * i + 10000) = k * (6 * i + 10000) + (6 * i + 10000) := by rw [Nat.succ_mul]
            have hm99 : m ≤ 2 * (6 * i + 10000) + 10 := by omega
            have hB19 : B1.length + m6 + 10 + m7 ≤ (k + 1) * (6 * i + 10000) := by omega
            have HM7 := Lib.hid hm7
            have HB19 := Lib.hid hB19
            clear hown7 hb7 HEn HO6 HB6 HB7 HO hml hm7 hne7 hk10 h10 hB1 hB19
            obtain ⟨tb, htb⟩ : ∃ tb, tb = shareB sh := ⟨_, rfl⟩
            obtain ⟨bd, hbd⟩ : ∃ bd, bd = encodeL sh (symsQ k L i) := ⟨_, rfl⟩
            have HTb := Lib.hid htb
            have HBd := Lib.hid hbd
            rw [← htb] at HT7 HM6
            rw [← hbd] at HO7 HM7
            have hB7 := HBw.out.size
            clear htb hbd
            go_wp2_with (at_builtin; refine wpList_append_rd rfl _ _ elemB rfl w.heap.size Ao m co ((numB 5 i ++ B1).map u8v) ?hs HOu.out S6 m6 c6 (tb.map u8v) ?hx ?a1 ?a2 (u8_one _) ?a3 ?a4 ?a5 ?_)
            case hs => rfl
            case hx => rfl
            case a1 => exact Own.rd HT7.out
            case a2 => rw [List.length_map]; exact HM6.out
            case a3 => omega
            case a4 => omega
            case a5 => exact hB7
            intro A8 c8 w8 hown8 hb8 hg8 hat8
            have HO8 := Lib.hid (show OwnB w8 w.heap.size A8 (m + m6) c8 (numB 5 i ++ B1 ++ tb) from by unfold OwnB; simp only [List.map_append, List.append_assoc] at hown8 ⊢; exact hown8)
            have HB8 := Lib.hid (HBw.out.trans hb8)
            have HBd8 := Lib.hid (Own.kept HO7.out hg8 HNe7.out)
            have HP9 := Lib.hid (refNum A8 (m + m6) c8 _ m7 w8 (OwnB.length HO8.out) (OwnB.bs HO8.out) (by omega) (by omega))
            clear hown8 hb8 hg8 hat8 HO7 HT7 HOu HBw
            go_wp2_with fail
            refine HP9.out.mono ?_
            rintro e w9 ⟨A9, m9, c9, rfl, hown9, hb9⟩
            have hm9 := OwnB.length hown9
            have hnb7 := numB_len 5 m7
            rw [List.length_append, OwnB.length HO8.out] at hm9
            have hs8 := HB8.out.size
            have hm999 : m9 ≤ 2000000 := by omega
            have HO9 := Lib.hid (Own.mono hown9 hs8)
            have HB9 := Lib.hid (HB8.out.trans (hb9.mono hs8))
            have HBd9 := Lib.hid (Own.later HBd8.out hb9)
            have HNb7 := Lib.hid hnb7
            clear hown9 hb9 HP9 HB8 HO8 HBd8 hm9 hnb7
            go_wp2_with (at_builtin; refine wpList_append_rd rfl _ _ elemB rfl w.heap.size A9 m9 c9 ((numB 5 i ++ B1 ++ tb ++ numB 5 m7).map u8v) ?hs HO9.out S7 m7 c7 (bd.map u8v) ?hx ?a1 ?a2 (u8_one _) ?a3 ?a4 HB9.out.size ?_)
            case hs => rfl
            case hx => rfl
            case a1 => exact Own.rd HBd9.out
            case a2 => rw [List.length_map]; exact HM7.out
            case a3 => omega
            case a4 => omega
            intro A10 c10 w10 hown10 hb10 hg10 hat10
            have HO10 := Lib.hid (show OwnB w10 w.heap.size A10 (m9 + m7) c10 (numB 5 i ++ (B1 ++ (tb ++ (numB 5 m7 ++ bd)))) from by unfold OwnB; simp only [List.map_append, List.append_assoc] at hown10 ⊢; exact hown10)
            have HB10 := Lib.hid (HB9.out.trans hb10)
            have HStr := Lib.hid (show strsX (k + 1) L (B1 ++ (tb ++ (numB 5 m7 ++ bd))) from
              ⟨B1, _, HSt.out, ⟨sh, by rw [← HCa.out]; exact HShOk.out, by rw [← HCa.out]; exact HShX.out, by rw [HTb.out, ← HM7.out, HBd.out, HSa.out]⟩, rfl⟩)
            have HLen := Lib.hid (show (B1 ++ (tb ++ (numB 5 m7 ++ bd))).length ≤ (k + 1) * (6 * i + 10000) from by
              simp only [List.length_append]
              rw [HM6.out, HM7.out]
              have h1 := HB19.out
              have h2 := HNb7.out
              omega)
            clear hown10 hb10 hg10 hat10 HO9 HB9 HBd9
            go_wp2
            go_roundg (3 - (k + 1))
            case measure => omega
            case rel => exact ⟨k + 1, m9 + m7, c10, A10, _, by omega, by omega, rfl, by go_num, HO10.out, HStr.out, HLen.out, HB10.out⟩
      · obtain rfl : k = 3 := by omega
        have hml := OwnB.length HO.out
        have hni := numB_len 5 n
        rw [List.length_append] at hml
        have hm99 : m ≤ 2000000 := by omega
        obtain ⟨c0, hc0⟩ : ∃ x, x = co := ⟨_, rfl⟩
        subst hc0
        obtain ⟨w3, hw3⟩ : ∃ w3, w3 = wr := ⟨_, rfl⟩
        subst hw3
        clear hml hni hB1 HSh3
        go_wp2_with fail
        go_loopg [15, 16] n (fun gg s15 s16 wr => ∃ (i q co : Nat) (Ar : Option Addr), i ≤ n ∧ n - i ≤ gg ∧ q ≤ 48 * i ∧ s15 = .slice Ar q co ∧ s16 = .int .i64 (i : Int) ∧ OwnN wr w3.heap.size Ar q co (stepsR (L.take i)) ∧ Below w3.heap.size w3 wr)
        case atStart => exact ⟨0, 0, 0, none, by omega, by omega, by omega, rfl, rfl, OwnN.nil _ _, Below.refl _ _⟩
        case round =>
          obtain ⟨i, q, co, Ar, hi, hgi, hq, rfl, rfl, hown, hbel⟩ := hrel
          have HOr := Lib.hid hown
          have HBr := Lib.hid hbel
          clear hown hbel
          by_cases hin : i < n
          · obtain ⟨x, hx⟩ : ∃ x, L[i]? = some x := ⟨_, List.getElem?_eq_getElem (by rw [HL.out]; exact hin)⟩
            have HX := Lib.hid hx
            have hxq := HQ.out x (List.mem_of_getElem? hx)
            have HXq := Lib.hid hxq
            have HStep := Lib.hid (stepsR_step hx)
            obtain ⟨P, hP⟩ : ∃ P, P = stepsR (L.take i) := ⟨_, rfl⟩
            rw [← hP] at HOr HStep
            have HO0 := Lib.hid (show OwnN wr w3.heap.size Ar q co (P ++ lowsR x 0) by rw [lowsR, List.append_nil]; exact HOr.out)
            have HB0 := Lib.hid HBr.out
            clear hx hxq hP HOr HBr
            obtain ⟨w4, hw4⟩ : ∃ w4, w4 = wr := ⟨_, rfl⟩
            subst hw4
            go_wp2_with fail
            go_loopg [15, 17] 3 (fun gg s15 s17 wr => ∃ (j q' co : Nat) (Ar : Option Addr), j ≤ 3 ∧ 3 - j ≤ gg ∧ q' ≤ q + 16 * j ∧ s15 = .slice Ar q' co ∧ s17 = .int .i64 (j : Int) ∧ OwnN wr w3.heap.size Ar q' co (P ++ lowsR x j) ∧ Below w3.heap.size w3 wr)
            case atStart => exact ⟨0, q, co, Ar, by omega, by omega, by omega, rfl, rfl, HO0.out, HB0.out⟩
            case round =>
              clear HO0 HB0
              obtain ⟨j, q', co, Ar, hj, hgj, hq', rfl, rfl, hown, hbel⟩ := hrel
              have HOr := Lib.hid hown
              have HBr := Lib.hid hbel
              clear hown hbel
              by_cases hj3 : j < 3
              · obtain ⟨b, o, y, hA, hy, d0, d1, d2⟩ := ((HR.out.later HB.out).later HBr.out).at_ (by rw [HL.out]; exact hin : i < L.length)
                have hyx : y = x := by
                  have h := HX.out
                  rw [hy] at h
                  exact Option.some.inj h
                subst hyx
                subst hA
                have HCall := Lib.hid (refValue y j wr HXq.out hj3)
                obtain ⟨v, hv⟩ : ∃ v, v = numQ j y := ⟨_, rfl⟩
                have hvb : v ≤ 65535 := by rw [hv]; exact numQ_le HXq.out j
                rw [← hv] at HCall
                have HLow := Lib.hid (show lowsR y (j + 1) = lowsR y j ++ bitR (Lib.bitLen v - 1) v by rw [lowsR, lowR, ← hv])
                have hbl := bitLen_most16 hvb
                obtain ⟨bl, hbl2⟩ : ∃ bl, bl = Lib.bitLen v := ⟨_, rfl⟩
                rw [← hbl2] at hbl HLow
                have HBl := Lib.hid hbl2
                have HCode := Lib.hid (fun w => refCode v w hvb)
                rw [← hbl2] at HCode
                clear hy hv hbl2
                obtain ⟨x1, x2, x3⟩ := y
                simp only at d0 d1 d2 HCall
                unfold sqV at HCall
                simp only at HCall
                have i0 : (i : Int) < n := by omega
                go_wp2_with fail
                refine HCall.out.mono ?_
                rintro e w5 ⟨rfl, hb5⟩
                have HO5 := Lib.hid (show OwnN w5 w3.heap.size Ar q' co (P ++ lowsR ⟨x1, x2, x3⟩ j ++ bitR 0 v) by rw [bitR, List.append_nil]; exact Own.later HOr.out hb5)
                have HB5 := Lib.hid (HBr.out.trans (hb5.mono HBr.out.size))
                clear hb5 HCall HOr HBr d0 d1 d2
                go_wp2_with fail
                go_loopg [15, 19] (bl - 1) (fun gg s15 s19 wr => ∃ (k q2 co : Nat) (Ar : Option Addr), k ≤ bl - 1 ∧ bl - 1 - k ≤ gg ∧ q2 ≤ q' + k ∧ s15 = .slice Ar q2 co ∧ s19 = .int .i64 (k : Int) ∧ OwnN wr w3.heap.size Ar q2 co (P ++ lowsR ⟨x1, x2, x3⟩ j ++ bitR k v) ∧ Below w3.heap.size w3 wr)
                case atStart => exact ⟨0, q', co, Ar, by omega, by omega, by omega, rfl, rfl, HO5.out, HB5.out⟩
                case round =>
                  clear HO5 HB5
                  obtain ⟨k, q2, co, Ar, hk, hgk, hq2, rfl, rfl, hown, hbel⟩ := hrel
                  have HOr := Lib.hid hown
                  have HBr := Lib.hid hbel
                  clear hown hbel
                  have HCw := Lib.hid (HCode.out wr)
                  by_cases hkb : k < bl - 1
                  · have g1 : decide ((k : Int) < (bl : Int) - 1) = true := decide_eq_true (by omega)
                    go_wp2_with fail
                    refine HCw.out.mono ?_
                    rintro e w6 ⟨rfl, rfl⟩
                    go_wp2_with (at_builtin; refine wpList_append_one rfl _ _ elemN rfl w3.heap.size Ar q2 co ((P ++ lowsR ⟨x1, x2, x3⟩ j ++ bitR k v).map natv) w6 (.int .i64 ((v : Int) / 2 ^ k % 2)) ?hw rfl HOr.out ?hx rfl ?d1 ?d2 HBr.out.size ?_)
                    case hw => rfl
                    case hx => rfl
                    case d1 => omega
                    case d2 => omega
                    intro A7 c7 w7 hown7 hb7 hg7 hat7
                    have HO7 := Lib.hid (show OwnN w7 w3.heap.size A7 (q2 + 1) c7 (P ++ lowsR ⟨x1, x2, x3⟩ j ++ bitR (k + 1) v) from by
                      rw [bitR_snoc, ← List.append_assoc]
                      refine ownN_snoc (x := v / 2 ^ k % 2) ?_
                      have e : ((v / 2 ^ k % 2 : Nat) : Int) = (v : Int) / 2 ^ k % 2 := by simp
                      rw [e]
                      simp only [List.map_append, List.append_assoc] at hown7 ⊢
                      exact hown7)
                    have HB7 := Lib.hid (HBr.out.trans hb7)
                    clear hown7 hb7 hg7 hat7 g1
                    go_wp2
                    go_roundg (bl - 1 - (k + 1))
                    case measure => omega
                    case rel => exact ⟨k + 1, q2 + 1, c7, A7, by omega, by omega, by omega, rfl, by go_num, HO7.out, HB7.out⟩
                  · have g1 : decide ((k : Int) < (bl : Int) - 1) = false := decide_eq_false (by omega)
                    have HO7 := Lib.hid (show OwnN wr w3.heap.size Ar q2 co (P ++ lowsR ⟨x1, x2, x3⟩ (j + 1)) by
                      have h := HOr.out
                      have e : k = bl - 1 := by omega
                      rw [e] at h
                      rw [HLow.out, ← List.append_assoc]; exact h)
                    go_wp2_with fail
                    refine HCw.out.mono ?_
                    rintro e w6 ⟨rfl, rfl⟩
                    go_wp2
                    go_roundg (3 - (j + 1))
                    case measure => omega
                    case rel => exact ⟨j + 1, q2, co, Ar, by omega, by omega, by omega, rfl, by go_num, HO7.out, HBr.out⟩
              · obtain rfl : j = 3 := by omega
                have HO7 := Lib.hid (show OwnN wr w3.heap.size Ar q' co (stepsR (L.take (i + 1))) by rw [HStep.out]; exact HOr.out)
                go_wp2
                go_roundg (n - (i + 1))
                case measure => omega
                case rel => exact ⟨i + 1, q', co, Ar, by omega, by omega, by omega, rfl, by go_num, HO7.out, HBr.out⟩
          · obtain rfl : i = n := by omega
            have HAll := Lib.hid (show stepsR (L.take i) = stepsR L by rw [List.take_of_length_le (by rw [HL.out]; exact Nat.le_refl _)])
            have HPk := Lib.hid (refBitPack Ar q co _ wr (OwnN.length HOr.out) (OwnN.ns HOr.out) (by omega) (by rw [HAll.out, stepsR_row HQ.out]; exact rowP_01 _))
            rw [HAll.out, pack_steps HQ.out] at HPk
            go_wp2_with fail
            refine HPk.out.mono ?_
            rintro e w5 ⟨S5, m5, c5, rfl, hown5, hb5⟩
            have hm5 := OwnB.length hown5
            have hm59 : m5 ≤ 1000000 := by
              have h1 := packR_len (stepsR L)
              rw [pack_steps HQ.out, ← HAll.out, OwnN.length HOr.out, hm5] at h1
              omega
            have HM5 := Lib.hid hm5
            have HR5 := Lib.hid hown5
            have HB35 := Lib.hid (HBr.out.trans (hb5.mono HBr.out.size))
            have HO5 := Lib.hid (Own.later HO.out HB35.out)
            have HB5 := Lib.hid (HB.out.trans (HB35.out.mono HB.out.size))
            obtain ⟨rs, hrs⟩ : ∃ rs, rs = restB L := ⟨_, rfl⟩
            have HRs := Lib.hid hrs
            rw [← hrs] at HR5 HM5
            have HPN := Lib.hid (refNum Ao m c0 (numB 5 i ++ B1) m5 w5 (OwnB.length HO5.out) (OwnB.bs HO5.out) (by omega) (by omega))
            clear hown5 hb5 HPk hm5 hrs
            go_wp2_with fail
            refine HPN.out.mono ?_
            rintro e w6 ⟨A6, m6, c6, rfl, hown6, hb6⟩
            have hm6 := OwnB.length hown6
            have hnb5 := numB_len 5 m5
            rw [List.length_append, OwnB.length HO5.out] at hm6
            have hm69 : m6 ≤ 3000000 := by omega
            have HO6 := Lib.hid (Own.mono hown6 HB5.out.size)
            have HB6 := Lib.hid (HB5.out.trans (hb6.mono HB5.out.size))
            have HR6 := Lib.hid (Own.later HR5.out hb6)
            clear hown6 hb6 HPN hm6 hnb5 HO5
            go_wp2_with (at_builtin; refine wpList_append_rd rfl _ _ elemB rfl w.heap.size A6 m6 c6 ((numB 5 i ++ B1 ++ numB 5 m5).map u8v) ?hs HO6.out S5 m5 c5 (rs.map u8v) ?hx ?a1 ?a2 (u8_one _) ?a3 ?a4 HB6.out.size ?_)
            case hs => simp [Act.eval]
            case hx => simp [Act.eval]
            case a1 => exact Own.rd HR6.out
            case a2 => rw [List.length_map]; exact HM5.out
            case a3 => omega
            case a4 => omega
            intro A10 c10 w10 hown10 hb10 hg10 hat10
            have HO10 := Lib.hid (show OwnB w10 w.heap.size A10 (m6 + m5) c10 (numB 5 i ++ (B1 ++ (numB 5 m5 ++ rs))) from by unfold OwnB; simp only [List.map_append, List.append_assoc] at hown10 ⊢; exact hown10)
            have HB10 := Lib.hid (HB6.out.trans hb10)
            have HFin := Lib.hid (show StepsX L (numB 5 i ++ (B1 ++ (numB 5 m5 ++ rs))) by
              obtain ⟨C2, b2, ⟨C1, b1, ⟨C0, b0, hC0, h0, rfl⟩, h1, rfl⟩, h2, hB⟩ := HSt.out
              have hC : C0 = [] := hC0
              subst hC
              refine .inr ⟨HNe.out, b0, b1, b2, h0, h1, h2, ?_⟩
              rw [hB, HL.out, ← HRs.out, HM5.out]
              simp [List.append_assoc])
            clear hown10 hb10 hg10 hat10
            go_wp2
            go_ret
            exact ⟨A10, m6 + m5, c10, _, rfl, by omega, HO10.out, HFin.out, HB10.out⟩
end Go.Proofs.YtaelgbbnmjbjiaaGreat
namespace Go.Proofs.YtaelgbbnmjbjiaaGreat
open Go.RowKit
theorem findG_fit (l : List UInt8) : ∀ f i lits, lits ≤ i → i ≤ l.length → l.length - i < f → FitL l (i - lits) (findG l f i lits)
  | 0, i, lits, _, _, h => by omega
  | f + 1, i, lits, h1, h2, h3 => by
    unfold findG
    by_cases hi : i < l.length
    · rw [if_pos hi]
      by_cases hb : (bestD l i i).1 = 0 ∨ (bestD l i i).1 < (bestD l (i + 1) (i + 1)).1
      · rw [if_pos hb]
        have h := findG_fit l f (i + 1) (lits + 1) (by omega) (by omega) (by omega)
        rwa [show i + 1 - (lits + 1) = i - lits by omega] at h
      · rw [if_neg hb]
        have hok := bestD_ok l i h2 i (Nat.le_refl _)
        obtain ⟨b1, b2, b3, b4, b5, b6⟩ := hok.resolve_left (fun h => hb (.inl h.1))
        have h := findG_fit l f (i + (bestD l i i).1) 0 (Nat.zero_le _) b3 (by omega)
        rw [Nat.sub_zero] at h
        have e : i - lits + lits = i := by omega
        refine ⟨b1, b2, ?_, b4, ?_, ?_, ?_⟩
        · show i - lits + lits + _ ≤ _; rw [e]; exact b3
        · show _ ≤ i - lits + lits; rw [e]; exact b5
        · show ∀ j, j < _ → l.getD (i - lits + lits - _ + j) 0 = l.getD (i - lits + lits + j) 0
          rw [e]; exact b6
        · show FitL l (i - lits + lits + _) _; rw [e]; exact h
    · rw [if_neg hi]
      show i - lits ≤ l.length
      omega
theorem findL_fit (l : List UInt8) : FitL l 0 (findL l) := by
  have h := findG_fit l (l.length + 1) 0 0 (Nat.le_refl _) (Nat.zero_le _) (by omega)
  exact h
theorem LensX.pos {l : List UInt8} {lens : List Nat} (h : LensX (cntB l) lens) : 0 < l.length := by
  obtain ⟨m, h1, h2, -⟩ := h
  cases l with
  | nil =>
    exfalso
    unfold cntB at h2
    simp only [List.map_nil, incT, List.getD, List.getElem?_replicate] at h2
    split at h2 <;> simp at h2
  | cons x l => simp
theorem StepsX.shares {L : List Sq} {B : List UInt8} (h : StepsX L B) (h0 : L ≠ []) : SharesOk L := fun k hk => by
  rcases h with ⟨h1, -⟩ | ⟨-, b0, b1, b2, ⟨s0, x0, y0, -⟩, ⟨s1, x1, y1, -⟩, ⟨s2, x2, y2, -⟩, -⟩
  · exact absurd h1 h0
  · rcases (by omega : k = 0 ∨ k = 1 ∨ k = 2) with rfl | rfl | rfl
    · exact ⟨s0, x0, y0⟩
    · exact ⟨s1, x1, y1⟩
    · exact ⟨s2, x2, y2⟩
theorem StrX.one {k : Nat} {L : List Sq} {B B' : List UInt8} (h : StrX k L B) (h' : StrX k L B') : B = B' := by
  obtain ⟨s, -, x, rfl⟩ := h
  obtain ⟨s', -, x', rfl⟩ := h'
  rw [x.one x']
theorem StepsX.one {L : List Sq} {B B' : List UInt8} (h : StepsX L B) (h' : StepsX L B') : B = B' := by
  rcases h with ⟨h1, h2⟩ | ⟨h1, b0, b1, b2, x0, x1, x2, h2⟩
  · rcases h' with ⟨h1', h2'⟩ | ⟨h1', -⟩
    · rw [h2, h2']
    · exact absurd h1 h1'
  · rcases h' with ⟨h1', -⟩ | ⟨-, c0, c1, c2, y0, y1, y2, h2'⟩
    · exact absurd h1' h1
    · rw [h2, h2', x0.one y0, x1.one y1, x2.one y2]
theorem alike_eq {d : List UInt8} (h : ∀ j, j < d.length → d.getD j 0 = d.getD 0 0) : d = List.replicate d.length (d.getD 0 0) := by
  refine List.ext_getElem (by simp) fun i h1 h2 => ?_
  have := h i h1
  simp only [List.getD, List.getElem?_eq_getElem h1, Option.getD_some] at this
  rw [List.getElem_replicate, this]
  rfl
theorem not_alike {d : List UInt8} {j : Nat} (hj : j < d.length) (h : d.getD j 0 ≠ d.getD 0 0) (x : UInt8) : d ≠ List.replicate d.length x := fun e => by
  have h1 : ∀ i, i < d.length → d.getD i 0 = x := fun i hi => by
    rw [e, List.getD, List.getElem?_replicate, if_pos hi]; rfl
  exact h (by rw [h1 j hj, h1 0 (by omega)])
theorem BestO.raw_ {d B : List UInt8} (h : BestO d B) (h2 : d.length ≤ 1 ∨ ∀ x, d ≠ List.replicate d.length x) : B = 0 :: numB 5 d.length ++ d := by
  rcases h with ⟨h, -⟩ | ⟨x, h3, h4, -⟩
  · exact h
  · rcases h2 with h2 | h2
    · omega
    · exact absurd h4 (h2 x)
theorem BestO.run_ {d B : List UInt8} {x : UInt8} (h : BestO d B) (h1 : 1 < d.length) (h2 : d = List.replicate d.length x) : B = 1 :: numB 5 d.length ++ [x] := by
  rcases h with ⟨-, h⟩ | ⟨y, h3, h4, h5⟩
  · exact absurd h2 (h x h1)
  · have e : List.replicate d.length x = List.replicate d.length y := h2.symm.trans h4
    have e2 : x = y := by
      have h6 := congrArg (fun l => l.getD 0 0) e
      simp only [List.getD, List.getElem?_replicate] at h6
      rw [if_pos (by omega), if_pos (by omega)] at h6
      exact h6
    rw [h5, e2]
set_option maxHeartbeats 8000000 in
set_option maxRecDepth 10000 in
theorem refPack (A : Option Addr) (n c : Nat) (d B : List UInt8) (w : World) (hl : d.length = n) (hr : Bs w A d) (hn : n ≤ 65535) (hc : n ≤ c) (hc2 : c ≤ 9223372036854775807) (hB : BestX d B) :
    Calls Tryz.prog 5 #[.slice A n c] w fun e w' => ∃ S m cs, e = .returned (.tuple #[.slice S m cs, .int .i64 0]) ∧ OwnB w' w.heap.size S m cs (B ++ sumOf d) ∧ Below w.heap.size w w' := by
  obtain ⟨B0, hB0, hBx⟩ := hB
  have HB0 := Lib.hid hB0
  have HBx := Lib.hid hBx
  have HL := Lib.hid hl
  have HR := Lib.hid hr
  have HF := Lib.hid (refFramed 0 A n c d A n c d w (by omega) hl hr (by omega) hl hr (by omega))
  clear hl hr hB0 hBx
  go_enter Tryz.func5, Tryz.ntmps5
  go_wp2_with fail
  refine HF.out.mono ?_
  rintro e w1 ⟨S1, m1, c1, rfl, hown1, hb1⟩
  have HO1 := Lib.hid hown1
  have HB1 := Lib.hid hb1
  have hm1 := OwnB.length hown1
  have hnb := numB_len 5 n
  simp only [List.length_append, List.length_cons] at hm1
  rw [HL.out, show (sumOf d).length = 4 from rfl] at hm1
  have HM1 := Lib.hid hm1
  have hm19 : m1 ≤ 70000 := by omega
  clear hown1 hb1 HF hm1
  rcases Nat.eq_zero_or_pos n with hz | hpos
  · subst hz
    have hd : d = [] := List.eq_nil_of_length_eq_zero HL.out
    have HFin := Lib.hid (show UInt8.ofNat 0 :: numB 5 0 ++ d ++ sumOf d = B ++ sumOf d by
      rcases HBx.out with ⟨-, h⟩ | ⟨h, -⟩
      · rw [h, HB0.out.raw_ (.inl (by rw [HL.out]; omega)), HL.out]; rfl
      · exact absurd hd h)
    go_wp2
    go_ret2
    exact ⟨S1, m1, c1, rfl, by rw [← HFin.out]; exact HO1.out, HB1.out⟩
  · have gn : ((n : Int) == 0) = false := beq_eq_false_iff_ne.2 (by omega)
    obtain ⟨x0, hx0⟩ : ∃ x, d[0]? = some x := ⟨_, List.getElem?_eq_getElem (by rw [HL.out]; exact hpos)⟩
    have HX0 := Lib.hid hx0
    clear hx0
    obtain ⟨w2, hw2⟩ : ∃ w2, w2 = w1 := ⟨_, rfl⟩
    subst hw2
    go_wp2_with fail
    go_loopg [5, 6] n (fun gg s5 s6 wr => ∃ (i q : Nat) (a : Bool), i ≤ n ∧ n - i ≤ gg ∧ s5 = .bool a ∧ s6 = .int .i64 (i : Int) ∧ (a = true → ∀ j, j < i → d.getD j 0 = x0) ∧ (a = false → ∃ j, j < i ∧ d.getD j 0 ≠ x0) ∧ wr = w2.drewN q)
    case atStart => exact ⟨0, 0, true, by omega, by omega, rfl, rfl, fun _ j hj => by omega, (fun h => by cases h), rfl⟩
    case round =>
      obtain ⟨i, q, a, hi, hgi, rfl, rfl, ht, hf, rfl⟩ := hrel
      have HT := Lib.hid ht
      have HFa := Lib.hid hf
      clear ht hf
      by_cases hin : i < n
      · cases a with
        | false =>
          have HF2 := Lib.hid (show ∃ j, j < i + 1 ∧ d.getD j 0 ≠ x0 from (HFa.out rfl).elim (fun j h => ⟨j, by omega, h.2⟩))
          go_wp2
          go_quiet (fail)
          go_wp2
          go_roundg (n - (i + 1))
          case measure => omega
          case rel => exact ⟨i + 1, _, false, by omega, by omega, rfl, by go_num, (fun h => by cases h), fun _ => HF2.out, rfl⟩
        | true =>
          obtain ⟨b, o, x, hA, hx, hc1⟩ := (HR.out.later HB1.out).at_ (by rw [HL.out]; exact hin : i < d.length)
          obtain ⟨b2, o2, y, hA2, hy, hc3⟩ := (HR.out.later HB1.out).at_ (by rw [HL.out]; exact hpos : 0 < d.length)
          rw [hA] at hA2
          cases hA2
          have hyx : y = x0 := by
            have h := HX0.out
            rw [hy] at h
            exact Option.some.inj h
          subst hyx
          subst hA
          have hxd : d.getD i 0 = x := by simp [List.getD, hx]
          have HXd := Lib.hid hxd
          have hc4 : w2.cell? ⟨b, o, none⟩ = some (.int .u8 (y.toNat : Int)) := hc3
          have i1 : (i : Int) < n := by omega
          have i2 : (0 : Int) < n := by omega
          clear hx hy hxd hc3
          by_cases hxy : x = y
          · have g1 : ((x.toNat : Int) == (y.toNat : Int)) = true := by rw [hxy]; simp
            have HT2 := Lib.hid (show ∀ j, j < i + 1 → d.getD j 0 = y from fun j hj => by
              rcases (by omega : j < i ∨ j = i) with h | rfl
              · exact HT.out rfl j h
              · rw [HXd.out, hxy])
            clear hxy
            go_wp2
            go_quiet (fail)
            go_wp2
            go_roundg (n - (i + 1))
            case measure => omega
            case rel => exact ⟨i + 1, _, true, by omega, by omega, rfl, by go_num, fun _ => HT2.out, (fun h => by cases h), rfl⟩
          · have g1 : ((x.toNat : Int) == (y.toNat : Int)) = false := beq_eq_false_iff_ne.2 (fun e => hxy (UInt8.toNat_inj.1 (by omega)))
            have HF2 := Lib.hid (show ∃ j, j < i + 1 ∧ d.getD j 0 ≠ y from ⟨i, by omega, by rw [HXd.out]; exact hxy⟩)
            clear hxy
            go_wp2
            go_quiet (fail)
            go_wp2
            go_roundg (n - (i + 1))
            case measure => omega
            case rel => exact ⟨i + 1, _, false, by omega, by omega, rfl, by go_num, (fun h => by cases h), fun _ => HF2.out, rfl⟩
      · obtain rfl : i = n := by omega
        have hd0 : d.getD 0 0 = x0 := by rw [List.getD, HX0.out]; rfl
        have HRaw := Lib.hid (show (d.length ≤ 1 ∨ ∀ x, d ≠ List.replicate d.length x) → OwnB (w2.drewN q) w.heap.size S1 m1 c1 (B0 ++ sumOf d) from fun h => by
          rw [HB0.out.raw_ h, HL.out]
          exact Own.later HO1.out (below_drewN w2 q))
        have HBq := Lib.hid (HB1.out.trans ((below_drewN w2 q).mono HB1.out.size))
        have HNot := Lib.hid (show a = false → ∀ x, d ≠ List.replicate d.length x from fun h x => by
          obtain ⟨j, h1, h2⟩ := HFa.out h
          exact not_alike (j := j) (by rw [HL.out]; exact h1) (by rw [hd0]; exact h2) x)
        have HRun := Lib.hid (show a = true → d = List.replicate d.length x0 from fun h => by
          rw [← hd0]
          exact alike_eq (fun j hj => by rw [hd0]; exact HT.out h j (by rw [← HL.out]; exact hj)))
        have hlen1 : d.length = 1 ∨ 1 < d.length := by rw [HL.out]; omega
        have HLen1 := Lib.hid hlen1
        obtain ⟨w3, hw3⟩ : ∃ w3, w3 = w2.drewN q := ⟨_, rfl⟩
        rw [← hw3] at HRaw HBq ⊢
        clear hw3 hd0 hlen1 HFa HT HO1 HB1
        go_upto_if 41 with fail
        go_cut [4, 7] from 42 to 51 (fun s4 s7 wx => ∃ (S : Option Addr) (m c : Nat), s4 = .slice S m c ∧ m ≤ 100000 ∧ OwnB wx w.heap.size S m c (B0 ++ sumOf d) ∧ Below w.heap.size w wx)
        case first =>
          cases a with
          | false =>
            have HO := Lib.hid (HRaw.out (.inr (HNot.out rfl)))
            go_wp2_with fail
            go_meet
            case rel => exact ⟨S1, m1, c1, rfl, by omega, HO.out, HBq.out⟩
          | true =>
            have HF1 := Lib.hid (refFramed 1 A i c d A 1 c [x0] w3 (by omega) HL.out (HR.out.later HBq.out) (by omega) rfl (by
              have h := Bs.take 1 (HR.out.later HBq.out)
              have e : d.take 1 = [x0] := by
                have h := HX0.out
                cases d with
                | nil => simp at h
                | cons y r => simp at h; simp [h]
              rwa [e] at h) (by omega))
            go_wp2_with (with_reducible refine wpList_slice_hi ?g ?s ?h elemB ?ho A i c 1 ?hs ?hh ?hk ?_; (case ho => exact rfl); (case g => exact rfl); (case hs => simp [Act.eval]); (case hh => simp [Act.eval]); (case hk => omega))
            refine HF1.out.mono ?_
            rintro e w4 ⟨S4, m4, c4, rfl, hown4, hb4⟩
            have hm4 := OwnB.length hown4
            have hnb := numB_len 5 i
            simp only [List.length_append, List.length_cons, List.length_nil] at hm4
            rw [show (sumOf d).length = 4 from rfl] at hm4
            have hm1 := HM1.out
            have HO4 := Lib.hid (Own.mono hown4 HBq.out.size)
            have HB4 := Lib.hid (HBq.out.trans (hb4.mono HBq.out.size))
            rcases Nat.lt_or_ge 1 i with h1 | h1
            · have HO := Lib.hid (show OwnB w4 w.heap.size S4 m4 c4 (B0 ++ sumOf d) by
                rw [HB0.out.run_ (by rw [HL.out]; exact h1) (HRun.out (by first | rfl | trivial)), HL.out]
                exact HO4.out)
              have hlt : m4 < m1 := by omega
              have hm49 : m4 ≤ 100000 := by omega
              clear hm4 hm1 hown4 hb4
              go_wp2
              go_meet
              case rel => exact ⟨S4, m4, c4, rfl, hm49, HO.out, HB4.out⟩
            · have HO := Lib.hid (Own.later (HRaw.out (.inl (by rw [HL.out]; exact h1))) hb4)
              have hlt : ¬ m4 < m1 := by omega
              clear hm4 hm1 hown4 hb4
              go_wp2
              go_meet
              case rel => exact ⟨S1, m1, c1, rfl, by omega, HO.out, HB4.out⟩
        case rest =>
          obtain ⟨S, m, cb, rfl, hm, hown, hbel⟩ := hcut
          have HO := Lib.hid hown
          have HB := Lib.hid hbel
          have hdn : d ≠ [] := fun e => by have h := HL.out; rw [e] at h; simp at h; omega
          obtain ⟨bb, cc, hlx, hsx, hB⟩ : ∃ b c, LitsX (litsL d (findL d)) b ∧ StepsX (findL d) c ∧ B = if (2 :: numB 5 d.length ++ b ++ c).length < B0.length then 2 :: numB 5 d.length ++ b ++ c else B0 := by
            rcases HBx.out with ⟨h, -⟩ | ⟨-, h⟩
            · exact absurd h hdn
            · exact h
          obtain ⟨lens, hlok, hlx2, hbb⟩ := hlx
          have HSX := Lib.hid hsx
          have HLok := Lib.hid hlok
          have HLX := Lib.hid hlx2
          have HBb := Lib.hid (show bb = numB 5 (litsL d (findL d)).length ++ litB lens (litsL d (findL d)) from hbb)
          have HBB := Lib.hid hB
          have hfit := findL_fit d
          have HSm := Lib.hid (hfit.small (by rw [HL.out]; omega))
          have hmany := hfit.many
          have HFits := Lib.hid (hfit.fits (n := i) (by rw [HL.out]; omega))
          have HFd := Lib.hid (refFind A i c d wc HL.out (HR.out.later HB.out) (by omega))
          rw [HL.out] at hmany
          have hll := litsL_len (findL d) d
          rw [HL.out] at hll
          have hlp : 0 < (litsL d (findL d)).length := hlx2.pos
          obtain ⟨L, hL⟩ : ∃ L, L = findL d := ⟨_, rfl⟩
          rw [← hL] at HSX HLok HLX HBb HSm hmany HFits HFd hll hlp
          obtain ⟨l2, hl2⟩ : ∃ l2, l2 = litsL d L := ⟨_, rfl⟩
          rw [← hl2] at HLok HLX HBb hll hlp
          have HL2 := Lib.hid hl2
          have hLn : L.length ≤ 65536 := by omega
          clear hown hbel hdn hlok hlx2 hbb hB hfit hmany hsx hL hl2 HBx HRaw HNot HRun HLen1 HBq
          go_wp2_with fail
          refine HFd.out.mono ?_
          rintro e w4 ⟨S4, m4, c4, rfl, hown4, hb4⟩
          have hm4 := OwnS.length hown4
          have HB4 := Lib.hid (HB.out.trans (hb4.mono HB.out.size))
          have HO4 := Lib.hid (Own.later HO.out hb4)
          have HS4 := Lib.hid hown4
          have HM4 := Lib.hid hm4
          have HLi := Lib.hid (refLits A i c d S4 m4 c4 L w4 HL.out (HR.out.later HB4.out) (by omega) hc hc2 hm4 hown4.ss (by omega) HFits.out)
          rw [← HL2.out] at HLi
          clear hown4 hb4 HFd hm4 HO
          go_wp2_with fail
          refine HLi.out.mono ?_
          rintro e w5 ⟨S5, m5, c5, rfl, hown5, hb5⟩
          have hm5 := OwnB.length hown5
          have HB5 := Lib.hid (HB4.out.trans (hb5.mono HB4.out.size))
          have HO5 := Lib.hid (Own.later HO4.out hb5)
          have HS5 := Lib.hid (OwnS.later HS4.out hb5)
          have HM5 := Lib.hid hm5
          have HLt := Lib.hid (refLiterals S5 m5 c5 l2 lens w5 hm5 (OwnB.bs hown5) (by omega) (by omega) HLok.out HLX.out)
          clear hown5 hb5 HLi HO4 HS4 HB4
          go_wp2_with fail
          refine HLt.out.mono ?_
          rintro e w6 ⟨S6, m6, c6, rfl, hown6, hb6⟩
          have HO6 := Lib.hid (show OwnB w6 w5.heap.size S6 m6 c6 bb by rw [HBb.out, HM5.out]; exact hown6)
          have hm6 := OwnB.length HO6.out
          have hbl : m6 ≤ 2000000 := by
            rw [← hm6, HBb.out, List.length_append]
            have h1 := numB_len 5 l2.length
            have h2 : (litB lens l2).length ≤ 1 + l2.length := by
              unfold litB
              split
              · omega
              · rw [List.length_cons]; omega
            omega
          have HM6 := Lib.hid hm6
          have HB6 := Lib.hid (HB5.out.trans (hb6.mono HB5.out.size))
          have HM0 := Lib.hid (Own.later HO5.out hb6)
          have HS6 := Lib.hid (OwnS.later HS5.out hb6)
          clear hown6 hb6 HLt HO5 HS5 hm5 hm6
          go_wp2_with (at_builtin; refine wpList_append_rd rfl _ _ elemB rfl w6.heap.size none 0 0 [] ?hs (Own.nil _ _ _) S6 m6 c6 (bb.map u8v) ?hx (Own.rd HO6.out) ?a2 (u8_one _) ?a3 ?a4 (Nat.le_refl _) ?_)
          case hs => simp [Act.eval]
          case hx => simp [Act.eval]
          case a2 => rw [List.length_map]; exact HM6.out
          case a3 => omega
          case a4 => omega
          intro A7 c7 w7 hown7 hb7 hg7 hat7
          have HO7 := Lib.hid (show OwnB w7 w6.heap.size A7 m6 c7 bb from by
            exact hown7)
          have HB7 := Lib.hid (HB6.out.trans (hb7.mono HB6.out.size))
          have HB67 := Lib.hid hb7
          have HSt := Lib.hid (refSteps S4 m4 c4 L w7 HM4.out (OwnS.ss (OwnS.later HS6.out hb7)) HSm.out (by rw [← HM4.out]; exact hLn) (fun h0 => HSX.out.shares h0))
          clear hown7 hb7 hg7 hat7 HO6 HS6
          go_wp2_with fail
          refine HSt.out.mono ?_
          rintro e w8 ⟨S8, m8, c8, B8, rfl, hm89, hown8, hst8, hb8⟩
          have hB8 : B8 = cc := hst8.one HSX.out
          subst hB8
          have hm8 := OwnB.length hown8
          have HO8 := Lib.hid hown8
          have HO7b := Lib.hid (Own.later HO7.out hb8)
          have HB68 := Lib.hid (HB67.out.trans (hb8.mono HB67.out.size))
          have HB8 := Lib.hid (HB7.out.trans (hb8.mono HB7.out.size))
          have HML8 := Lib.hid hm8
          clear hown8 hst8 hb8 HSt HO7 hm8 HB67
          go_wp2_with (at_builtin; refine wpList_append_rd rfl _ _ elemB rfl w6.heap.size A7 m6 c7 (bb.map u8v) ?hs HO7b.out S8 m8 c8 (B8.map u8v) ?hx ?a1 ?a2 (u8_one _) ?a3 ?a4 ?a5 ?_)
          case hs => simp [Act.eval]
          case hx => simp [Act.eval]
          case a1 => exact Own.rd HO8.out
          case a2 => rw [List.length_map]; exact HML8.out
          case a3 => omega
          case a4 => omega
          case a5 => exact HB68.out.size
          intro A9 c9 w9 hown9 hb9 hg9 hat9
          have HO9 := Lib.hid (show OwnB w9 w6.heap.size A9 (m6 + m8) c9 (bb ++ B8) from by
            unfold OwnB
            rw [List.map_append]
            exact hown9)
          have HB69 := Lib.hid (HB68.out.trans hb9)
          have HM9 := Lib.hid (Own.later HM0.out HB69.out)
          have HB9 := Lib.hid (HB6.out.trans (HB69.out.mono HB6.out.size))
          have HF2 := Lib.hid (refFramed 2 A i c d A9 (m6 + m8) c9 (bb ++ B8) w9 (by omega) HL.out (HR.out.later HB9.out) (by omega) (by rw [List.length_append, HM6.out, HML8.out]) (OwnB.bs HO9.out) (by omega))
          clear hown9 hb9 hg9 hat9 HO7b HO8 HM0 HB68 HB7 HB6 HB8
          go_wp2_with fail
          refine HF2.out.mono ?_
          rintro e w10 ⟨S10, m10, c10, rfl, hown10, hb10⟩
          have HO10 := Lib.hid (Own.mono hown10 HB9.out.size)
          have HM10 := Lib.hid (Own.later HM9.out hb10)
          have HB10 := Lib.hid (HB9.out.trans (hb10.mono HB9.out.size))
          have hm10 := OwnB.length hown10
          have hmb := OwnB.length HM9.out
          have HMb := Lib.hid (show B0.length + 4 = m by rw [List.length_append] at hmb; exact hmb)
          have HMx := Lib.hid (show (2 :: numB 5 i ++ bb ++ B8).length + 4 = m10 by
            simp only [List.length_append, List.length_cons] at hm10 ⊢
            rw [show (sumOf d).length = 4 from rfl] at hm10
            omega)
          have hm109 : m10 ≤ 100000000 := by
            have h1 := HMx.out
            have h2 := numB_len 5 i
            simp only [List.length_append, List.length_cons, HM6.out, HML8.out] at h1
            omega
          clear hown10 hb10 HF2 hm10 hmb
          by_cases hlt : m10 < m
          · have HFin := Lib.hid (show OwnB w10 w.heap.size S10 m10 c10 (B ++ sumOf d) by
              have h := HO10.out
              rw [HBB.out, HL.out, if_pos (by have := HMx.out; have := HMb.out; omega)]
              have e : 2 :: numB 5 i ++ bb ++ B8 ++ sumOf d = UInt8.ofNat 2 :: numB 5 i ++ (bb ++ B8) ++ sumOf d := by simp [List.append_assoc]
              rw [e]; exact h)
            go_wp2
            go_ret2
            exact ⟨S10, m10, c10, rfl, HFin.out, HB10.out⟩
          · have HFin := Lib.hid (show OwnB w10 w.heap.size S m cb (B ++ sumOf d) by
              rw [HBB.out, HL.out, if_neg (by have := HMx.out; have := HMb.out; omega)]
              exact HM10.out)
            go_wp2
            go_ret2
            exact ⟨S, m, cb, rfl, HFin.out, HB10.out⟩
end Go.Proofs.YtaelgbbnmjbjiaaGreat
namespace Go.Proofs.YtaelgbbnmjbjiaaGreat
open Go.RowKit
theorem BestX.len {d B : List UInt8} (h : BestX d B) : B.length ≤ d.length + 20 := by
  obtain ⟨B0, h0, h⟩ := h
  have hn := numB_len 5 d.length
  have h1 : B0.length ≤ d.length + 20 := by
    rcases h0 with ⟨rfl, -⟩ | ⟨x, h2, h3, rfl⟩
    · simp only [List.length_append, List.length_cons]; omega
    · simp only [List.length_append, List.length_cons, List.length_nil]; omega
  rcases h with ⟨-, rfl⟩ | ⟨-, b, c, -, -, rfl⟩
  · exact h1
  · split
    · omega
    · exact h1
set_option maxHeartbeats 8000000 in
set_option maxRecDepth 10000 in
theorem lawPacks (A : Option Addr) (n0 c : Nat) (d0 : List UInt8) (w : World) (hl0 : d0.length = n0) (hr0 : Bs w A d0) (hc0 : n0 ≤ c) (hc2 : c ≤ 9223372036854775807)
    (hA : ∀ b, bk A = some b → b < w.heap.size) :
    Calls Tryz.prog 3 #[.slice A n0 c] w fun e w' => e = .returned (.bool true) ∧ Below w.heap.size w w' := by
  have HL0 := Lib.hid hl0
  have HR0 := Lib.hid hr0
  have HA := Lib.hid hA
  clear hl0 hr0 hA
  go_enter Tryz.func3, Tryz.ntmps3
  go_upto_if 10 with fail
  go_cut [0] from 11 to 12 (fun s0 wx => ∃ (n : Nat) (d : List UInt8), s0 = .slice A n c ∧ d.length = n ∧ n ≤ 1500 ∧ Bs w A d ∧ n ≤ c ∧ wx = w)
  case first =>
    by_cases hbig : 1500 < n0
    · have g1 : decide ((1500 : Int) < (n0 : Int)) = true := decide_eq_true (by omega)
      go_wp2_with (with_reducible refine wpList_slice_hi ?g ?s ?h elemB ?ho A n0 c 1500 ?hs ?hh ?hk ?_; (case ho => exact rfl); (case g => exact rfl); (case hs => exact rfl); (case hh => exact rfl); (case hk => omega))
      go_meet
      case rel => exact ⟨1500, d0.take 1500, rfl, by rw [List.length_take, HL0.out]; omega, by omega, Bs.take _ HR0.out, by omega, rfl⟩
    · have g1 : decide ((1500 : Int) < (n0 : Int)) = false := decide_eq_false (by omega)
      go_wp2_with fail
      go_meet
      case rel => exact ⟨n0, d0, rfl, HL0.out, by omega, HR0.out, hc0, rfl⟩
  case rest =>
    obtain ⟨n, d, rfl, hl, hn, hr, hc, rfl⟩ := hcut
    clear HL0 HR0 hc0
    obtain ⟨w, hw⟩ : ∃ w, w = wc := ⟨_, rfl⟩
    subst hw
    have HL := Lib.hid hl
    have HR := Lib.hid hr
    have HP := Lib.hid (packPackX A n c d w hl hr (by omega) hc hc2 HA.out)
    clear hl hr
    go_wp2_with fail
    refine HP.out.mono ?_
    rintro e w1 ⟨S1, m1, c1, B, rfl, hown1, hbest, hb1⟩
    have hm1 := OwnB.length hown1
    have HO1 := Lib.hid hown1
    have HB1 := Lib.hid hb1
    have HRf := Lib.hid (refPack A n c d B w1 HL.out (HR.out.later hb1) (by omega) hc hc2 hbest)
    have HM1 := Lib.hid hm1
    have hm19 : m1 ≤ 9000000000000000000 := by
      have h1 := hbest.len
      rw [List.length_append, show (sumOf d).length = 4 from rfl] at hm1
      rw [HL.out] at h1
      omega
    clear hown1 hb1 hbest HP hm1
    go_wp2_with fail
    refine HRf.out.mono ?_
    rintro e w2 ⟨S2, m2, c2, rfl, hown2, hb2⟩
    have hm2 := OwnB.length hown2
    rw [HM1.out] at hm2
    have HSm := Lib.hid (sameAny S1 S2 m1 c1 m2 c2 (B ++ sumOf d) (B ++ sumOf d) w2 HM1.out (OwnB.length hown2) ((OwnB.bs HO1.out).later hb2) (OwnB.bs hown2) hm19 (by omega))
    rw [show ((B ++ sumOf d) == (B ++ sumOf d)) = true from beq_self_eq_true _] at HSm
    have HB2 := Lib.hid (HB1.out.trans (hb2.mono HB1.out.size))
    clear hown2 hb2 HRf hm2
    go_wp2_with fail
    refine HSm.out.mono ?_
    rintro e w3 ⟨rfl, hb3⟩
    have HB3 := Lib.hid (HB2.out.trans (hb3.mono HB2.out.size))
    have HLv := Lib.hid (lives_any w3)
    clear hb3 HSm HB2
    go_wp2_with fail
    refine HLv.out.mono ?_
    rintro e w4 ⟨rfl, hb4⟩
    have HB4 := Lib.hid (HB3.out.trans (hb4.mono HB3.out.size))
    clear hb4 HLv HB3
    go_wp2
    go_ret
    exact ⟨rfl, HB4.out⟩
end Go.Proofs.YtaelgbbnmjbjiaaGreat
namespace Go.Proofs.YtaelgbbnmjbjiaaGreat
open Go.ChangeShapes Go.WideShapes Go.ChangeAt Go.RowKit
open Go.ChangeMaps (setBlock shut_map_nil open_string shut_string keptBut_setBlock frozen?_setBlock heap_setBlock_same)
theorem own : ownKnob Tryz.prog.godebug = none := by kernel_rfl
noncomputable def laidWorld (os : Os) : World := World.holding Tryz.prog os ⟨#[], #[], []⟩
theorem post_kept2 {H : Type} {enc : TypeId × Value → H} {f : Func} {s : ChangeSpec} {W W' : World} {args : Array Value} {v : Value} {ds : List (DataW H)} {before : List MemPlace}
    (hW : DataW.Whole enc Tryz.prog f.params.toList s.vars false W args.toList ds [] before) (hv : s.vars = [])
    (hres : ∀ (b : Nat) (sp : Nat → Bool) (hd : Bool), DataW.TrodAll enc Tryz.prog W' b sp hd f.resultTypes.toList (v.resultList f.resultTypes.size) (s.fn H (ds ++ [])).results [])
    (hargs : DataW.TrodAll enc Tryz.prog W' 0 (fun b => decide (b < W.heap.size)) true f.params.toList args.toList (s.fn H (ds ++ [])).args before)
    (hvars : (s.fn H (ds ++ [])).vars = []) (hb : Below W.heap.size W W') :
    s.post enc Tryz.prog f false true false false W args v W' := by
  refine ⟨ds, [], before, [], before, [], hW, hres _ _ _, hargs, ?_, hb.frame _ |> World.keptBut_mono (fun p hp => ⟨hp, .inr (.inl hp)⟩), fun h => by cases h⟩
  rw [hv, hvars]
  exact rfl
theorem cells_u8 : Tryz.prog.cellsOf 5 = 1 := by kernel_rfl
theorem laidOut : laidOutB Tryz.prog = true := by kernel_rfl
theorem readable_bytes : Tryz.prog.readableRec 22 = true := by kernel_rfl
theorem row_bytes : (22 : Nat) < Tryz.prog.types.size := of_decide_eq_true (by kernel_rfl)
theorem bulk_one {H : Type} (d : DataW H) : 1 ≤ Rows.uptoBulk d := by
  cases d with
  | lit l => cases l <;> simp [Rows.uptoBulk]
  | nil => simp [Rows.uptoBulk]
  | ptr d => simp [Rows.uptoBulk]
  | slice elems spare => simp [Rows.uptoBulk]
  | agg parts => simp [Rows.uptoBulk]
  | iface t d => simp [Rows.uptoBulk]
  | map entries => simp [Rows.uptoBulk]
  | held h => simp [Rows.uptoBulk]
theorem bulk_many {H : Type} (l : List (DataW H)) : l.length ≤ Rows.uptoBulkAll l := by
  induction l with
  | nil => simp [Rows.uptoBulkAll]
  | cons x r ih => have := bulk_one x; simp only [Rows.uptoBulkAll, List.length_cons]; omega
set_option maxRecDepth 100000 in
theorem open_bytes {H : Type} {enc : TypeId × Value → H} {W : World} {base : Nat} {v : Value} {d : DataW H} {p : List MemPlace} (hval : Value.okWide Tryz.prog W .any base 22 v) (h : DataW.Trod enc Tryz.prog W 0 (fun _ => true) true 22 v d p) :
    ∃ A n c l, v = .slice A n c ∧ l.length = n ∧ Bs W A l ∧ n ≤ c ∧ c ≤ 9223372036854775807 ∧ (A = none → c = 0) ∧ (∀ b, bk A = some b → b < W.heap.size) ∧ n ≤ Rows.uptoBulk d := by
  obtain ⟨a0, len, cap, rfl⟩ := okWide_slice Tryz.underlying22 hval
  obtain ⟨fuel, hf⟩ := h
  have hA : ∀ b, bk a0 = some b → b < W.heap.size := by
    intro b hb
    cases a0 with
    | none => cases hb
    | some a =>
      cases hb
      simp only [Value.okWide, Tryz.underlying22, Cell.okWide, Cell.ok] at hval
      obtain ⟨-, -, -, -, row, cells, hs, -⟩ := hval
      unfold World.shape? at hs
      rcases Nat.lt_or_ge a.block W.heap.size with h | h
      · exact h
      · rw [Array.getElem?_eq_none h] at hs; cases hs
  rcases open_ints Tryz.underlying22 Tryz.underlying5 cells_u8 hf with ⟨hcs, hx⟩ | ⟨a, len', cap', zs, hcs, _, hl, hmx, hz, hx, hcell, hwf⟩
  · simp [Value.cells] at hcs
    obtain ⟨rfl, rfl, rfl⟩ := hcs
    exact ⟨none, 0, 0, [], rfl, rfl, Rd.nil _ _, by omega, by omega, fun _ => rfl, hA, by omega⟩
  · simp [Value.cells] at hcs
    obtain ⟨rfl, rfl, rfl⟩ := hcs
    simp only [Prod.mk.injEq] at hx
    obtain ⟨rfl, -⟩ := hx
    simp only [if_true] at hz
    unfold maxLen at hmx
    refine ⟨some a, len, cap, (zs.take len).map (fun z => UInt8.ofNat z.toNat), rfl, by rw [List.length_map, List.length_take]; omega, ?_, hl, by omega, fun h => (by cases h), hA, ?_⟩
    · intro h0
      rw [List.length_map, List.length_map, List.length_take] at h0
      obtain ⟨b, off, spot⟩ := a
      have hspot : spot = none := by simpa [Addr.add] using World.cell?_spot (hcell 0 (by omega))
      subst hspot
      refine ⟨b, off, rfl, fun j hj => ?_⟩
      rw [List.length_map, List.length_map, List.length_take] at hj
      have hc := hcell j (by omega)
      have e : (⟨b, off, none⟩ : Addr).add j = ⟨b, off + j, none⟩ := by unfold Addr.add; split <;> simp_all
      rw [e] at hc
      have hjz : j < zs.length := by omega
      have hw := hwf _ (List.getElem_mem hjz)
      simp only [Lit.wf, Bool.and_eq_true, decide_eq_true_eq] at hw
      have h1 : (0 : Int) ≤ zs[j] := hw.1
      have h2 : zs[j] ≤ 255 := hw.2
      rw [hc]
      simp only [List.getElem?_map, List.getElem?_take, List.getD, List.getElem?_eq_getElem hjz, Option.getD_some]
      rw [if_pos (by omega)]
      simp only [Option.map_some, u8v, UInt8.toNat_ofNat']
      congr 2
      omega
    · have h1 := bulk_many (H := H) (lits .u8 (zs.take len))
      simp only [lits, List.length_map, List.length_take] at h1
      simp only [Rows.uptoBulk, lits]
      omega
end Go.Proofs.YtaelgbbnmjbjiaaGreat
