/-
  Parts of the proofs, in the order in which they build: Y4, V5, V5b, Y9, Y10, Y11, Y12, V6a, V6b.
-/
import Derived.Test.YtaelgbbnmjbjiaaGreatKe
import Derived.Test.YtaelgbbnmjbjiaaGreatKg
import Derived.Test.YtaelgbbnmjbjiaaGreatKh
import Derived.Test.YtaelgbbnmjbjiaaGreatKi
import Derived.Test.YtaelgbbnmjbjiaaGreatKj
import Derived.Test.YtaelgbbnmjbjiaaGreatKk
set_option linter.unusedSimpArgs false
set_option linter.unusedVariables false
namespace Go.Proofs.YtaelgbbnmjbjiaaGreat
open Go.RowKit
def findG (l : List UInt8) : Nat → Nat → Nat → List Sq
  | 0, _, _ => []
  | f + 1, i, lits =>
    if i < l.length then
      if (bestD l i i).1 = 0 ∨ (bestD l i i).1 < (bestD l (i + 1) (i + 1)).1 then findG l f (i + 1) (lits + 1)
      else ⟨lits, (bestD l i i).1, (bestD l i i).2⟩ :: findG l f (i + (bestD l i i).1) 0
    else []
def findL (l : List UInt8) : List Sq := findG l (l.length + 1) 0 0
theorem findG_skip {l : List UInt8} {L : List Sq} {n i from_ : Nat} (h : ∃ f, n - i < f ∧ findL l = L ++ findG l f i (i - from_)) (hi : i < l.length) (hf : from_ ≤ i) (h2 : (bestD l i i).1 = 0 ∨ (bestD l i i).1 < (bestD l (i + 1) (i + 1)).1) (hn : i < n := by omega) :
    ∃ f, n - (i + 1) < f ∧ findL l = L ++ findG l f (i + 1) (i + 1 - from_) := by
  obtain ⟨f, hf1, h3⟩ := h
  obtain ⟨f', rfl⟩ : ∃ f', f = f' + 1 := ⟨f - 1, by omega⟩
  have e : findG l (f' + 1) i (i - from_) = findG l f' (i + 1) (i - from_ + 1) := by
    show (if i < l.length then (if _ then _ else _) else _) = _
    rw [if_pos hi, if_pos h2]
  rw [e, show i - from_ + 1 = i + 1 - from_ by omega] at h3
  exact ⟨f', by omega, h3⟩
theorem findG_take {l : List UInt8} {L : List Sq} {n i from_ nn dd : Nat} (h : ∃ f, n - i < f ∧ findL l = L ++ findG l f i (i - from_)) (hi : i < l.length) (h2 : ¬ ((bestD l i i).1 = 0 ∨ (bestD l i i).1 < (bestD l (i + 1) (i + 1)).1)) (hb : (nn, dd) = bestD l i i) (h0 : 1 ≤ nn) (hn : i < n := by omega) :
    ∃ f, n - (i + nn) < f ∧ findL l = (L ++ [⟨i - from_, nn, dd⟩]) ++ findG l f (i + nn) 0 := by
  obtain ⟨f, hf1, h3⟩ := h
  obtain ⟨f', rfl⟩ : ∃ f', f = f' + 1 := ⟨f - 1, by omega⟩
  have e : findG l (f' + 1) i (i - from_) = ⟨i - from_, nn, dd⟩ :: findG l f' (i + nn) 0 := by
    show (if i < l.length then (if _ then _ else _) else _) = _
    rw [if_pos hi, if_neg h2, ← hb]
  rw [e] at h3
  exact ⟨f', by omega, by rw [h3]; simp⟩
theorem findG_end {l : List UInt8} {L : List Sq} {n i from_ : Nat} (h : ∃ f, n - i < f ∧ findL l = L ++ findG l f i (i - from_)) (hi : ¬ i < l.length) : findL l = L := by
  obtain ⟨f, hf1, h3⟩ := h
  obtain ⟨f', rfl⟩ : ∃ f', f = f' + 1 := ⟨f - 1, by omega⟩
  have e : findG l (f' + 1) i (i - from_) = [] := by
    show (if i < l.length then _ else _) = _
    rw [if_neg hi]
  rw [h3, e, List.append_nil]
set_option maxHeartbeats 4000000 in
set_option maxRecDepth 10000 in
theorem mFindX (A : Option Addr) (n c : Nat) (l : List UInt8) (w : World) (hl : l.length = n) (hr : Bs w A l) (hn : n ≤ 65536) (hc : n ≤ c) (hlow : ∀ b, bk A = some b → b < w.heap.size) :
    Calls Tryz.prog 11 #[.slice A n c, .int .i64 65536] w fun e w' => ∃ S m cs L, e = .returned (.tuple #[.slice S m cs, .int .i64 0]) ∧ OwnS w' w.heap.size S m cs L ∧ FitL l 0 L ∧ L = findL l ∧ Below w.heap.size w w' := by
  have HL := Lib.hid hl
  have HR := Lib.hid hr
  have HLow := Lib.hid hlow
  clear hl hr hlow
  have g1 : decide ((65536 : Int) < (n : Int)) = false := decide_eq_false (by omega)
  obtain ⟨ti, hi, hz0, hz1, hz2⟩ := info_parts elemN_info
  go_enter Tryz.func11, Tryz.ntmps11
  go_wp2_with (at_make; refine wpList_make_full _ rfl _ _ 45 rfl w.heap.size 3 ti _ 1 Tryz.underlying45 hi hz0 hz1 .i64 .i64 n n n rfl rfl rfl rfl (by rw [hz2]; omega) (by unfold maxLen; omega) (Nat.le_refl _) ?_)
  intro w1 hown1 hg1
  rw [made_zeros] at hown1
  have hb1 : Below w.heap.size w w1 := (Below.refl _ _).grown hg1 (Nat.le_refl _) (fun k hk => by cases hk)
  have hfin : Fin_ (w1.alloc (.cells (((Tryz.zeroCells48.setIfInBounds 0 (.slice A n c)).setIfInBounds 1 (.int .i64 65536)).setIfInBounds 4098 (.slice (some ⟨w.heap.size, 0, none⟩) n n)) 48)) w.heap.size w1.heap.size l A n c 65536 (fun _ => 0) (some ⟨w.heap.size, 0, none⟩) n 0 (List.replicate n 0) := by
    have hz := zero_fin A n c 65536 (some ⟨w.heap.size, 0, none⟩) n _ _ _ rfl rfl rfl
    refine ⟨Cells.new w1 48 _ hz.1 hz.2, (HR.out.later hb1).later ((Below.refl _ _).alloc (Nat.le_refl _) _), Own.later (w := w1) hown1 ((Below.refl _ _).alloc (Nat.le_refl _) _), fun _ _ => Nat.le_refl _, fun p hp => by omega, Nat.zero_le _, HLow.out, hb1.size, ?_⟩
    have := ((Below.refl w1.heap.size w1).alloc (Nat.le_refl _) (.cells (((Tryz.zeroCells48.setIfInBounds 0 (.slice A n c)).setIfInBounds 1 (.int .i64 65536)).setIfInBounds 4098 (.slice (some ⟨w.heap.size, 0, none⟩) n n)) 48)).size
    have := hb1.size
    omega
  have HF1 := Lib.hid hfin
  have HB1 := Lib.hid (hb1.alloc hb1.size (.cells (((Tryz.zeroCells48.setIfInBounds 0 (.slice A n c)).setIfInBounds 1 (.int .i64 65536)).setIfInBounds 4098 (.slice (some ⟨w.heap.size, 0, none⟩) n n)) 48))
  clear hfin hb1 hown1 hg1 hi hz0 hz1 hz2
  go_wp2_with fail
  obtain ⟨w2, hw2⟩ : ∃ w2, w2 = w1.alloc (.cells (((Tryz.zeroCells48.setIfInBounds 0 (.slice A n c)).setIfInBounds 1 (.int .i64 65536)).setIfInBounds 4098 (.slice (some ⟨w.heap.size, 0, none⟩) n n)) 48) := ⟨_, rfl⟩
  rw [← hw2] at HF1 HB1 ⊢
  clear hw2
  obtain ⟨g, hg⟩ : ∃ g, g = w1.heap.size := ⟨_, rfl⟩
  rw [← hg] at HF1 ⊢
  clear hg
  refine (mBestX w.heap.size g l A n c 65536 _ _ n 0 _ 0 w2 HF1.out HL.out hn hc (Nat.zero_le _) (Nat.le_refl _) (Nat.le_refl _) (by omega) ⟨fun m _ => rfl, fun p hp => by omega⟩).mono ?_
  rintro e w3 ⟨⟨nn, dd, rfl, hok⟩, hb3, -, head3, known3, ah3, hk3, hf3, hlo3⟩
  have HLo3 := Lib.hid hlo3
  clear hlo3
  have HF3 := Lib.hid hf3
  have HB3 := Lib.hid (HB1.out.trans hb3)
  have HOK := Lib.hid hok
  clear hf3 hb3 hok HF1 HB1
  go_wp2_with fail
  go_loopg [7, 8, 9, 10, 11] n (fun gg s7 s8 s9 s10 s11 wr => ∃ (So : Option Addr) (mo co : Nat) (L : List Sq) (from_ i nn dd : Nat) (head : Nat → Nat) (known : Nat) (ah : List Nat), s7 = .slice So mo co ∧ s8 = .int .i64 (from_ : Int) ∧ s9 = .int .i64 (nn : Int) ∧ s10 = .int .i64 (dd : Int) ∧ s11 = .int .i64 (i : Int) ∧ OwnS wr w.heap.size So mo co L ∧ mo ≤ i ∧ fitEnd 0 L = from_ ∧ FitL l 0 L ∧ from_ ≤ i ∧ i ≤ n ∧ n - i ≤ gg ∧ (nn, dd) = bestD l i i ∧ known ≤ i ∧ LinkOk l head ah known ∧ (∃ f, n - i < f ∧ findL l = L ++ findG l f i (i - from_)) ∧ Fin_ wr w.heap.size g l A n c 65536 head (some ⟨w.heap.size, 0, none⟩) n known ah ∧ Below w.heap.size w wr)
  case atStart => exact ⟨none, 0, 0, [], 0, 0, nn, dd, head3, known3, ah3, rfl, rfl, rfl, rfl, rfl, OwnS.nil _ _, Nat.le_refl _, rfl, Nat.zero_le _, Nat.le_refl _, Nat.zero_le _, by omega, HOK.out, hk3, HLo3.out, ⟨n + 1, by omega, by rw [← HL.out]; rfl⟩, HF3.out, HB3.out⟩
  case round =>
    clear HF3 HB3 HOK hk3 HLo3
    obtain ⟨So, mo, co, L, from_, i, nn, dd, head, known, ah, rfl, rfl, rfl, rfl, rfl, hso, hmo, hend, hfit, hfi, hi, hgg, hok, hki, hlo, hfd, hf, hb⟩ := hrel
    have HLo := Lib.hid hlo
    have HFd := Lib.hid hfd
    clear hlo hfd
    have HSo := Lib.hid hso
    have HEnd := Lib.hid hend
    have HFit := Lib.hid hfit
    have HBq := Lib.hid hok
    have hok2 := bestD_ok l i (by rw [HL.out]; omega) i (Nat.le_refl _)
    rw [← hok] at hok2
    have HOK := Lib.hid (show BestOk l i nn dd from hok2)
    clear hok2
    have HF := Lib.hid hf
    have HB := Lib.hid hb
    clear hso hend hfit hok hf hb
    have hn1 : bk So ≠ some g := by
      obtain ⟨cs, h1, -⟩ := HF.out.cells
      exact HSo.out.ne_blk h1 (by decide)
    have hn2 := HSo.out.ne_own HF.out.ahead (by decide)
    by_cases hin : i < n
    · have g1 : decide ((i : Int) < n) = true := decide_eq_true (by omega)
      have hbe : Calls Tryz.prog 25 #[.pointer (some ⟨g, 0, none⟩), .int .i64 ((i : Int) + 1)] wr _ := mBestX w.heap.size g l A n c 65536 _ _ n known _ (i + 1) wr HF.out HL.out hn hc (by omega) (by omega) (Nat.le_refl _) (by omega) HLo.out
      have HBe := Lib.hid hbe
      clear hbe
      by_cases h0 : nn = 0
      · have g2 : ((nn : Int) == 0) = true := by rw [h0]; rfl
        have HFd4 := Lib.hid (findG_skip HFd.out (by rw [HL.out]; omega) hfi (.inl (by rw [← HBq.out]; exact h0)) : ∃ f, n - (i + 1) < f ∧ findL l = L ++ findG l f (i + 1) (i + 1 - from_))
        clear h0
        go_wp2_with fail
        refine HBe.out.mono ?_
        rintro e w4 ⟨⟨nn4, dd4, rfl, hok4⟩, hb4, ht4, head4, known4, ah4, hk4, hf4, hlo4⟩
        have HLo4 := Lib.hid hlo4
        have HF4 := Lib.hid hf4
        have HB4 := Lib.hid (HB.out.trans hb4)
        have HSo4 := Lib.hid (HSo.out.two ht4 hn1 hn2)
        have HOK4 := Lib.hid hok4
        clear hf4 hb4 ht4 hok4 g2 HBe
        go_wp2
        go_roundg (n - (i + 1))
        case measure => omega
        case rel => exact ⟨So, mo, co, L, from_, i + 1, nn4, dd4, head4, known4, ah4, rfl, rfl, rfl, rfl, by go_num, HSo4.out, by omega, HEnd.out, HFit.out, by omega, by omega, by omega, HOK4.out, hk4, HLo4.out, HFd4.out, HF4.out, HB4.out⟩
      · have g2 : ((nn : Int) == 0) = false := beq_eq_false_iff_ne.2 (by omega)
        have HOKn := Lib.hid (HOK.out.resolve_left (fun h => h0 h.1))
        have Hn0 := Lib.hid h0
        clear h0
        go_wp2_with fail
        refine HBe.out.mono ?_
        rintro e w4 ⟨⟨nn4, dd4, rfl, hok4⟩, hb4, ht4, head4, known4, ah4, hk4, hf4, hlo4⟩
        have HLo4 := Lib.hid hlo4
        have HF4 := Lib.hid hf4
        have HB4 := Lib.hid (HB.out.trans hb4)
        have HSo4 := Lib.hid (HSo.out.two ht4 hn1 hn2)
        have HOK4 := Lib.hid hok4
        clear hf4 hb4 ht4 hok4 g2 HBe
        by_cases hm : nn < nn4
        · have g3 : decide ((nn : Int) < nn4) = true := decide_eq_true (by omega)
          have HFd4 := Lib.hid (findG_skip HFd.out (by rw [HL.out]; omega) hfi (.inr (by rw [← HBq.out, ← HOK4.out]; exact hm)) : ∃ f, n - (i + 1) < f ∧ findL l = L ++ findG l f (i + 1) (i + 1 - from_))
          go_wp2
          go_roundg (n - (i + 1))
          case measure => omega
          case rel => exact ⟨So, mo, co, L, from_, i + 1, nn4, dd4, head4, known4, ah4, rfl, rfl, rfl, rfl, by go_num, HSo4.out, by omega, HEnd.out, HFit.out, by omega, by omega, by omega, HOK4.out, hk4, HLo4.out, HFd4.out, HF4.out, HB4.out⟩
        · have g3 : decide ((nn : Int) < nn4) = false := decide_eq_false (by omega)
          have HFd5 := Lib.hid (findG_take HFd.out (by rw [HL.out]; omega) (by rw [← HBq.out, ← HOK4.out]; exact fun h => h.elim Hn0.out hm) HBq.out (by have := Hn0.out; omega) : ∃ f, n - (i + nn) < f ∧ findL l = (L ++ [⟨i - from_, nn, dd⟩]) ++ findG l f (i + nn) 0)
          have e1 : IntKind.i64.wrap ((i : Int) - from_) = ((i - from_ : Nat) : Int) := by rw [wrapi64 (by omega) (by omega)]; omega
          have HN2 := Lib.hid (show nn ≤ 259 ∧ i + nn ≤ n ∧ 4 ≤ nn from ⟨HOKn.out.2.1, by have := HOKn.out.2.2.1; rw [HL.out] at this; exact this, HOKn.out.1⟩)
          have hi2 := HN2.out
          go_wp2_with (at_builtin; go_loud (refine wpList_append_sq rfl _ _ rfl w.heap.size So mo co L w4 ⟨i - from_, nn, dd⟩ ?hw ?hs HSo4.out ?hx ?hb ?hbase ?_; (case hs => simp [Act.eval]); (case hx => simp [Act.eval])))
          case hw => rfl
          case hb => omega
          case hbase => exact HB4.out.size
          intro A9 c9 w9 hown9 hg9
          have hf9 := HF4.out.kept hg9 hn1 (hn2.elim (fun h => .inr (by rw [h]; simp [bk])) (fun h => .inr (fun e => h e.symm))) (fun k hk => (HSo.out.lt hk).1)
          have HF9 := Lib.hid hf9
          have HB9 := Lib.hid (HB4.out.grown hg9 HB4.out.size (fun k hk => (HSo.out.lt hk).1))
          have HSo9 := Lib.hid hown9
          have hfit9 : FitL l 0 (L ++ [⟨i - from_, nn, dd⟩]) := by
            refine HFit.out.append ?_
            rw [HEnd.out]
            have h := HOKn.out
            show 4 ≤ nn ∧ nn ≤ 259 ∧ from_ + (i - from_) + nn ≤ l.length ∧ 1 ≤ dd ∧ dd ≤ from_ + (i - from_) ∧ (∀ j, j < nn → l.getD (from_ + (i - from_) - dd + j) 0 = l.getD (from_ + (i - from_) + j) 0) ∧ from_ + (i - from_) + nn ≤ l.length
            rw [show from_ + (i - from_) = i by omega]
            exact ⟨h.1, h.2.1, h.2.2.1, h.2.2.2.1, h.2.2.2.2.1, h.2.2.2.2.2, h.2.2.1⟩
          have HFit9 := Lib.hid hfit9
          have HEnd9 := Lib.hid (show fitEnd 0 (L ++ [⟨i - from_, nn, dd⟩]) = i + nn by rw [fitEnd_append, HEnd.out]; show from_ + (i - from_) + nn = _; omega)
          clear hf9 hown9 hg9 hfit9
          have hbe : Calls Tryz.prog 25 #[.pointer (some ⟨g, 0, none⟩), .int .i64 ((i : Int) + nn)] w9 _ := mBestX w.heap.size g l A n c 65536 _ _ n known4 _ (i + nn) w9 HF9.out HL.out hn hc (by omega) (by omega) (Nat.le_refl _) (by omega) HLo4.out
          have HBe := Lib.hid hbe
          clear hbe
          go_wp2_with fail
          refine HBe.out.mono ?_
          rintro e w5 ⟨⟨nn5, dd5, rfl, hok5⟩, hb5, ht5, head5, known5, ah5, hk5, hf5, hlo5⟩
          have HLo5 := Lib.hid hlo5
          have hn3 : bk A9 ≠ some g := by
            obtain ⟨cs, h1, -⟩ := HF9.out.cells
            exact HSo9.out.ne_blk h1 (by decide)
          have hn4 := HSo9.out.ne_own HF9.out.ahead (by decide)
          have HF5 := Lib.hid hf5
          have HB5 := Lib.hid (HB9.out.trans hb5)
          have HSo5 := Lib.hid (HSo9.out.two ht5 hn3 hn4)
          have HOK5 := Lib.hid hok5
          clear hf5 hb5 ht5 hok5 HBe
          go_wp2
          go_roundg (n - (i + nn))
          case measure => omega
          case rel => exact ⟨A9, mo + 1, c9, L ++ [⟨i - from_, nn, dd⟩], i + nn, i + nn, nn5, dd5, head5, known5, ah5, by go_num, by go_num, rfl, rfl, by go_num, HSo5.out, by omega, HEnd9.out, HFit9.out, by omega, by omega, by omega, HOK5.out, hk5, HLo5.out, by rw [Nat.sub_self]; exact HFd5.out, HF5.out, HB5.out⟩
    · have g1 : decide ((i : Int) < n) = false := decide_eq_false (by omega)
      go_wp2
      go_ret2
      exact ⟨So, mo, co, L, rfl, HSo.out, HFit.out, (findG_end HFd.out (by rw [HL.out]; omega)).symm, HB.out⟩
end Go.Proofs.YtaelgbbnmjbjiaaGreat
namespace Go.Proofs.YtaelgbbnmjbjiaaGreat
open Go.RowKit
theorem wpList_slice_lh {P : Program} {w : World} {ops : Array Oper} {rest : List Oper} {o : Oper} {a : Act} {Q : Exit → Act → World → Prop} (hgd : o.guard = none) (s lo hi : Operand) {t e : TypeId} {z : Value} {bytes : Nat} (E : Elem P t e z bytes)
    (ho : o.op = .slice t s (some lo) (some hi) none) (A : Option Addr) (n c k m : Nat) (hs : a.eval s = .slice A n c) (hlo : a.eval lo = .int .i64 (k : Int)) (hhi : a.eval hi = .int .i64 (m : Int)) (hk : k ≤ m) (hm : m ≤ c)
    (h : wpList P ops Q rest (a.put o.dst (.slice (cutA A c k) (m - k) (c - k))) w) : wpList P ops Q (o :: rest) a w := by
  refine wpList_plain hgd fun K hK => ?_
  obtain ⟨i, hi', -, h1, -⟩ := info_parts E.hi
  have he : P.elem t = e := by simp [Program.elem, E.ht]
  have hrun : (Instr.sliceAt t (.slice A n c) (some (.int .i64 (k : Int))) (some (.int .i64 (m : Int))) none).run P w = .ok (.slice (cutA A c k) (m - k) (c - k)) w := by
    have ht' : P.underlying t = some (.slice (P.elem t)) := by rw [he]; exact E.ht
    rw [run_sliceAt_slice w t _ _ _ _ ht', run_slice_lh w t A n c ht' .i64 .i64 (k : Int) (m : Int) (by omega) (by omega) (by omega), he]
    simp [sizeOf, typeInfo, hi', h1, sliced, cutA, Result.andThen]
  unfold Oper.wp execOp
  simp only [ho, hs, hlo, hhi, hrun, Option.map_some, Option.map_none, Sem.run_bind, Sem.run_pure, Result.andThen_ok]
  exact hK _ _ h
set_option maxHeartbeats 4000000 in
set_option maxRecDepth 10000 in
theorem refBest (A : Option Addr) (n c i : Nat) (l : List UInt8) (w : World) (hl : l.length = n) (hr : Bs w A l) (hn : n ≤ 65535) (hi : i ≤ n) :
    Calls Tryz.prog 38 #[.slice A n c, .int .i64 65536, .int .i64 (i : Int)] w fun e w' => e = .returned (.tuple #[.int .i64 ((bestD l i i).1 : Int), .int .i64 ((bestD l i i).2 : Int)]) ∧ ∃ q, w' = w.drewN q := by
  have HL := Lib.hid hl
  have HR := Lib.hid hr
  clear hl hr
  go_enter Tryz.func38, Tryz.ntmps38
  go_wp2
  go_loopg [8, 9, 10] i (fun gg s8 s9 s10 wr => ∃ L D d q : Nat, d ≤ i ∧ i - d ≤ gg ∧ s8 = .int .i64 (L : Int) ∧ s9 = .int .i64 (D : Int) ∧ s10 = .int .i64 ((d + 1 : Nat) : Int) ∧ (L, D) = bestD l i d ∧ L ≤ 259 ∧ wr = w.drewN q)
  case atStart => exact ⟨0, 0, 0, 0, by omega, by omega, rfl, rfl, rfl, rfl, by omega, rfl⟩
  case round =>
    obtain ⟨L, D, d, q, hd, hgg, rfl, rfl, rfl, hLD, hL, rfl⟩ := hrel
    have HQ := Lib.hid hLD
    clear hLD
    obtain ⟨e, he⟩ : ∃ e, e = d + 1 := ⟨_, rfl⟩
    rw [← he]
    have hde : d < e ∧ e ≤ d + 1 := by omega
    have HE := Lib.hid he
    clear he
    by_cases hdi : e ≤ i
    · have g1 : decide ((e : Int) ≤ 65536) = true := decide_eq_true (by omega)
      have g2 : decide ((e : Int) ≤ (i : Int)) = true := decide_eq_true (by omega)
      go_wp2_with fail
      clear g1 g2
      obtain ⟨w1, hw1⟩ : ∃ w1, w1 = w.drewN q := ⟨_, rfl⟩
      have HW := Lib.hid hw1
      have HRw : Hid (Bs w1 A l) := Lib.hid (by rw [hw1]; exact HR.out.later (below_drewN w q))
      rw [← hw1]
      clear hw1
      obtain ⟨a, ha⟩ : ∃ a, a = i - e := ⟨_, rfl⟩
      have HA := Lib.hid ha
      go_loopg [11] 259 (fun gg s11 wr => ∃ m q : Nat, m ≤ 259 ∧ 259 - m ≤ gg ∧ s11 = .int .i64 (m : Int) ∧ i + m ≤ n ∧ (∀ j, j < m → l.getD (a + j) 0 = l.getD (i + j) 0) ∧ wr = w1.drewN q)
      case atStart => exact ⟨0, 0, by omega, by omega, rfl, by omega, by simp, rfl⟩
      case round =>
        obtain ⟨m, q2, hm, hgm, rfl, him, hsame, rfl⟩ := hrel
        have HS := Lib.hid hsame
        clear hsame
        by_cases h259 : m < 259
        · have g1 : decide ((m : Int) < 259) = true := decide_eq_true (by omega)
          by_cases hbn : i + m < n
          · obtain ⟨bb, o, x, hA, hx, hcx⟩ := HRw.out.at_ (by rw [HL.out]; omega : a + m < l.length)
            obtain ⟨bb2, o2, y, hA2, hy, hcy⟩ := HRw.out.at_ (by rw [HL.out]; omega : i + m < l.length)
            rw [hA] at hA2
            obtain ⟨rfl, rfl⟩ : bb = bb2 ∧ o = o2 := by
              injection hA2 with h; injection h with h1 h2; exact ⟨h1, h2⟩
            subst hA
            have E1 : l.getD (a + m) 0 = x := by simp [List.getD, hx]
            have E2 : l.getD (i + m) 0 = y := by simp [List.getD, hy]
            have HE1 := Lib.hid E1
            have HE2 := Lib.hid E2
            clear hx hy hA2 E1 E2
            have g2 : decide ((i : Int) + m < n) = true := decide_eq_true (by omega)
            have i1 : (0 : Int) ≤ (i : Int) + m := by omega
            have i2 : (0 : Int) ≤ (a : Int) + m := by omega
            have i3 : (a : Int) + m < n := by omega
            have i4 : (i : Int) + m < n := by omega
            have t1 : ((i : Int) + m).toNat = i + m := by omega
            have t2 : ((a : Int) + m).toNat = a + m := by omega
            have e1 : IntKind.i64.wrap ((i : Int) + m) = (i : Int) + m := wrapi64 (by omega) (by omega)
            have e2 : IntKind.i64.wrap ((i : Int) + m - e) = (a : Int) + m := by rw [wrapi64 (by omega) (by omega)]; omega
            clear ha
            go_wp2
            go_quiet (fail)
            clear g1 g2 i1 i2 i3 t1 t2 e1 e2
            by_cases hxy : x = y
            · have hb : ((y.toNat : Int) == x.toNat) = true := by rw [hxy]; simp
              have HS2 := Lib.hid (show ∀ j, j < m + 1 → l.getD (a + j) 0 = l.getD (i + j) 0 from fun j hj => by
                by_cases e : j = m
                · rw [e, HE1.out, HE2.out, hxy]
                · exact HS.out j (by omega))
              clear hxy
              go_wp2
              go_roundg (259 - (m + 1))
              case measure => omega
              case rel => exact ⟨m + 1, _, by omega, by omega, by go_num, by omega, HS2.out, rfl⟩
            · have hb : ((y.toNat : Int) == x.toNat) = false := beq_eq_false_iff_ne.2 (fun e => hxy (UInt8.toNat_inj.1 (by omega)))
              have HM := Lib.hid (sameL_eq ⟨by omega, by rw [HL.out]; omega, HS.out⟩ (.inr (.inr (by rw [HE1.out, HE2.out]; exact hxy))) (by have := HA.out; omega) : m = sameL l a i)
              clear hxy
              have HNx := Lib.hid (show bestD l i e = if 4 ≤ m ∧ L < m then (m, e) else (L, D) by
                rw [HE.out, bestD, ← HQ.out, ← HE.out, ← HA.out, ← HM.out])
              by_cases h4 : 4 ≤ m
              · have g4 : decide ((4 : Int) ≤ m) = true := decide_eq_true (by omega)
                by_cases h5 : L < m
                · have g5 : decide ((L : Int) < m) = true := decide_eq_true (by omega)
                  have HN2 := Lib.hid (show (m, e) = bestD l i e by rw [HNx.out, if_pos ⟨h4, h5⟩])
                  go_wp2
                  go_roundg (i - e)
                  case measure => omega
                  case rel => exact ⟨m, e, e, _, by omega, by omega, rfl, rfl, by go_num, HN2.out, by omega, by rw [HW.out, drewN_add]⟩
                · have g5 : decide ((L : Int) < m) = false := decide_eq_false (by omega)
                  have HN2 := Lib.hid (show (L, D) = bestD l i e by rw [HNx.out, if_neg (fun h => h5 h.2)])
                  go_wp2
                  go_roundg (i - e)
                  case measure => omega
                  case rel => exact ⟨L, D, e, _, by omega, by omega, rfl, rfl, by go_num, HN2.out, by omega, by rw [HW.out, drewN_add]⟩
              · have g4 : decide ((4 : Int) ≤ m) = false := decide_eq_false (by omega)
                have HN2 := Lib.hid (show (L, D) = bestD l i e by rw [HNx.out, if_neg (fun h => h4 h.1)])
                go_wp2
                go_roundg (i - e)
                case measure => omega
                case rel => exact ⟨L, D, e, _, by omega, by omega, rfl, rfl, by go_num, HN2.out, by omega, by rw [HW.out, drewN_add]⟩
          · have g2 : decide ((i : Int) + m < n) = false := decide_eq_false (by omega)
            have e1 : IntKind.i64.wrap ((i : Int) + m) = (i : Int) + m := wrapi64 (by omega) (by omega)
            have HM := Lib.hid (sameL_eq ⟨by omega, by rw [HL.out]; omega, HS.out⟩ (.inr (.inl (by rw [HL.out]; omega))) (by have := HA.out; omega) : m = sameL l a i)
            clear ha
            go_wp2
            go_quiet (fail)
            clear g1 g2 e1
            have HNx := Lib.hid (show bestD l i e = if 4 ≤ m ∧ L < m then (m, e) else (L, D) by
              rw [HE.out, bestD, ← HQ.out, ← HE.out, ← HA.out, ← HM.out])
            by_cases h4 : 4 ≤ m
            · have g4 : decide ((4 : Int) ≤ m) = true := decide_eq_true (by omega)
              by_cases h5 : L < m
              · have g5 : decide ((L : Int) < m) = true := decide_eq_true (by omega)
                have HN2 := Lib.hid (show (m, e) = bestD l i e by rw [HNx.out, if_pos ⟨h4, h5⟩])
                go_wp2
                go_roundg (i - e)
                case measure => omega
                case rel => exact ⟨m, e, e, _, by omega, by omega, rfl, rfl, by go_num, HN2.out, by omega, by rw [HW.out, drewN_add]⟩
              · have g5 : decide ((L : Int) < m) = false := decide_eq_false (by omega)
                have HN2 := Lib.hid (show (L, D) = bestD l i e by rw [HNx.out, if_neg (fun h => h5 h.2)])
                go_wp2
                go_roundg (i - e)
                case measure => omega
                case rel => exact ⟨L, D, e, _, by omega, by omega, rfl, rfl, by go_num, HN2.out, by omega, by rw [HW.out, drewN_add]⟩
            · have g4 : decide ((4 : Int) ≤ m) = false := decide_eq_false (by omega)
              have HN2 := Lib.hid (show (L, D) = bestD l i e by rw [HNx.out, if_neg (fun h => h4 h.1)])
              go_wp2
              go_roundg (i - e)
              case measure => omega
              case rel => exact ⟨L, D, e, _, by omega, by omega, rfl, rfl, by go_num, HN2.out, by omega, by rw [HW.out, drewN_add]⟩
        · have g1 : decide ((m : Int) < 259) = false := decide_eq_false (by omega)
          have HM := Lib.hid (sameL_eq ⟨by omega, by rw [HL.out]; omega, HS.out⟩ (.inl (by omega)) (by have := HA.out; omega) : m = sameL l a i)
          clear ha
          go_wp2
          go_quiet (fail)
          clear g1
          have HNx := Lib.hid (show bestD l i e = if 4 ≤ m ∧ L < m then (m, e) else (L, D) by
            rw [HE.out, bestD, ← HQ.out, ← HE.out, ← HA.out, ← HM.out])
          by_cases h4 : 4 ≤ m
          · have g4 : decide ((4 : Int) ≤ m) = true := decide_eq_true (by omega)
            by_cases h5 : L < m
            · have g5 : decide ((L : Int) < m) = true := decide_eq_true (by omega)
              have HN2 := Lib.hid (show (m, e) = bestD l i e by rw [HNx.out, if_pos ⟨h4, h5⟩])
              go_wp2
              go_roundg (i - e)
              case measure => omega
              case rel => exact ⟨m, e, e, _, by omega, by omega, rfl, rfl, by go_num, HN2.out, by omega, by rw [HW.out, drewN_add]⟩
            · have g5 : decide ((L : Int) < m) = false := decide_eq_false (by omega)
              have HN2 := Lib.hid (show (L, D) = bestD l i e by rw [HNx.out, if_neg (fun h => h5 h.2)])
              go_wp2
              go_roundg (i - e)
              case measure => omega
              case rel => exact ⟨L, D, e, _, by omega, by omega, rfl, rfl, by go_num, HN2.out, by omega, by rw [HW.out, drewN_add]⟩
          · have g4 : decide ((4 : Int) ≤ m) = false := decide_eq_false (by omega)
            have HN2 := Lib.hid (show (L, D) = bestD l i e by rw [HNx.out, if_neg (fun h => h4 h.1)])
            go_wp2
            go_roundg (i - e)
            case measure => omega
            case rel => exact ⟨L, D, e, _, by omega, by omega, rfl, rfl, by go_num, HN2.out, by omega, by rw [HW.out, drewN_add]⟩
    · have hdd : d = i := by omega
      subst hdd
      have g2 : decide ((e : Int) ≤ (d : Int)) = false := decide_eq_false (by omega)
      by_cases h16 : e ≤ 65536
      · have g1 : decide ((e : Int) ≤ 65536) = true := decide_eq_true (by omega)
        go_wp2
        go_ret2
        exact ⟨by rw [← HQ.out]; rfl, q, rfl⟩
      · exfalso; omega
set_option maxHeartbeats 4000000 in
set_option maxRecDepth 10000 in
theorem refFind (A : Option Addr) (n c : Nat) (l : List UInt8) (w : World) (hl : l.length = n) (hr : Bs w A l) (hn : n ≤ 65535) :
    Calls Tryz.prog 17 #[.slice A n c, .int .i64 65536] w fun e w' => ∃ S m cs, e = .returned (.tuple #[.slice S m cs, .int .i64 0]) ∧ OwnS w' w.heap.size S m cs (findL l) ∧ Below w.heap.size w w' := by
  have HL := Lib.hid hl
  have HR := Lib.hid hr
  clear hl hr
  have g0 : decide ((65536 : Int) < (n : Int)) = false := decide_eq_false (by omega)
  go_enter Tryz.func17, Tryz.ntmps17
  go_wp2
  clear g0
  go_loopg [6, 7, 8] n (fun gg s6 s7 s8 wr => ∃ (So : Option Addr) (mo co : Nat) (L : List Sq) (from_ i : Nat), s6 = .slice So mo co ∧ s7 = .int .i64 ((i - from_ : Nat) : Int) ∧ s8 = .int .i64 (i : Int) ∧ OwnS wr w.heap.size So mo co L ∧ mo ≤ i ∧ from_ ≤ i ∧ i ≤ n ∧ n - i ≤ gg ∧ (∃ f, n - i < f ∧ findL l = L ++ findG l f i (i - from_)) ∧ Below w.heap.size w wr)
  case atStart => exact ⟨none, 0, 0, [], 0, 0, rfl, rfl, rfl, OwnS.nil _ _, Nat.le_refl _, Nat.le_refl _, Nat.zero_le _, by omega, ⟨n + 1, by omega, by rw [← HL.out]; rfl⟩, Below.refl _ _⟩
  case round =>
    obtain ⟨So, mo, co, L, from_, i, rfl, rfl, rfl, hso, hmo, hfi, hi, hgg, hfd, hb⟩ := hrel
    have HFd := Lib.hid hfd
    have HSo := Lib.hid hso
    have HB := Lib.hid hb
    clear hso hfd hb
    by_cases hin : i < n
    · have g1 : decide ((i : Int) < n) = true := decide_eq_true (by omega)
      have HBe := Lib.hid (refBest A n c i l wr HL.out (HR.out.later HB.out) hn (by omega))
      obtain ⟨lw, hlw⟩ : ∃ lw, lw = i - from_ := ⟨_, rfl⟩
      rw [← hlw]
      have HLw := Lib.hid hlw
      have hlw9 : lw ≤ 65536 := by omega
      obtain ⟨P1, hP1⟩ : ∃ P, P = bestD l i i := ⟨_, rfl⟩
      have HP1 := Lib.hid hP1
      have hok := bestD_ok l i (by rw [HL.out]; omega) i (Nat.le_refl _)
      rw [← hP1] at HBe hok
      obtain ⟨nn, dd⟩ := P1
      have HOK := Lib.hid hok
      clear hP1 hok hlw
      go_wp2_with fail
      refine HBe.out.mono ?_
      rintro e w4 ⟨rfl, q4, rfl⟩
      have HB4 := Lib.hid (HB.out.trans ((below_drewN wr q4).mono HB.out.size))
      have HSo4 := Lib.hid (HSo.out.later (below_drewN wr q4))
      obtain ⟨w4, hw4⟩ : ∃ w4, w4 = wr.drewN q4 := ⟨_, rfl⟩
      rw [← hw4] at HB4 HSo4 ⊢
      have HBe5 : Hid (Calls Tryz.prog 38 #[.slice A n c, .int .i64 65536, .int .i64 ((i : Int) + 1)] w4 _) := Lib.hid (refBest A n c (i + 1) l w4 HL.out (HR.out.later HB4.out) hn (by omega))
      obtain ⟨P2, hP2⟩ : ∃ P, P = bestD l (i + 1) (i + 1) := ⟨_, rfl⟩
      have HP2 := Lib.hid hP2
      rw [← hP2] at HBe5
      obtain ⟨nn2, dd2⟩ := P2
      clear hw4 hP2 HBe HSo HB
      go_wp2_with fail
      refine HBe5.out.mono ?_
      rintro e w5 ⟨rfl, q5, rfl⟩
      have HB5 := Lib.hid (HB4.out.trans ((below_drewN w4 q5).mono HB4.out.size))
      have HSo5 := Lib.hid (HSo4.out.later (below_drewN w4 q5))
      obtain ⟨w5, hw5⟩ : ∃ w5, w5 = w4.drewN q5 := ⟨_, rfl⟩
      rw [← hw5] at HB5 HSo5 ⊢
      clear hw5 HBe5 HSo4 HB4
      simp only
      by_cases h0 : nn = 0
      · subst h0
        have HFd4 := Lib.hid (findG_skip HFd.out (by rw [HL.out]; omega) hfi (.inl (by rw [← HP1.out])) : ∃ f, n - (i + 1) < f ∧ findL l = L ++ findG l f (i + 1) (i + 1 - from_))
        go_wp2
        go_roundg (n - (i + 1))
        case measure => omega
        case rel => exact ⟨So, mo, co, L, from_, i + 1, rfl, by have := HLw.out; go_num, by go_num, HSo5.out, by omega, by omega, by omega, by omega, HFd4.out, HB5.out⟩
      · have g2 : ((nn : Int) == 0) = false := beq_eq_false_iff_ne.2 (by omega)
        by_cases hm : nn < nn2
        · have g3 : decide ((nn : Int) < nn2) = true := decide_eq_true (by omega)
          have HFd4 := Lib.hid (findG_skip HFd.out (by rw [HL.out]; omega) hfi (.inr (by rw [← HP1.out, ← HP2.out]; exact hm)) : ∃ f, n - (i + 1) < f ∧ findL l = L ++ findG l f (i + 1) (i + 1 - from_))
          go_wp2
          go_roundg (n - (i + 1))
          case measure => omega
          case rel => exact ⟨So, mo, co, L, from_, i + 1, rfl, by have := HLw.out; go_num, by go_num, HSo5.out, by omega, by omega, by omega, by omega, HFd4.out, HB5.out⟩
        · have g3 : decide ((nn : Int) < nn2) = false := decide_eq_false (by omega)
          have HFd5 := Lib.hid (findG_take HFd.out (by rw [HL.out]; omega) (by rw [← HP1.out, ← HP2.out]; exact fun h => h.elim h0 hm) HP1.out (by omega) : ∃ f, n - (i + nn) < f ∧ findL l = (L ++ [⟨i - from_, nn, dd⟩]) ++ findG l f (i + nn) 0)
          have hi2 : nn ≤ 259 ∧ i + nn ≤ n ∧ 4 ≤ nn := by
            have h := HOK.out.resolve_left (fun h => h0 h.1)
            exact ⟨h.2.1, by have := h.2.2.1; rw [HL.out] at this; exact this, h.1⟩
          clear h0
          have hmo9 : mo ≤ 1000000000 := by omega
          go_wp2_with (at_builtin; go_loud (refine wpList_append_sq rfl _ _ rfl w.heap.size So mo co L w5 ⟨lw, nn, dd⟩ ?hw ?hs HSo5.out ?hx ?hb ?hbase ?_; (case hs => simp [Act.eval]); (case hx => simp [Act.eval])))
          case hw => rfl
          case hb => exact hmo9
          case hbase => exact HB5.out.size
          intro A9 c9 w9 hown9 hg9
          have HB9 := Lib.hid (HB5.out.grown hg9 HB5.out.size (fun k hk => (HSo5.out.lt hk).1))
          have HSo9 := Lib.hid (show OwnS w9 w.heap.size A9 (mo + 1) c9 (L ++ [⟨i - from_, nn, dd⟩]) by rw [← HLw.out]; exact hown9)
          clear hown9 hg9
          go_wp2
          go_roundg (n - (i + nn))
          case measure => omega
          case rel => exact ⟨A9, mo + 1, c9, L ++ [⟨i - from_, nn, dd⟩], i + nn, i + nn, by go_num, by rw [Nat.sub_self]; rfl, by go_num, HSo9.out, by omega, by omega, by omega, by omega, by rw [Nat.sub_self]; exact HFd5.out, HB9.out⟩
    · have g1 : decide ((i : Int) < n) = false := decide_eq_false (by omega)
      have HE := Lib.hid (findG_end HFd.out (by rw [HL.out]; omega) : findL l = L)
      go_wp2
      go_ret2
      exact ⟨So, mo, co, rfl, by rw [HE.out]; exact HSo.out, HB.out⟩
end Go.Proofs.YtaelgbbnmjbjiaaGreat
namespace Go.Proofs.YtaelgbbnmjbjiaaGreat
open Go.RowKit
theorem wpList_slice_lh2 {P : Program} {w : World} {ops : Array Oper} {rest : List Oper} {o : Oper} {a : Act} {Q : Exit → Act → World → Prop} (hgd : o.guard = none) (s lo hi : Operand) {t e : TypeId} {z : Value} {bytes : Nat} (E : Elem P t e z bytes)
    (ho : o.op = .slice t s (some lo) (some hi) none) (A : Option Addr) (n c k m : Nat) (M : Int) (hs : a.eval s = .slice A n c) (hlo : a.eval lo = .int .i64 (k : Int)) (hhi : a.eval hi = .int .i64 M) (hM : M = (m : Int)) (hk : k ≤ m) (hm : m ≤ c) (d : Nat) (hd : d = m - k)
    (h : wpList P ops Q rest (a.put o.dst (.slice (cutA A c k) d (c - k))) w) : wpList P ops Q (o :: rest) a w := by
  subst hM
  subst hd
  exact wpList_slice_lh hgd s lo hi E ho A n c k m hs hlo hhi hk hm h
set_option maxHeartbeats 8000000 in
set_option maxRecDepth 10000 in
theorem refLits (A : Option Addr) (n c : Nat) (data : List UInt8) (A2 : Option Addr) (n2 c2 : Nat) (l : List Sq) (w : World) (hl : data.length = n) (hr : Bs w A data) (hn : n ≤ 65536) (hc : n ≤ c) (hc2 : c ≤ 9223372036854775807)
    (hl2 : l.length = n2) (hr2 : Ss w A2 l) (hn2 : n2 ≤ 1000000000) (hfit : fitsN n l) :
    Calls Tryz.prog 18 #[.slice A n c, .slice A2 n2 c2] w fun e w' => ∃ S m cs, e = .returned (.tuple #[.slice S m cs, .int .i64 0]) ∧ OwnB w' w.heap.size S m cs (litsL data l) ∧ Below w.heap.size w w' := by
  have HR2 := Lib.hid hr2
  have HL2 := Lib.hid hl2
  have HR := Lib.hid hr
  have HL := Lib.hid hl
  have HFit0 := Lib.hid hfit
  clear hr2 hl2 hr hl hfit
  go_enter Tryz.func18, Tryz.ntmps18
  go_wp2
  go_loopg [6, 7, 8] n2 (fun gg s6 s7 s8 wr => ∃ (k no co at_ : Nat) (Ao : Option Addr) (out : List UInt8), k ≤ n2 ∧ n2 - k ≤ gg ∧ s6 = .slice Ao no co ∧ s7 = .int .i64 (at_ : Int) ∧ s8 = .int .i64 (k : Int) ∧ at_ ≤ n ∧ no ≤ at_ ∧ OwnB wr w.heap.size Ao no co out ∧
    fitsN (n - at_) (l.drop k) ∧ litsL data l = out ++ litsL (data.drop at_) (l.drop k) ∧ Below w.heap.size w wr)
  case atStart => exact ⟨0, 0, 0, 0, none, [], by omega, by omega, rfl, rfl, rfl, by omega, by omega, OwnB.nil _ _, HFit0.out, rfl, Below.refl _ _⟩
  case round =>
    clear HFit0
    obtain ⟨k, no, co, at_, Ao, out, hk, hgg, rfl, rfl, rfl, hat, hno, hown, hfit, hrun, hbel⟩ := hrel
    have HO := Lib.hid hown
    have HRun := Lib.hid hrun
    have HB := Lib.hid hbel
    have HFit := Lib.hid hfit
    clear hown hrun hbel hfit
    by_cases hkn : k < n2
    · obtain ⟨b, o, x, hA, hx, c0, c1, c2⟩ := (HR2.out.later HB.out).at_ (by rw [HL2.out]; exact hkn : k < l.length)
      subst hA
      have hds := drop_step hx
      have hfx := HFit.out
      rw [hds] at hfx
      have hrx := HRun.out
      rw [hds, litsL, ← List.append_assoc, List.drop_drop] at hrx
      obtain ⟨x1, x2, x3⟩ := x
      simp only at c0 c1 c2 hfx hrx
      have hx12 : x1 + x2 ≤ n - at_ := hfx.1
      have HFx := Lib.hid hfx.2
      have HRx := Lib.hid hrx
      have HP := Lib.hid (Blk.new wr 52 #[.int .i64 (x1 : Int), .int .i64 (x2 : Int), .int .i64 (x3 : Int)])
      have HBA := Lib.hid (HB.out.alloc HB.out.size (.cells #[.int .i64 (x1 : Int), .int .i64 (x2 : Int), .int .i64 (x3 : Int)] 52))
      have HOA := Lib.hid (Own.alloc HO.out (.cells #[.int .i64 (x1 : Int), .int .i64 (x2 : Int), .int .i64 (x3 : Int)] 52))
      have HC := Lib.hid (Bs.take x1 (Bs.cut (c := c) HR.out (n := at_) (by rw [HL.out]; exact hat) (by rw [HL.out]; exact hc)))
      have HCl := Lib.hid (show ((data.drop at_).take x1).length = x1 by rw [List.length_take, List.length_drop, HL.out]; omega)
      have i1 : (x1 : Int) ≤ (n : Int) - at_ := by omega
      have i2 : (x2 : Int) ≤ (n : Int) - at_ - x1 := by omega
      have i3 : (at_ : Int) + x1 = ((at_ + x1 : Nat) : Int) := by omega
      clear hx hds hfx hrx HFit HRun i3
      obtain ⟨tk, htk⟩ : ∃ tk, tk = (data.drop at_).take x1 := ⟨_, rfl⟩
      rw [← htk] at HC HCl HRx
      clear htk
      go_wp2_with (first | (at_builtin; refine wpList_append_rd rfl _ _ elemB rfl w.heap.size Ao no co (out.map u8v) rfl HOA.out (cutA A c at_) x1 (c - at_) (tk.map u8v) rfl ?a1 ?a2 (u8_one _) ?a3 ?a4 ?a5 ?_) | (with_reducible refine wpList_slice_lh2 ?g ?s ?lo ?h elemB ?ho A n c at_ (at_ + x1) ((at_ : Int) + x1) ?hs ?hl ?hh ?hM ?hk ?hm x1 ?hd ?_; (case ho => exact rfl); (case g => exact rfl); (case hs => simp [Act.eval]); (case hl => simp [Act.eval]); (case hh => simp [Act.eval]); (case hM => omega); (case hk => omega); (case hm => omega); (case hd => omega)))
      case a1 => exact HC.out.later HBA.out
      case a2 => first | exact HCl.out | (rw [List.length_map]; exact HCl.out)
      case a3 => omega
      case a4 => omega
      case a5 => have := HB.out.size; omega
      intro A' c' w2 hown2 hb2 hgr2 hat2
      have HO2 := Lib.hid (by unfold OwnB; rw [List.map_append]; exact hown2 : OwnB w2 w.heap.size A' (no + x1) c' (out ++ tk))
      have HP2 := Lib.hid (HP.out.kept hgr2 (Own.ne_blk HOA.out HP.out (by decide)))
      have HB2 := Lib.hid (HBA.out.trans hb2)
      clear hown2 hb2 hgr2 hat2 HOA HP HBA c0 c1 c2 HO HB
      obtain ⟨pb, hpb⟩ : ∃ pb, pb = wr.heap.size := ⟨_, rfl⟩
      rw [← hpb] at HP2 ⊢
      clear hpb
      have p0 := HP2.out.cell 0
      have p1 := HP2.out.cell 1
      simp only [List.getElem?_toArray, List.getElem?_cons_zero, List.getElem?_cons_succ] at p0 p1
      have HF2 := Lib.hid (show fitsN (n - (at_ + x1 + x2)) (l.drop (k + 1)) by
        have h := HFx.out
        rwa [show n - at_ - (x1 + x2) = n - (at_ + x1 + x2) by omega] at h)
      have HR2x := Lib.hid (show litsL data l = (out ++ tk) ++ litsL (data.drop (at_ + x1 + x2)) (l.drop (k + 1)) by
        have h := HRx.out
        rwa [show at_ + (x1 + x2) = at_ + x1 + x2 by omega] at h)
      clear HFx HRx
      go_wp2
      go_roundg (n2 - (k + 1))
      case measure => omega
      case rel => exact ⟨k + 1, no + x1, c', at_ + x1 + x2, A', out ++ tk, by omega, by omega, rfl, by go_num, by go_num, by omega, by omega, HO2.out, HF2.out, HR2x.out, HB2.out⟩
    · obtain rfl : k = n2 := by omega
      have HD := Lib.hid (by rw [HRun.out, List.drop_of_length_le (l := l) (by rw [HL2.out]; exact Nat.le_refl _), litsL] : litsL data l = out ++ data.drop at_)
      have HC := Lib.hid (Bs.cut (c := c) HR.out (n := at_) (by rw [HL.out]; exact hat) (by rw [HL.out]; exact hc))
      have HCl := Lib.hid (show (data.drop at_).length = n - at_ by rw [List.length_drop, HL.out])
      go_wp2_with (first | (at_builtin; refine wpList_append_rd rfl _ _ elemB rfl w.heap.size Ao no co (out.map u8v) rfl HO.out (cutA A c at_) (n - at_) (c - at_) ((data.drop at_).map u8v) rfl ?a1 ?a2 (u8_one _) ?a3 ?a4 ?a5 ?_) | (with_reducible refine wpList_slice_lo ?g2 ?s2 ?h2 elemB ?ho2 A n c at_ ?hs2 ?hh2 ?hk2 ?_; (case ho2 => exact rfl); (case g2 => exact rfl); (case hs2 => simp [Act.eval]); (case hh2 => simp [Act.eval]); (case hk2 => omega)))
      case a1 => exact HC.out.later HB.out
      case a2 => first | exact HCl.out | (rw [List.length_map]; exact HCl.out)
      case a3 => omega
      case a4 => omega
      case a5 => exact HB.out.size
      intro A' c' w2 hown2 hb2 hgr2 hat2
      have HO2 := Lib.hid (by unfold OwnB; rw [HD.out, List.map_append]; (first | exact hown2 | (rw [List.map_drop]; exact hown2)) : OwnB w2 w.heap.size A' (no + (n - at_)) c' (litsL data l))
      have HB2 := Lib.hid (HB.out.trans hb2)
      clear hown2 hb2 hgr2 hat2
      go_wp2
      go_ret2
      exact ⟨A', no + (n - at_), c', rfl, HO2.out, HB2.out⟩
end Go.Proofs.YtaelgbbnmjbjiaaGreat
namespace Go.Proofs.YtaelgbbnmjbjiaaGreat
open Go.RowKit
set_option maxHeartbeats 4000000 in
set_option maxRecDepth 10000 in
theorem packCodedX (A : Option Addr) (n c : Nat) (l : List UInt8) (w : World) (hl : l.length = n) (hr : Bs w A l) (hn0 : 0 < n) (hn : n ≤ 65536) :
    Calls Tryz.prog 34 #[.slice A n c] w fun e w' => ∃ S m cs lens, e = .returned (.tuple #[.slice S m cs, .bool true]) ∧ OwnB w' w.heap.size S m cs (1 :: tableB lens ++ numB 5 (bodyB lens l).length ++ bodyB lens l) ∧ LensOk (cntB l) lens ∧ LensX (cntB l) lens ∧ Below w.heap.size w w' := by
  have HL := Lib.hid hl
  have HR := Lib.hid hr
  clear hl hr
  obtain ⟨ti, hi, hz0, hz1, hz2⟩ := info_parts elemN_info
  go_enter Tryz.func34, Tryz.ntmps34
  go_wp2_with (at_make; refine wpList_make_full _ rfl _ _ 45 rfl w.heap.size 3 ti _ 1 Tryz.underlying45 hi hz0 hz1 .i64 .i64 256 256 256 rfl rfl rfl rfl (by rw [hz2]; omega) (by unfold maxLen; omega) (Nat.le_refl _) ?_)
  intro w1 hown1 hg1
  rw [made_zeros] at hown1
  have HO1 := Lib.hid (show OwnN w1 w.heap.size (some ⟨w.heap.size, 0, none⟩) 256 256 (cntTo l 0) from hown1)
  have HB1 := Lib.hid ((Below.refl _ _).grown hg1 (Nat.le_refl _) (fun k hk => by cases hk) : Below w.heap.size w w1)
  clear hown1 hg1 hi hz0 hz1 hz2
  go_wp2_with fail
  go_loopg [18] n (fun gg s5 wr => ∃ k : Nat, k ≤ n ∧ n - k ≤ gg ∧ s5 = .int .i64 (k : Int) ∧ OwnN wr w.heap.size (some ⟨w.heap.size, 0, none⟩) 256 256 (cntTo l k) ∧ Below w.heap.size w wr)
  case atStart => exact ⟨0, by omega, by omega, rfl, HO1.out, HB1.out⟩
  case round =>
    clear HO1 HB1
    obtain ⟨k, hk, hgg, rfl, hown, hbel⟩ := hrel
    have HO := Lib.hid hown
    have HB := Lib.hid hbel
    clear hown hbel
    by_cases hkn : k < n
    · obtain ⟨b, o, x, hA, hx, hc⟩ := HR.out.at_ (by rw [HL.out]; exact hkn : k < l.length)
      subst hA
      have hc2 := (HB.out.cell (by simpa using block_lt hc)).trans hc
      have HSt := Lib.hid (cntTo_step hx)
      have hxl := x.toNat_lt
      obtain ⟨gz, xz, hgz, hg1, -, hxz, hcz, hfz⟩ := Own.at_ HO.out (k := x.toNat) hxl
      cases hgz
      obtain ⟨v, hv⟩ : ∃ v, v = (cntTo l k).getD x.toNat 0 := ⟨_, rfl⟩
      have hvk : v ≤ k := by rw [hv]; exact cntTo_le l k _
      have hxv : xz = .int .i64 (v : Int) := by
        rw [List.getElem?_map] at hxz
        rw [hv, List.getD]
        cases hq : (cntTo l k)[x.toNat]? with
        | none => rw [hq] at hxz; cases hxz
        | some q => rw [hq] at hxz; exact (Option.some.inj hxz).symm
      subst hxv
      have HO2 := Lib.hid (show OwnN (wr.setCell ⟨w.heap.size, x.toNat, none⟩ (.int .i64 ((v : Int) + 1))) w.heap.size (some ⟨w.heap.size, 0, none⟩) 256 256 (cntTo l (k + 1)) from by
        have h := (Own.stored HO.out x.toNat (natv (v + 1))).1
        rw [← List.map_set, hv, ← HSt.out] at h
        have e : natv (v + 1) = .int .i64 ((v : Int) + 1) := by unfold natv; rw [Int.natCast_add]; rfl
        rw [← hv, e] at h
        exact h)
      have HB2 := Lib.hid (HB.out.setCell (p := ⟨w.heap.size, x.toNat, none⟩) hg1 (.int .i64 ((v : Int) + 1)))
      have i1 : (0 : Int) ≤ (x.toNat : Int) := by omega
      have i2 : (x.toNat : Int) < 256 := by omega
      clear hx hc hxz hv HSt
      go_wp2
      go_roundg (n - (k + 1))
      case measure => omega
      case rel => exact ⟨k + 1, by omega, by omega, by go_num, HO2.out, HB2.out⟩
    · obtain rfl : k = n := by omega
      have HO2 := Lib.hid (show OwnN wr w.heap.size (some ⟨w.heap.size, 0, none⟩) 256 256 (cntB l) from by
        have h := HO.out
        rw [cntTo_all HL.out.symm] at h; exact h)
      have HLn := Lib.hid (huffLensX (some ⟨w.heap.size, 0, none⟩) 256 256 (cntB l) wr (cntB_len l) (OwnN.ns HO2.out) (by omega) (by omega) (fun x hx => by have := cntB_le hx; have := HL.out; omega) (by
        obtain ⟨b, hb⟩ : ∃ b, b ∈ l := by
          cases hq : l with
          | nil => have h := HL.out; rw [hq] at h; simp at h; omega
          | cons b r => exact ⟨b, List.mem_cons_self⟩
        exact ⟨b.toNat, cntB_pos hb⟩))
      clear HO
      go_wp2_with fail
      refine HLn.out.mono ?_
      rintro e w3 ⟨S3, m3, c3, lens, rfl, hown3, hlens, hlx, hb3⟩
      have hm3 := OwnN.length hown3
      have HO3 := Lib.hid hown3
      have HLens := Lib.hid hlens
      have HLX := Lib.hid hlx
      have HB3 := Lib.hid (HB.out.trans (hb3.mono HB.out.size))
      have HPT := Lib.hid (huffPutTable S3 m3 c3 lens w3 hm3 (OwnN.ns hown3) hlens.may)
      have h11 := (mayL_facts hlens.may).2.2
      have hbl := body_len h11 l
      have H11 := Lib.hid h11
      clear hown3 hlens hlx hb3 HLn HO2 HB h11
      go_wp2_with fail
      refine HPT.out.mono ?_
      rintro e w4 ⟨S4, m4, c4, rfl, hown4, hb4⟩
      have HO4 := Lib.hid hown4
      have HB4 := Lib.hid (HB3.out.trans (hb4.mono HB3.out.size))
      have HEn := Lib.hid (huffEncode S3 m3 c3 lens A k c l w4 hm3 ((OwnN.ns HO3.out).later hb4) HLens.out.may HL.out (HR.out.later HB4.out) (by omega) (fun b hb => by rw [← hm3]; exact HLens.out.pos _ (cntB_pos hb)))
      clear hown4 hb4 HPT HB3
      go_wp2_with fail
      refine HEn.out.mono ?_
      rintro e w5 ⟨S5, m5, c5, rfl, hown5, hb5⟩
      have HO5 := Lib.hid hown5
      have HT5 := Lib.hid (Own.later HO4.out hb5)
      have HB5 := Lib.hid (HB4.out.trans (hb5.mono HB4.out.size))
      have hm5 := OwnB.length hown5
      have hm4 := OwnB.length HO4.out
      clear hown5 hb5 HEn HB4
      have htl := table_len HLens.out.may
      rw [hm4] at htl
      rw [hm5] at hbl
      obtain ⟨tb, htb⟩ : ∃ tb, tb = tableB lens := ⟨_, rfl⟩
      obtain ⟨bd, hbd⟩ : ∃ bd, bd = bodyB lens l := ⟨_, rfl⟩
      have HTb := Lib.hid htb
      have HBd := Lib.hid hbd
      rw [← htb] at HT5 hm4
      rw [← hbd] at HO5 hm5
      have hln := HL.out
      clear htb hbd HO4 HO3 H11
      go_wp2_with (at_builtin; refine wpList_append_rd rfl _ _ elemB rfl w5.heap.size (some ⟨w5.heap.size, 0, none⟩) 1 1 [.int .u8 1] rfl (Own.fresh w5 5 [.int .u8 1] 1 rfl) S4 m4 c4 (tb.map u8v) rfl ?a1 ?a2 (u8_one _) ?a3 ?a4 ?a5 ?_)
      case a1 => exact Rd.alloc (Own.rd HT5.out) _
      case a2 => rw [List.length_map]; exact hm4
      case a3 => omega
      case a4 => omega
      case a5 => simp
      intro A6 c6 w6 hown6 hb6 hg6 hat6
      have hba := (Below.refl w5.heap.size w5).alloc (Nat.le_refl _) (.cells #[.int .u8 1] 5)
      have hb56 : Below w5.heap.size w5 w6 := hba.trans hb6
      have HO6 := Lib.hid (show OwnB w6 w5.heap.size A6 (1 + m4) c6 (1 :: tb) from hown6)
      have HB6 := Lib.hid (HB5.out.trans (hb56.mono HB5.out.size))
      have HBd6 := Lib.hid (Own.later HO5.out hb56)
      have HPN := Lib.hid (putNum A6 (1 + m4) c6 (1 :: tb) m5 w6 (OwnB.length hown6) (OwnB.bs hown6) (by omega) (by omega))
      clear hown6 hb6 hg6 hat6 hba HT5 HO5 hb56
      go_wp2_with fail
      refine HPN.out.mono ?_
      rintro e w7 ⟨A7, m7, c7, rfl, hown7, hb7⟩
      have hm7 := OwnB.length hown7
      have hnb := numB_len 5 m5
      rw [List.length_append, List.length_cons] at hm7
      have HO7 := Lib.hid hown7
      have HB7 := Lib.hid (HB6.out.trans (hb7.mono HB6.out.size))
      have HBd7 := Lib.hid (Own.later HBd6.out hb7)
      have hs6 := HB6.out.size
      clear hown7 hb7 HPN HO6 HBd6 HB6
      go_wp2_with (at_builtin; refine wpList_append_rd rfl _ _ elemB rfl w.heap.size A7 m7 c7 ((1 :: tb ++ numB 5 m5).map u8v) rfl (Own.mono HO7.out hs6) S5 m5 c5 (bd.map u8v) rfl ?a1 ?a2 (u8_one _) ?a3 ?a4 ?a5 ?_)
      case a1 => exact Own.rd HBd7.out
      case a2 => rw [List.length_map]; exact hm5
      case a3 => omega
      case a4 => omega
      case a5 => exact HB7.out.size
      intro A8 c8 w8 hown8 hb8 hg8 hat8
      have HO8 := Lib.hid (show OwnB w8 w.heap.size A8 (m7 + m5) c8 (1 :: tb ++ numB 5 m5 ++ bd) from by unfold OwnB; simp only [List.map_append, List.map_cons, List.cons_append, List.append_assoc] at hown8 ⊢; exact hown8)
      have HB8 := Lib.hid (HB7.out.trans hb8)
      clear hown8 hb8 hg8 hat8
      go_wp2
      go_ret2
      refine ⟨A8, m7 + m5, c8, lens, rfl, ?_, HLens.out, HLX.out, HB8.out⟩
      rw [← HTb.out, ← HBd.out, hm5]
      exact HO8.out
end Go.Proofs.YtaelgbbnmjbjiaaGreat
namespace Go.Proofs.YtaelgbbnmjbjiaaGreat
open Go.RowKit
def codedB (lens : List Nat) (l : List UInt8) : List UInt8 := 1 :: tableB lens ++ numB 5 (bodyB lens l).length ++ bodyB lens l
def LitsX (l B : List UInt8) : Prop := ∃ lens, LensOk (cntB l) lens ∧ LensX (cntB l) lens ∧ B = numB 5 l.length ++ (if (codedB lens l).length < 1 + l.length then codedB lens l else 0 :: l)
set_option maxHeartbeats 4000000 in
set_option maxRecDepth 10000 in
theorem packLiteralsX (A0 : Option Addr) (n0 c0 : Nat) (out : List UInt8) (A : Option Addr) (n c : Nat) (l : List UInt8) (w : World) (h0 : out.length = n0) (hr0 : Bs w A0 out) (hn0 : n0 ≤ 1000) (hl : l.length = n) (hr : Bs w A l) (hp : 0 < n) (hn : n ≤ 65536) :
    Calls Tryz.prog 14 #[.slice A0 n0 c0, .slice A n c] w fun e w' => ∃ S m cs B, e = .returned (.slice S m cs) ∧ OwnB w' w.heap.size S m cs (out ++ B) ∧ LitsX l B ∧ Below w.heap.size w w' := by
  have HPN := Lib.hid (putNum A0 n0 c0 out n w h0 hr0 (by omega) (by omega))
  have H0 := Lib.hid h0
  have HL := Lib.hid hl
  have HR := Lib.hid hr
  clear h0 hr0 hl hr
  go_enter Tryz.func14, Tryz.ntmps14
  go_wp2_with fail
  refine HPN.out.mono ?_
  rintro e w1 ⟨A1, m1, c1, rfl, hown1, hb1⟩
  have hm1 := OwnB.length hown1
  have hnb := numB_len 5 n
  rw [List.length_append, H0.out] at hm1
  have HO1 := Lib.hid hown1
  have HB1 := Lib.hid hb1
  clear hown1 hb1 HPN
  go_wp2_with (at_builtin; refine wpList_append_rd rfl _ _ elemB rfl w1.heap.size (some ⟨w1.heap.size, 0, none⟩) 1 1 [.int .u8 0] rfl (Own.fresh w1 5 [.int .u8 0] 1 rfl) A n c (l.map u8v) rfl ?a1 ?a2 (u8_one _) ?a3 ?a4 ?a5 ?_)
  case a1 => exact Rd.alloc (HR.out.later HB1.out) _
  case a2 => rw [List.length_map]; exact HL.out
  case a3 => omega
  case a4 => omega
  case a5 => simp
  intro A2 c2 w2 hown2 hb2 hg2 hat2
  have hb12 := ((Below.refl w1.heap.size w1).alloc (Nat.le_refl _) (.cells #[.int .u8 0] 5)).trans hb2
  have HB12 := Lib.hid hb12
  have HB2 := Lib.hid (HB1.out.trans (hb12.mono HB1.out.size))
  have HO2 := Lib.hid (show OwnB w2 w1.heap.size A2 (1 + n) c2 (0 :: l) from hown2)
  have HO12 := Lib.hid (Own.later HO1.out hb12)
  have HC := Lib.hid (packCodedX A n c l w2 HL.out (HR.out.later HB2.out) hp hn)
  clear hown2 hb2 hg2 hat2 hb12
  go_wp2_with fail
  refine HC.out.mono ?_
  rintro e w3 ⟨A3, m3, c3, lens, rfl, hown3, hlens, hlx, hb3⟩
  have HB3 := Lib.hid (HB2.out.trans (hb3.mono HB2.out.size))
  have HO3 := Lib.hid hown3
  have HLens := Lib.hid hlens
  have HLX := Lib.hid hlx
  have HP3 := Lib.hid (Own.later HO2.out hb3)
  have HQ3 := Lib.hid (Own.later HO12.out hb3)
  clear hown3 hlens hlx hb3 HC HO2 HO12
  have hs3 := HB3.out.size
  obtain ⟨cd, hcd⟩ : ∃ cd, cd = codedB lens l := ⟨_, rfl⟩
  have HCd := Lib.hid hcd
  rw [show (1 :: tableB lens ++ numB 5 (bodyB lens l).length ++ bodyB lens l) = cd from by rw [hcd]; rfl] at HO3
  clear hcd
  have hm3 := OwnB.length HO3.out
  by_cases hlt : m3 < 1 + n
  · have g1 : decide ((m3 : Int) < ((1 + n : Nat) : Int)) = true := decide_eq_true (by omega)
    go_wp2_with (at_builtin; refine wpList_append_rd rfl _ _ elemB rfl w.heap.size A1 m1 c1 ((out ++ numB 5 n).map u8v) rfl HQ3.out A3 m3 c3 (cd.map u8v) rfl ?a1 ?a2 (u8_one _) ?a3 ?a4 ?a5 ?_)
    case a1 => exact Own.rd HO3.out
    case a2 => rw [List.length_map]; exact hm3
    case a3 => omega
    case a4 => omega
    case a5 => exact hs3
    intro A4 c4 w4 hown4 hb4 hg4 hat4
    have HO4 := Lib.hid (show OwnB w4 w.heap.size A4 (m1 + m3) c4 (out ++ numB 5 n ++ cd) from by unfold OwnB; simp only [List.map_append, List.map_cons, List.cons_append, List.append_assoc] at hown4 ⊢; exact hown4)
    have HB4 := Lib.hid (HB3.out.trans hb4)
    clear hown4 hb4 hg4 hat4
    go_wp2
    go_ret
    refine ⟨A4, m1 + m3, c4, numB 5 n ++ cd, rfl, ?_, ⟨lens, HLens.out, HLX.out, ?_⟩, HB4.out⟩
    · rw [← List.append_assoc]; exact HO4.out
    · rw [← HCd.out, if_pos (by rw [hm3, HL.out]; exact hlt), HL.out]
  · have g1 : decide ((m3 : Int) < ((1 + n : Nat) : Int)) = false := decide_eq_false (by omega)
    go_wp2_with (at_builtin; refine wpList_append_rd rfl _ _ elemB rfl w.heap.size A1 m1 c1 ((out ++ numB 5 n).map u8v) rfl HQ3.out A2 (1 + n) c2 ((0 :: l).map u8v) rfl ?a1 ?a2 (u8_one _) ?a3 ?a4 ?a5 ?_)
    case a1 => exact Own.rd HP3.out
    case a2 => rw [List.length_map, List.length_cons, HL.out]; omega
    case a3 => omega
    case a4 => omega
    case a5 => exact hs3
    intro A4 c4 w4 hown4 hb4 hg4 hat4
    have HO4 := Lib.hid (show OwnB w4 w.heap.size A4 (m1 + (1 + n)) c4 (out ++ numB 5 n ++ (0 :: l)) from by unfold OwnB; simp only [List.map_append, List.map_cons, List.cons_append, List.append_assoc] at hown4 ⊢; exact hown4)
    have HB4 := Lib.hid (HB3.out.trans hb4)
    clear hown4 hb4 hg4 hat4
    go_wp2
    go_ret
    refine ⟨A4, m1 + (1 + n), c4, numB 5 n ++ 0 :: l, rfl, ?_, ⟨lens, HLens.out, HLX.out, ?_⟩, HB4.out⟩
    · rw [← List.append_assoc]; exact HO4.out
    · rw [← HCd.out, if_neg (by rw [hm3, HL.out]; exact hlt), HL.out]
end Go.Proofs.YtaelgbbnmjbjiaaGreat
namespace Go.Proofs.YtaelgbbnmjbjiaaGreat
open Go.RowKit
def StrX (k : Nat) (L : List Sq) (B : List UInt8) : Prop :=
  ∃ sh, ShareOk (incT (List.replicate 17 0) (L.map (symQ k))) sh ∧ ShareX (incT (List.replicate 17 0) (L.map (symQ k))) sh ∧ B = shareB sh ++ (numB 5 (encodeL sh (L.map (symQ k))).length ++ encodeL sh (L.map (symQ k)))
def strsX : Nat → List Sq → List UInt8 → Prop
  | 0, _, B => B = []
  | k + 1, L, B => ∃ B1 b, strsX k L B1 ∧ StrX k L b ∧ B = B1 ++ b
def StepsX (L : List Sq) (B : List UInt8) : Prop :=
  (L = [] ∧ B = numB 5 0) ∨ (L ≠ [] ∧ ∃ b0 b1 b2, StrX 0 L b0 ∧ StrX 1 L b1 ∧ StrX 2 L b2 ∧ B = numB 5 L.length ++ (b0 ++ (b1 ++ (b2 ++ (numB 5 (restB L).length ++ restB L)))))
set_option maxHeartbeats 8000000 in
set_option maxRecDepth 10000 in
theorem packStepsX (A0 : Option Addr) (n0 c0 : Nat) (out : List UInt8) (A : Option Addr) (n c : Nat) (L : List Sq) (w : World) (h0 : out.length = n0) (hr0 : Bs w A0 out) (hn0 : n0 ≤ 400000) (hl : L.length = n) (hr : Ss w A L) (hq : ∀ x ∈ L, SmallQ x) (hn : n ≤ 65536) :
    Calls Tryz.prog 13 #[.slice A0 n0 c0, .slice A n c] w fun e w' => ∃ S m cs B, e = .returned (.slice S m cs) ∧ OwnB w' w.heap.size S m cs (out ++ B) ∧ StepsX L B ∧ Below w.heap.size w w' := by
  have HPN := Lib.hid (putNum A0 n0 c0 out n w h0 hr0 (by omega) (by omega))
  have H0 := Lib.hid h0
  have HL := Lib.hid hl
  have HR := Lib.hid hr
  have HQ := Lib.hid hq
  clear h0 hr0 hl hr hq
  go_enter Tryz.func13, Tryz.ntmps13
  go_wp2_with fail
  refine HPN.out.mono ?_
  rintro e w1 ⟨A1, m1, c1, rfl, hown1, hb1⟩
  have hm1 := OwnB.length hown1
  have hnb := numB_len 5 n
  rw [List.length_append, H0.out] at hm1
  have HO1 := Lib.hid hown1
  have HB1 := Lib.hid hb1
  clear hown1 hb1 HPN
  rcases Nat.eq_zero_or_pos n with hz | hpos
  · subst hz
    go_wp2
    go_ret
    refine ⟨A1, m1, c1, numB 5 0, rfl, HO1.out, .inl ⟨List.eq_nil_of_length_eq_zero HL.out, rfl⟩, HB1.out⟩
  have g1 : ((n : Int) == 0) = false := beq_eq_false_iff_ne.2 (by omega)
  have HS := Lib.hid (packStreams w1)
  go_wp2_with fail
  refine HS.out.mono ?_
  rintro e w2 ⟨rfl, hb2⟩
  have HB2 := Lib.hid (HB1.out.trans (hb2.mono HB1.out.size))
  have HO2 := Lib.hid (Own.later HO1.out hb2)
  clear hb2 HS HB1 HO1
  go_wp2_with fail
  go_loopg [0, 37] 3 (fun gg s0 s37 wr => ∃ (k m co : Nat) (Ao : Option Addr) (B1 : List UInt8), k ≤ 3 ∧ 3 - k ≤ gg ∧ s0 = .slice Ao m co ∧ s37 = .int .i64 (k : Int) ∧ OwnB wr w.heap.size Ao m co (out ++ numB 5 n ++ B1) ∧ strsX k L B1 ∧ B1.length ≤ k * (6 * n + 10000) ∧ Below w.heap.size w wr)
  case atStart => exact ⟨0, m1, c1, A1, [], by omega, by omega, rfl, rfl, by rw [List.append_nil]; exact HO2.out, rfl, by simp, HB2.out⟩
  case round =>
    clear HO2 HB2
    obtain ⟨k, m, co, Ao, B1, hk, hgg, rfl, rfl, hown, hst, hlen, hbel⟩ := hrel
    have HO := Lib.hid hown
    have HSt := Lib.hid hst
    have HB := Lib.hid hbel
    clear hown hst hbel
    by_cases hk3 : k < 3
    · obtain ⟨fn, hix, hin, hfn⟩ := fn_any hk3
      have HFn := Lib.hid hfn
      clear hfn
      obtain ⟨ti, hi, hz0, hz1, hz2⟩ := info_parts elemN_info
      go_wp2_with (at_make; refine wpList_make_full _ rfl _ _ 45 rfl wr.heap.size 3 ti _ 1 Tryz.underlying45 hi hz0 hz1 .i64 .i64 17 17 17 rfl rfl rfl rfl (by rw [hz2]; omega) (by unfold maxLen; omega) (Nat.le_refl _) ?_)
      intro w3 hown3 hg3
      rw [made_zeros] at hown3
      have hlt3 := (Own.lt hown3 (k := wr.heap.size) rfl).2
      have HO3 := Lib.hid (show OwnN w3 wr.heap.size (some ⟨wr.heap.size, 0, none⟩) 17 17 (cntQ k L 0) from hown3)
      have HB3 := Lib.hid ((Below.refl _ _).grown hg3 (Nat.le_refl _) (fun k hk => by cases hk) : Below wr.heap.size wr w3)
      clear hown3 hg3 hi hz0 hz1 hz2 hix
      go_wp2_with fail
      obtain ⟨wo, rfl⟩ : ∃ wo : World, wo = wr := ⟨_, rfl⟩
      go_loopg [8, 43] n (fun gh s8 s43 wr => ∃ (i cs : Nat) (As : Option Addr), i ≤ n ∧ n - i ≤ gh ∧ s8 = .slice As i cs ∧ s43 = .int .i64 (i : Int) ∧ OwnN wr wo.heap.size (some ⟨wo.heap.size, 0, none⟩) 17 17 (cntQ k L i) ∧ OwnN wr w3.heap.size As i cs (symsQ k L i) ∧ Below wo.heap.size wo wr ∧ w3.heap.size ≤ wr.heap.size)
      case atStart => exact ⟨0, 0, none, by omega, by omega, rfl, rfl, HO3.out, OwnN.nil _ _, HB3.out, Nat.le_refl _⟩
      case round =>
        clear HO3 HB3
        obtain ⟨i, cs, As, hi, hgi, rfl, rfl, hoc, hos, hbel, hsz⟩ := hrel
        have HOC := Lib.hid hoc
        have HOS := Lib.hid hos
        have HBi := Lib.hid hbel
        clear hoc hos hbel
        by_cases hin' : i < n
        · obtain ⟨b, o, x, hA, hx, d0, d1, d2⟩ := ((HR.out.later HB.out).later HBi.out).at_ (by rw [HL.out]; exact hin' : i < L.length)
          subst hA
          have hxq := HQ.out x (List.mem_of_getElem? hx)
          have HC1 := Lib.hid (cntQ_step (k := k) hx)
          have HC2 := Lib.hid (symsQ_step (k := k) hx)
          obtain ⟨v, hv⟩ : ∃ v, v = numQ k x := ⟨_, rfl⟩
          have hvb : v ≤ 65535 := by rw [hv]; exact numQ_le hxq k
          obtain ⟨sy, hsy⟩ : ∃ sy, sy = Lib.bitLen v := ⟨_, rfl⟩
          have hsyb : sy ≤ 16 := by rw [hsy]; exact bitLen_most16 hvb
          have HSy := Lib.hid (show symQ k x = sy by rw [hsy, hv]; rfl)
          have HCall := Lib.hid (HFn.out x (wr.alloc (.cells #[.int .i64 (x.lits : Int), .int .i64 (x.len : Int), .int .i64 (x.dist : Int)] 52)) hxq)
          rw [← hv] at HCall
          have HV := Lib.hid hsy
          have HBa := Lib.hid (HBi.out.alloc HBi.out.size (.cells #[.int .i64 (x.lits : Int), .int .i64 (x.len : Int), .int .i64 (x.dist : Int)] 52))
          clear hx hv hsy hxq
          obtain ⟨x1, x2, x3⟩ := x
          simp only at d0 d1 d2 HBa HCall
          unfold sqV at HCall
          simp only at HCall
          go_wp2_with fail
          refine HCall.out.mono ?_
          rintro e w5 ⟨rfl, hb5⟩
          have HB5 := Lib.hid (HBa.out.trans (hb5.mono HBa.out.size))
          have hall : Below wr.heap.size wr w5 := ((Below.refl _ _).alloc (Nat.le_refl _) _).trans (hb5.mono (by simp))
          have HOC5 := Lib.hid (Own.later HOC.out hall)
          have HOS5 := Lib.hid (Own.later HOS.out hall)
          have hs5 := hall.size
          have HCode := Lib.hid (packCode v w5 hvb)
          rw [← HV.out] at HCode
          clear hb5 hall HCall HBa HOC HOS d0 d1 d2
          go_wp2_with fail
          refine HCode.out.mono ?_
          rintro e w6 ⟨rfl, rfl⟩
          obtain ⟨gz, xz, hgz, hg1, -, hxz, hcz, hfz⟩ := Own.at_ HOC5.out (k := sy) (by omega)
          cases hgz
          obtain ⟨q, hq⟩ : ∃ q, q = (cntQ k L i).getD sy 0 := ⟨_, rfl⟩
          have hqk : q ≤ i := by rw [hq]; exact cntQ_le k L i _
          have hxv : xz = .int .i64 (q : Int) := by
            rw [List.getElem?_map] at hxz
            rw [hq, List.getD]
            cases hh : (cntQ k L i)[sy]? with
            | none => rw [hh] at hxz; cases hxz
            | some q => rw [hh] at hxz; exact (Option.some.inj hxz).symm
          subst hxv
          have HOC6 := Lib.hid (show OwnN (w6.setCell ⟨wo.heap.size, sy, none⟩ (.int .i64 ((q : Int) + 1))) wo.heap.size (some ⟨wo.heap.size, 0, none⟩) 17 17 (cntQ k L (i + 1)) from by
            have h := (Own.stored HOC5.out sy (natv (q + 1))).1
            rw [← List.map_set, hq] at h
            rw [HC1.out, HSy.out]
            have e : natv ((cntQ k L i).getD sy 0 + 1) = .int .i64 ((q : Int) + 1) := by unfold natv; rw [Int.natCast_add, hq]; rfl
            rw [← e]
            exact h)
          have hne : bk As ≠ some wo.heap.size := by
            intro he
            have := (Own.lt HOS5.out he).1
            omega
          have HOS6 := Lib.hid (Own.setCell HOS5.out (p := ⟨wo.heap.size, sy, none⟩) hne (.int .i64 ((q : Int) + 1)))
          have HB6 := Lib.hid (HB5.out.setCell (p := ⟨wo.heap.size, sy, none⟩) (Nat.le_refl _) (.int .i64 ((q : Int) + 1)))
          have hs6 : (w6.setCell ⟨wo.heap.size, sy, none⟩ (.int .i64 ((q : Int) + 1))).heap.size = w6.heap.size := by simp
          have i1 : (0 : Int) ≤ (sy : Int) := by omega
          have i2 : (sy : Int) < 17 := by omega
          clear hxz hq HCode HOC5 HOS5 HB5
          go_wp2_with (at_builtin; refine wpList_append_one rfl _ _ elemN rfl w3.heap.size As i cs ((symsQ k L i).map natv) (w6.setCell ⟨wo.heap.size, sy, none⟩ (.int .i64 ((q : Int) + 1))) (.int .i64 (sy : Int)) rfl rfl HOS6.out ?hx rfl ?d1 ?d2 ?d3 ?_)
          case hx => simp [Act.eval]
          case d1 => omega
          case d2 => omega
          case d3 => omega
          intro A' c' w7 hown7 hb7 hgr7 hat7
          have HOS7 := Lib.hid (show OwnN w7 w3.heap.size A' (i + 1) c' (symsQ k L (i + 1)) from by
            rw [HC2.out, HSy.out]; exact ownN_snoc hown7)
          have HOC7 := Lib.hid (Own.kept HOC6.out hgr7 (.inr (fun e => hne e.symm)))
          have HB7 := Lib.hid (HB6.out.trans (hb7.mono (by omega)))
          have hs7 := hb7.size
          clear hown7 hb7 hgr7 hat7 hcz hfz
          go_wp2
          go_roundg (n - (i + 1))
          case measure => omega
          case rel => exact ⟨i + 1, c', A', by omega, by omega, rfl, by go_num, HOC7.out, HOS7.out, HB7.out, by omega⟩
        · obtain rfl : i = n := by omega
          have hcl : (cntQ k L i).length = 17 := OwnN.length HOC.out
          have hca : cntQ k L i = incT (List.replicate 17 0) (L.map (symQ k)) := cntQ_all HL.out.symm
          have hsa : symsQ k L i = L.map (symQ k) := symsQ_all HL.out.symm
          have hs17 := symQ_lt HQ.out k
          have hcb : ∀ x ∈ cntQ k L i, x ≤ 65536 := getD_all_le (fun p => by have := cntQ_le k L i p; omega)
          have hp0 : ∀ s ∈ L.map (symQ k), 0 < (cntQ k L i).getD s 0 := by
            intro s hs
            rw [hca]
            obtain ⟨x, hx, rfl⟩ := List.mem_map.1 hs
            exact incT_pos _ _ _ hs (by rw [List.length_replicate]; exact hs17 x hx)
          have hnz0 : 0 < nz (cntQ k L i) := by
            obtain ⟨x, hx⟩ : ∃ x, x ∈ L := by
              cases hq : L with
              | nil => have h := HL.out; rw [hq] at h; simp at h; omega
              | cons b r => exact ⟨b, List.mem_cons_self⟩
            exact nz_posC (hp0 _ (List.mem_map_of_mem hx))
          have hnz1 : nz (cntQ k L i) ≤ 32 := by have := nz_leC (cntQ k L i); omega
          have HSh := Lib.hid (fseShareX (some ⟨wo.heap.size, 0, none⟩) 17 17 (cntQ k L i) wr hcl (OwnN.ns HOC.out) (by omega) hcb hnz0 hnz1)
          have HP0 := Lib.hid hp0
          have HCa := Lib.hid hca
          have HSa := Lib.hid hsa
          clear hca hsa hs17 hcb hp0 hnz0 hnz1
          go_wp2_with fail
          refine HSh.out.mono ?_
          rintro e w5 ⟨S5, m5, c5, sh, rfl, hown5, hsh, hshx, hb5⟩
          have hm5 := OwnN.length hown5
          have hmay := hsh.may (by omega)
          have hshl := hsh.len
          have HMay := Lib.hid hmay
          have HShOk := Lib.hid hsh
          have HShX := Lib.hid hshx
          have HO5 := Lib.hid hown5
          have HSy5 := Lib.hid (Own.later HOS.out hb5)
          have HB5 := Lib.hid (HBi.out.trans (hb5.mono HBi.out.size))
          have HPS := Lib.hid (fsePutShare S5 m5 c5 sh w5 hm5 (OwnN.ns hown5) hmay)
          clear hown5 hsh hshx hb5 HSh hmay HOC HOS HBi
          go_wp2_with fail
          refine HPS.out.mono ?_
          rintro e w6 ⟨S6, m6, c6, rfl, hown6, hb6⟩
          have hm6 := OwnB.length hown6
          have htl := shareB_len sh
          rw [hm6] at htl
          have HO6 := Lib.hid hown6
          have HB6 := Lib.hid (HB5.out.trans (hb6.mono HB5.out.size))
          have HEn := Lib.hid (fseEncode S5 m5 c5 sh As i cs (symsQ k L i) w6 hm5 ((OwnN.ns HO5.out).later hb6) HMay.out (OwnN.length HSy5.out) ((OwnN.ns HSy5.out).later hb6) (by omega) (by
            rw [HSa.out]
            intro s hs
            have h1 := HShOk.out.has s (HP0.out s hs)
            refine ⟨?_, h1⟩
            rw [← hm5]
            rcases Nat.lt_or_ge s sh.length with h | h
            · exact h
            · rw [getD_out h] at h1; omega))
          clear hown6 hb6 HPS HB5 HSy5 HO5
          go_wp2_with fail
          refine HEn.out.mono ?_
          rintro e w7 ⟨S7, m7, c7, rfl, hown7, hb7⟩
          have HO7 := Lib.hid hown7
          have HT7 := Lib.hid (Own.later HO6.out hb7)
          have HB7 := Lib.hid (HB6.out.trans (hb7.mono HB6.out.size))
          have hbB := HB.out.size
          have hs6 := HB6.out.size
          have hne7 : bk S7 = none ∨ bk S7 ≠ bk Ao := by
            cases hq : bk S7 with
            | none => exact .inl rfl
            | some b =>
              refine .inr fun e => ?_
              have h1 := (Own.lt HO7.out hq).1
              have h2 := (Own.lt HO.out e.symm).2
              omega
          have HBw := Lib.hid (HB.out.trans (HB7.out.mono hbB))
          have HOu := Lib.hid (Own.later HO.out HB7.out)
          have hml := OwnB.length HO.out
          have hm7 := OwnB.length hown7
          have hel : m7 ≤ 6 * i + 16 := by
            rw [← hm7, HSa.out]
            have := encodeL_len (sh := sh) (l := L.map (symQ k)) HShOk.out.sum (fun s hs => HShOk.out.has s (HP0.out s hs))
            rw [List.length_map, HL.out] at this
            exact this
          clear hown7 hb7 HEn HO6 HB6 HB7 HO
          obtain ⟨tb, htb⟩ : ∃ tb, tb = shareB sh := ⟨_, rfl⟩
          obtain ⟨bd, hbd⟩ : ∃ bd, bd = encodeL sh (symsQ k L i) := ⟨_, rfl⟩
          have HTb := Lib.hid htb
          have HBd := Lib.hid hbd
          rw [← htb] at HT7 hm6
          rw [← hbd] at HO7 hm7
          have hB7 := HBw.out.size
          simp only [List.length_append, H0.out] at hml
          have hk10 : k * (6 * i + 10000) ≤ 2 * (6 * i + 10000) := Nat.mul_le_mul_right _ (by omega)
          have h10 : (k + 1) * (6 * i + 10000) = k * (6 * i + 10000) + (6 * i + 10000) := by rw [Nat.succ_mul]
          clear htb hbd
          go_wp2_with (at_builtin; refine wpList_append_rd rfl _ _ elemB rfl w.heap.size Ao m co ((out ++ numB 5 i ++ B1).map u8v) rfl HOu.out S6 m6 c6 (tb.map u8v) rfl ?a1 ?a2 (u8_one _) ?a3 ?a4 ?a5 ?_)
          case a1 => exact Own.rd HT7.out
          case a2 => rw [List.length_map]; exact hm6
          case a3 => omega
          case a4 => omega
          case a5 => exact hB7
          intro A8 c8 w8 hown8 hb8 hg8 hat8
          have HO8 := Lib.hid (show OwnB w8 w.heap.size A8 (m + m6) c8 (out ++ numB 5 i ++ B1 ++ tb) from by unfold OwnB; simp only [List.map_append, List.append_assoc] at hown8 ⊢; exact hown8)
          have HB8 := Lib.hid (HBw.out.trans hb8)
          have HBd8 := Lib.hid (Own.kept HO7.out hg8 hne7)
          have HP9 := Lib.hid (putNum A8 (m + m6) c8 _ m7 w8 (OwnB.length HO8.out) (OwnB.bs HO8.out) (by omega) (by omega))
          clear hown8 hb8 hg8 hat8 HO7 HT7 HOu HBw
          go_wp2_with fail
          refine HP9.out.mono ?_
          rintro e w9 ⟨A9, m9, c9, rfl, hown9, hb9⟩
          have hm9 := OwnB.length hown9
          have hnb7 := numB_len 5 m7
          simp only [List.length_append, H0.out] at hm9
          have hs8 := HB8.out.size
          have HO9 := Lib.hid (Own.mono hown9 hs8)
          have HB9 := Lib.hid (HB8.out.trans (hb9.mono hs8))
          have HBd9 := Lib.hid (Own.later HBd8.out hb9)
          clear hown9 hb9 HP9 HB8 HO8 HBd8
          go_wp2_with (at_builtin; refine wpList_append_rd rfl _ _ elemB rfl w.heap.size A9 m9 c9 ((out ++ numB 5 i ++ B1 ++ tb ++ numB 5 m7).map u8v) rfl HO9.out S7 m7 c7 (bd.map u8v) rfl ?a1 ?a2 (u8_one _) ?a3 ?a4 ?a5 ?_)
          case a1 => exact Own.rd HBd9.out
          case a2 => rw [List.length_map]; exact hm7
          case a3 => omega
          case a4 => omega
          case a5 => exact HB9.out.size
          intro A10 c10 w10 hown10 hb10 hg10 hat10
          have HO10 := Lib.hid (show OwnB w10 w.heap.size A10 (m9 + m7) c10 (out ++ numB 5 i ++ (B1 ++ (tb ++ (numB 5 m7 ++ bd)))) from by unfold OwnB; simp only [List.map_append, List.append_assoc] at hown10 ⊢; exact hown10)
          have HB10 := Lib.hid (HB9.out.trans hb10)
          have HStr := Lib.hid (show strsX (k + 1) L (B1 ++ (tb ++ (numB 5 m7 ++ bd))) from
            ⟨B1, _, HSt.out, ⟨sh, by rw [← HCa.out]; exact HShOk.out, by rw [← HCa.out]; exact HShX.out, by rw [HTb.out, ← hm7, HBd.out, HSa.out]⟩, rfl⟩)
          have HLen := Lib.hid (show (B1 ++ (tb ++ (numB 5 m7 ++ bd))).length ≤ (k + 1) * (6 * i + 10000) from by
            simp only [List.length_append]; omega)
          clear hown10 hb10 hg10 hat10 HO9 HB9 HBd9
          go_wp2
          go_roundg (3 - (k + 1))
          case measure => omega
          case rel => exact ⟨k + 1, m9 + m7, c10, A10, _, by omega, by omega, rfl, by go_num, HO10.out, HStr.out, HLen.out, HB10.out⟩
    · obtain rfl : k = 3 := by omega
      go_wp2_with fail
      obtain ⟨wo, rfl⟩ : ∃ wo : World, wo = wr := ⟨_, rfl⟩
      refine (wrNew _).mono ?_
      rintro e w3 ⟨rfl, hw3, hb3⟩
      have HW3 := Lib.hid hw3
      have HB3 := Lib.hid hb3
      clear hw3 hb3
      go_wp2_with fail
      go_loopg [94] n (fun gh s94 wr => ∃ (i : Nat) (S : WSt), i ≤ n ∧ n - i ≤ gh ∧ s94 = .int .i64 (i : Int) ∧ WrS wr wo.heap.size wo.heap.size S ∧ putsS w0 ((L.take i).flatMap lowsP) = S ∧ wLen S ≤ 45 * i ∧ Below wo.heap.size wo wr)
      case atStart => exact ⟨0, w0, by omega, by omega, rfl, HW3.out, rfl, by show 8 * 0 + 0 ≤ _; omega, HB3.out⟩
      case round =>
        clear HW3 HB3
        obtain ⟨i, S, hi, hgi, rfl, hw, hS, hwl, hbel⟩ := hrel
        have HW := Lib.hid hw
        have HSS := Lib.hid hS
        have HBi := Lib.hid hbel
        clear hw hS hbel
        obtain ⟨wi, rfl⟩ : ∃ wi : World, wi = wr := ⟨_, rfl⟩
        by_cases hin' : i < n
        · obtain ⟨b, o, x, hA, hx, d0, d1, d2⟩ := ((HR.out.later HB.out).later HBi.out).at_ (by rw [HL.out]; exact hin' : i < L.length)
          subst hA
          have HXq := Lib.hid (HQ.out x (List.mem_of_getElem? hx))
          have HF := Lib.hid (flatMap_step lowsP hx)
          have hall : Below wi.heap.size wi (wi.alloc (.cells #[.int .i64 (x.lits : Int), .int .i64 (x.len : Int), .int .i64 (x.dist : Int)] 52)) := (Below.refl _ _).alloc (Nat.le_refl _) _
          have HBa := Lib.hid (HBi.out.alloc HBi.out.size (.cells #[.int .i64 (x.lits : Int), .int .i64 (x.len : Int), .int .i64 (x.dist : Int)] 52))
          have HWa := Lib.hid (HW.out.later hall)
          have HK := Lib.hid (Blk.new wi 52 #[.int .i64 (x.lits : Int), .int .i64 (x.len : Int), .int .i64 (x.dist : Int)])
          have HSt2 := Lib.hid (packStreams (wi.alloc (.cells #[.int .i64 (x.lits : Int), .int .i64 (x.len : Int), .int .i64 (x.dist : Int)] 52)))
          clear hx hall
          obtain ⟨x1, x2, x3⟩ := x
          simp only at d0 d1 d2 HBa HWa HK HSt2
          go_wp2_with fail
          refine HSt2.out.mono ?_
          rintro e w4 ⟨rfl, hb4⟩
          have HB4 := Lib.hid (HBa.out.trans (hb4.mono HBa.out.size))
          have HW4 := Lib.hid (HWa.out.later hb4)
          have HK4 := Lib.hid (HK.out.later hb4)
          obtain ⟨pb, hpb⟩ : ∃ pb, pb = wi.heap.size := ⟨_, rfl⟩
          rw [← hpb] at HK4 ⊢
          clear hpb hb4 HSt2 HBa HWa HK d0 d1 d2
          go_wp2_with fail
          go_loopg [99] 3 (fun gj s99 wr => ∃ (k : Nat) (S' : WSt), k ≤ 3 ∧ 3 - k ≤ gj ∧ s99 = .int .i64 (k : Int) ∧ WrS wr wo.heap.size wo.heap.size S' ∧ putsS S (lowsQ ⟨x1, x2, x3⟩ k) = S' ∧ wLen S' ≤ 45 * i + 15 * k ∧ Blk wr pb 52 #[.int .i64 (x1 : Int), .int .i64 (x2 : Int), .int .i64 (x3 : Int)] ∧ Below wo.heap.size wo wr)
          case atStart => exact ⟨0, S, by omega, by omega, rfl, HW4.out, rfl, by omega, HK4.out, HB4.out⟩
          case round =>
            clear HW4 HK4 HB4
            obtain ⟨k, S', hk, hgj, rfl, hw, hS, hwl', hblk, hbel⟩ := hrel
            have HW5 := Lib.hid hw
            have HS5 := Lib.hid hS
            have HK5 := Lib.hid hblk
            have HB5 := Lib.hid hbel
            clear hw hS hblk hbel
            by_cases hk3 : k < 3
            · obtain ⟨fn, hix, hin, hfn⟩ := fn_any hk3
              have HFn := Lib.hid hfn
              clear hfn
              have p0 := HK5.out.cell 0
              have p1 := HK5.out.cell 1
              have p2 := HK5.out.cell 2
              simp only [List.getElem?_toArray, List.getElem?_cons_zero, List.getElem?_cons_succ] at p0 p1 p2
              have HCall := Lib.hid (HFn.out ⟨x1, x2, x3⟩ wr HXq.out)
              obtain ⟨v, hv⟩ : ∃ v, v = numQ k ⟨x1, x2, x3⟩ := ⟨_, rfl⟩
              have hvb : v ≤ 65535 := by rw [hv]; exact numQ_le HXq.out k
              have HV := Lib.hid (show lowsQ ⟨x1, x2, x3⟩ (k + 1) = lowsQ ⟨x1, x2, x3⟩ k ++ lowP v by rw [hv]; rfl)
              rw [← hv] at HCall
              unfold sqV at HCall
              simp only at HCall
              clear hv
              go_wp2_with fail
              refine HCall.out.mono ?_
              rintro e w6 ⟨rfl, hb6⟩
              have HB6 := Lib.hid (HB5.out.trans (hb6.mono HB5.out.size))
              have HW6 := Lib.hid (HW5.out.later hb6)
              have HK6 := Lib.hid (HK5.out.later hb6)
              clear hb6 HCall HB5 HW5 HK5 p0 p1 p2
              by_cases hv1 : 1 < v
              · have g3 : decide ((1 : Int) < (v : Int)) = true := decide_eq_true (by omega)
                obtain ⟨hbl1, hbl2, hbl3, hbl4⟩ := bitLen_in (by omega : 0 < v) hvb
                have HCode := Lib.hid (packCode v w6 hvb)
                obtain ⟨bl, hbl⟩ : ∃ bl, bl = Lib.bitLen v := ⟨_, rfl⟩
                rw [← hbl] at HCode hbl1 hbl2 hbl3 hbl4
                have HBl := Lib.hid hbl
                clear hbl
                go_wp2_with fail
                refine HCode.out.mono ?_
                rintro e w7 ⟨rfl, rfl⟩
                go_wp2_with fail
                refine HCode.out.mono ?_
                rintro e w8 ⟨rfl, rfl⟩
                go_wp2_with fail
                have hlv : v - 2 ^ (bl - 1) < 2 ^ (bl - 1) := by
                  have : 2 ^ bl = 2 ^ (bl - 1) * 2 := by rw [← Nat.pow_succ, show (bl - 1).succ = bl by omega]
                  omega
                have HPut := Lib.hid (HW6.out.put2 (bl - 1) (v - 2 ^ (bl - 1)) (by omega) hlv (by omega))
                have hl6 := (putS_facts (k := bl - 1) (v := v - 2 ^ (bl - 1)) HW6.out.ok (by omega) hlv).2
                have HS6 := Lib.hid (show putsS S (lowsQ ⟨x1, x2, x3⟩ (k + 1)) = putS S' (bl - 1) (v - 2 ^ (bl - 1)) by
                  rw [HV.out, putsS_append, HS5.out]
                  have e : lowP v = [(bl - 1, v - 2 ^ (bl - 1))] := by unfold lowP; rw [if_pos hv1, HBl.out]
                  rw [e, putsS_one])
                rw [← low_int hvb hbl2, show ((bl - 1 : Nat) : Int) = (bl : Int) - 1 by omega] at HPut
                refine HPut.out.mono ?_
                rintro e w9 ⟨rfl, hw9, hb9, hk9⟩
                have HW9 := Lib.hid hw9
                have HB9 := Lib.hid (HB6.out.trans hb9)
                have HK9 := Lib.hid (hk9 _ _ HK6.out)
                clear hw9 hb9 hk9 HPut HCode HK6 HW6 HB6 HS5 hlv hbl2 hbl3
                go_wp2
                go_roundg (3 - (k + 1))
                case measure => omega
                case rel => exact ⟨k + 1, _, by omega, by omega, by go_num, HW9.out, HS6.out, by omega, HK9.out, HB9.out⟩
              · have g3 : decide ((1 : Int) < (v : Int)) = false := decide_eq_false (by omega)
                have HS6 := Lib.hid (show putsS S (lowsQ ⟨x1, x2, x3⟩ (k + 1)) = S' by
                  rw [HV.out, putsS_append, HS5.out]
                  have e : lowP v = [] := by unfold lowP; rw [if_neg hv1]
                  rw [e]; rfl)
                clear HS5
                go_wp2
                go_roundg (3 - (k + 1))
                case measure => omega
                case rel => exact ⟨k + 1, S', by omega, by omega, by go_num, HW6.out, HS6.out, by omega, HK6.out, HB6.out⟩
            · obtain rfl : k = 3 := by omega
              have HS6 := Lib.hid (show putsS w0 ((L.take (i + 1)).flatMap lowsP) = S' by
                rw [HF.out, putsS_append, HSS.out, ← HS5.out, lowsQ_three])
              clear HS5
              go_wp2
              go_roundg (n - (i + 1))
              case measure => omega
              case rel => exact ⟨i + 1, S', by omega, by omega, by go_num, HW5.out, HS6.out, by omega, HB5.out⟩
        · obtain rfl : i = n := by omega
          have hrl : (bytesS S).length ≤ 45 * i / 8 + 1 := by
            have := bytesS_len S
            omega
          have HRest := Lib.hid (show bytesS S = restB L by
            unfold restB
            rw [← HSS.out, List.take_of_length_le (by rw [HL.out]; exact Nat.le_refl _)])
          have HBy := Lib.hid (HW.out.bytes (by omega))
          have hml := OwnB.length HO.out
          simp only [List.length_append, H0.out] at hml
          go_wp2_with fail
          refine HBy.out.mono ?_
          rintro e w5 ⟨S5, m5, c5, rfl, hown5, hb5⟩
          have hm5 := OwnB.length hown5
          have hbB := HB.out.size
          have hbi := HBi.out.size
          have hb05 := HBi.out.trans (hb5.mono hbi)
          have HO5 := Lib.hid hown5
          have HOu := Lib.hid (Own.later HO.out hb05)
          have HB5 := Lib.hid (HB.out.trans (hb05.mono hbB))
          have HPN := Lib.hid (putNum Ao m co _ m5 w5 (OwnB.length HOu.out) (OwnB.bs HOu.out) (by omega) (by omega))
          clear hown5 hb5 HBy HO HW hb05
          go_wp2_with fail
          refine HPN.out.mono ?_
          rintro e w6 ⟨A6, m6, c6, rfl, hown6, hb6⟩
          have hm6 := OwnB.length hown6
          have hnb5 := numB_len 5 m5
          simp only [List.length_append, H0.out] at hm6
          have hs5 := HB5.out.size
          have HO6 := Lib.hid (Own.mono hown6 hs5)
          have HB6 := Lib.hid (HB5.out.trans (hb6.mono hs5))
          have HR6 := Lib.hid (Own.later HO5.out hb6)
          obtain ⟨rb, hrb⟩ : ∃ rb, rb = bytesS S := ⟨_, rfl⟩
          have HRb := Lib.hid (hrb.trans HRest.out)
          rw [← hrb] at HR6 hm5 hrl
          clear hown6 hb6 HPN HB5 HOu HO5 hrb
          go_wp2_with (at_builtin; refine wpList_append_rd rfl _ _ elemB rfl w.heap.size A6 m6 c6 ((out ++ numB 5 i ++ B1 ++ numB 5 m5).map u8v) ?hs HO6.out S5 m5 c5 (rb.map u8v) ?hx ?a1 ?a2 (u8_one _) ?a3 ?a4 ?a5 ?_; (case hs => simp [Act.eval]); (case hx => simp [Act.eval]))
          case a1 => exact Own.rd HR6.out
          case a2 => rw [List.length_map]; exact hm5
          case a3 => omega
          case a4 => omega
          case a5 => exact HB6.out.size
          intro A7 c7 w7 hown7 hb7 hg7 hat7
          have HO7 := Lib.hid (show OwnB w7 w.heap.size A7 (m6 + m5) c7 (out ++ (numB 5 i ++ (B1 ++ (numB 5 m5 ++ rb)))) from by unfold OwnB; simp only [List.map_append, List.append_assoc] at hown7 ⊢; exact hown7)
          have HB7 := Lib.hid (HB6.out.trans hb7)
          clear hown7 hb7 hg7 hat7 HO6 HB6 HR6
          go_wp2
          go_ret
          refine ⟨A7, m6 + m5, c7, _, rfl, HO7.out, .inr ⟨fun e => ?_, ?_⟩, HB7.out⟩
          · have h := HL.out
            rw [e] at h; simp at h; omega
          · obtain ⟨B2, b2, ⟨B3, b1, ⟨B4, b0, h00, h0, rfl⟩, h1, rfl⟩, h2, e2⟩ := HSt.out
            have h00 : B4 = [] := h00
            subst h00
            refine ⟨b0, b1, b2, h0, h1, h2, ?_⟩
            rw [HL.out, e2, ← HRb.out, hm5]
            simp
end Go.Proofs.YtaelgbbnmjbjiaaGreat
namespace Go.Proofs.YtaelgbbnmjbjiaaGreat
open Go.RowKit
theorem LitsX.b {l B : List UInt8} (h : LitsX l B) : LitsB l B := by
  obtain ⟨lens, h1, h2, rfl⟩ := h
  split
  · exact .inr ⟨lens, h1, rfl⟩
  · exact .inl rfl
def BestX (d B : List UInt8) : Prop :=
  ∃ B0, BestO d B0 ∧ ((d = [] ∧ B = B0) ∨ (d ≠ [] ∧ ∃ b c, LitsX (litsL d (findL d)) b ∧ StepsX (findL d) c ∧ B = if (2 :: numB 5 d.length ++ b ++ c).length < B0.length then 2 :: numB 5 d.length ++ b ++ c else B0))
set_option maxHeartbeats 8000000 in
set_option maxRecDepth 10000 in
theorem packPackX (A : Option Addr) (n c : Nat) (d : List UInt8) (w : World) (hl : d.length = n) (hr : Bs w A d) (hn : n ≤ 65536) (hc : n ≤ c) (hc2 : c ≤ 9223372036854775807) (hlow : ∀ b, bk A = some b → b < w.heap.size) :
    Calls Tryz.prog 4 #[.slice A n c] w fun e w' => ∃ S m cs B, e = .returned (.tuple #[.slice S m cs, .int .i64 0]) ∧ OwnB w' w.heap.size S m cs (B ++ sumOf d) ∧ BestX d B ∧ Below w.heap.size w w' := by
  have HL := Lib.hid hl
  have HR := Lib.hid hr
  have HLow := Lib.hid hlow
  have HBa := Lib.hid ((Below.refl w.heap.size w).alloc (Nat.le_refl _) (.cells #[.slice A n c] 22))
  have HBn := Lib.hid (Blk.new w 22 #[.slice A n c])
  have g1 : decide ((65536 : Int) < (n : Int)) = false := decide_eq_false (by omega)
  clear hl hr hlow
  go_enter Tryz.func4, Tryz.ntmps4
  go_wp2_with fail
  obtain ⟨wa, hwa⟩ : ∃ wa, wa = w.alloc (.cells #[.slice A n c] 22) := ⟨_, rfl⟩
  obtain ⟨pd, hpd⟩ : ∃ pd, pd = w.heap.size := ⟨_, rfl⟩
  rw [← hwa, ← hpd] at HBn ⊢
  rw [← hwa] at HBa
  have HPd := Lib.hid hpd
  clear hwa hpd
  have hcell := HBn.out.cell 0
  simp only [List.getElem?_toArray, List.getElem?_cons_zero] at hcell
  have hplt := HBn.out.lt
  have HH0 := Lib.hid (fun (w1 : World) (h : w1.cell? ⟨pd, 0, none⟩ = some (.slice A n c)) => packHead pd A n c 0 w1 (by omega) hn h)
  have HRa := Lib.hid (HR.out.later HBa.out)
  have hnb := numB_len 5 n
  go_region_held3 (fun w' => w'.cell? ⟨pd, 0, none⟩ = some (.slice A n c))
    (first | go_keep | (exact (hb1.cell (by simpa using hplt)).trans (by assumption)) | (exact (hb2.cell (by simpa using hplt)).trans (by assumption)))
    ((first | (go_at_call 8; refine (HH0.out _ (by assumption)).mono ?_; rintro e w1 ⟨S1, m1, c1, rfl, hown1, hb1⟩) | (refine step_append_rd rfl _ _ elemB rfl wa.heap.size S1 m1 c1 _ rfl hown1 A n c (d.map u8v) rfl (Rd.later (HRa.out.later ((Below.refl _ _).drew)) hb1) (by rw [List.length_map]; exact HL.out) (u8_one d) (by have := OwnB.length hown1; rw [List.length_cons] at this; omega) (by have := OwnB.length hown1; rw [List.length_cons] at this; omega) (by have := hb1.size; simpa using this) ?_; intro A2 c2 w2 hown2 hb2 hg2 hat2)))
  have hm1 := OwnB.length hown1
  rw [List.length_cons] at hm1
  have hwa := HBa.out.size
  have hb1' : Below wa.heap.size wa w1 := (Below.refl _ _).drew.trans hb1
  have hb12 : Below wa.heap.size wa w2 := hb1'.trans hb2
  have HO2 := Lib.hid (show OwnB w2 w.heap.size A2 (m1 + n) c2 (0 :: numB 5 n ++ d) from by
    have h := Own.mono hown2 hwa
    unfold OwnB
    simp only [List.map_append, List.map_cons, List.cons_append] at h ⊢
    exact h)
  have HB2 := Lib.hid (HBa.out.trans (hb12.mono hwa))
  have HK2 := Lib.hid (HBn.out.later hb12)
  have HR2 := Lib.hid (HRa.out.later hb12)
  have hlt2 := HK2.out.lt
  clear hown1 hb1 hb1' hb12 hown2 hb2 hg2 hat2 HBn HBa HRa hplt hcell
  have HH := Lib.hid (fun (m : Nat) (hm : m < 256) (w1 : World) (h : w1.cell? ⟨pd, 0, none⟩ = some (.slice A n c)) => packHead pd A n c m w1 hm hn h)
  clear HH0
  go_upto_if 21 with fail
  go_cut [5] from 6 to 63 (fun s5 wx => ∃ (S : Option Addr) (m cs : Nat) (B : List UInt8), s5 = .slice S m cs ∧ OwnB wx w.heap.size S m cs B ∧ BestX d B ∧ m ≤ 1000000 ∧ wx.cell? ⟨pd, 0, none⟩ = some (.slice A n c) ∧ Below w.heap.size w wx)
  case first =>
    rcases Nat.eq_zero_or_pos n with hz | hpos
    · have g2 : decide ((0 : Int) < (n : Int)) = false := decide_eq_false (by omega)
      go_wp2_with fail
      go_meet
      case rel =>
        have hlz := HL.out
        refine ⟨A2, m1 + n, c2, _, rfl, HO2.out, ?_, by omega, by assumption, HB2.out⟩
        rw [show n = d.length from hlz.symm]
        exact ⟨_, .inl ⟨rfl, fun x h => by omega⟩, .inl ⟨List.eq_nil_of_length_eq_zero (hlz.trans hz), rfl⟩⟩
    · have g2 : decide ((0 : Int) < (n : Int)) = true := decide_eq_true (by omega)
      obtain ⟨b, o, x, hA, hx, hcx⟩ := HR2.out.at_ (by rw [HL.out]; exact hpos : 0 < d.length)
      subst hA
      rw [Nat.add_zero] at hcx
      have hbc : ∀ q, ∀ i, i < n → (w2.drewN q).cell? ⟨b, o + i, none⟩ = some (.int .u8 ((Lib.numsL d).getD i 0)) := by
        intro q i hi
        obtain ⟨b', o', e, hc⟩ := HR2.out (by rw [List.length_map, HL.out]; exact hpos)
        cases e
        have h2 := hc i (by rw [List.length_map, HL.out]; exact hi)
        have hi' : i < d.length := by rw [HL.out]; exact hi
        have h3 : w2.cell? ⟨b, o + i, none⟩ = some (.int .u8 ((Lib.numsL d).getD i 0)) := by
          rw [h2]
          simp [Lib.numsL, List.getD, List.getElem?_eq_getElem hi', u8v]
        exact ((below_drewN w2 q).cell (block_lt h3)).trans h3
      have HCnt := Lib.hid (fun q => Tryz.bytes_Count_one b o n c b o c (Lib.numsL d) (x.toNat : Int) (w2.drewN q) (by rw [Lib.numsL_length, HL.out]) (hbc q) (((below_drewN w2 q).cell (block_lt hcx)).trans hcx))
      simp only [countByte_nat] at HCnt
      obtain ⟨k, hk⟩ : ∃ k, k = d.count x := ⟨_, rfl⟩
      have HKr := Lib.hid (show (k = n ∧ 1 < n) ↔ RunD d by
        unfold RunD
        have h := run_iff hx
        rw [← hk] at h
        rw [HL.out] at h ⊢
        constructor
        · intro h2; exact ⟨h2.2, h.1 h2.1⟩
        · intro h2; exact ⟨h.2 h2.2, h2.1⟩)
      rw [← hk] at HCnt
      have HXd := Lib.hid hx
      clear hk hbc hx
      go_upto_region 6 with fail
      go_cut [33] from 22 to 32 (fun s33 wx => ∃ t : Bool, s33 = .bool t ∧ (t = true ↔ RunD d) ∧ ∃ q, wx = w2.drewN q)
      case first =>
        by_cases h1 : k = n
        · have e1 : ((k : Int) == (n : Int)) = true := by rw [h1]; exact beq_self_eq_true _
          by_cases h2 : 1 < n
          · have e2 : decide ((1 : Int) < (n : Int)) = true := decide_eq_true (by omega)
            have HT := Lib.hid (show RunD d from HKr.out.1 ⟨h1, h2⟩)
            clear h1
            go_quiet ((go_at_call 10; exact Calls.quiet_of_same (HCnt.out _)))
            go_wp2_with fail
            go_meet
            case rel => exact ⟨true, rfl, ⟨fun _ => HT.out, fun _ => rfl⟩, _, rfl⟩
          · have e2 : decide ((1 : Int) < (n : Int)) = false := decide_eq_false (by omega)
            have HT := Lib.hid (show ¬ RunD d from fun h => h2 (HKr.out.2 h).2)
            clear h1
            go_quiet ((go_at_call 10; exact Calls.quiet_of_same (HCnt.out _)))
            go_wp2_with fail
            go_meet
            case rel => exact ⟨false, rfl, ⟨(fun h => by cases h), (fun h => absurd h HT.out)⟩, _, rfl⟩
        · have e1 : ((k : Int) == (n : Int)) = false := beq_eq_false_iff_ne.2 (by omega)
          have HT := Lib.hid (show ¬ RunD d from fun h => h1 (HKr.out.2 h).1)
          clear h1
          go_quiet ((go_at_call 10; exact Calls.quiet_of_same (HCnt.out _)))
          go_wp2_with fail
          go_meet
          case rel => exact ⟨false, rfl, ⟨(fun h => by cases h), (fun h => absurd h HT.out)⟩, _, rfl⟩
      case rest =>
        obtain ⟨t, rfl, ht, q, rfl⟩ := hcut
        have HT := Lib.hid ht
        have hbq := below_drewN w2 q
        have HOq := Lib.hid (Own.later HO2.out hbq)
        have HBq := Lib.hid (HB2.out.trans (hbq.mono HB2.out.size))
        have HKq := Lib.hid (HK2.out.later hbq)
        have HRq := Lib.hid (HR2.out.later hbq)
        have hcq := (hbq.cell (block_lt hcx)).trans hcx
        clear ht HO2 HB2 HK2 HR2 HCnt HKr hcx hbq
        obtain ⟨w3, hw3⟩ : ∃ w3, w3 = w2.drewN q := ⟨_, rfl⟩
        rw [← hw3] at HOq HBq HKq HRq hcq ⊢
        clear hw3
        go_upto_if 33 with fail
        go_cut [5] from 21 to 40 (fun s5 wx => ∃ (S : Option Addr) (m cs : Nat) (B : List UInt8), s5 = .slice S m cs ∧ OwnB wx w.heap.size S m cs B ∧ BestO d B ∧ m ≤ 1000000 ∧ Blk wx pd 22 #[.slice (some ⟨b, o, none⟩) n c] ∧ Below w.heap.size w wx)
        case first =>
          rcases t with _ | _
          · have hnr : ¬ RunD d := fun h => by have h2 := HT.out.2 h; cases h2
            go_wp2_with fail
            go_meet
            case rel =>
              refine ⟨A2, m1 + n, c2, _, rfl, HOq.out, .inl ⟨?_, fun x h1 h2 => hnr ⟨h1, x, h2⟩⟩, by omega, HKq.out, HBq.out⟩
              rw [HL.out]
          · have hrun := HT.out.1 rfl
            have hkc := HKq.out.cell 0
            simp only [List.getElem?_toArray, List.getElem?_cons_zero] at hkc
            have hlp := HKq.out.lt
            have hlb := block_lt hcq
            have HH1 := Lib.hid (fun (wq : World) (h : wq.cell? ⟨pd, 0, none⟩ = some (.slice (some ⟨b, o, none⟩) n c)) => HH.out 1 (by omega) wq h)
            have i1 : (0 : Int) < (n : Int) := by omega
            go_wp2_with fail
            have hal := (Below.refl w3.heap.size w3).alloc (Nat.le_refl _) (.cells #[.int .u8 (x.toNat : Int)] 5)
            have hcA := (hal.cell hlp).trans hkc
            go_region_held3 (fun w' => w'.cell? ⟨pd, 0, none⟩ = some (.slice (some ⟨b, o, none⟩) n c) ∧ w'.cell? ⟨b, o, none⟩ = some (.int .u8 (x.toNat : Int)))
              (first | go_keep | (exact K5) | (exact K4))
              ((first | (go_at_call 8; refine (HH1.out _ ?_).mono ?_; (first | exact hkc | exact hcA); rintro e w4 ⟨S4, m4, c4, rfl, hown4, hb4⟩; have hm4 := OwnB.length hown4; rw [List.length_cons] at hm4; have hb34 : Below w3.heap.size w3 w4 := (by first | exact (Below.refl _ _).drew.trans hb4 | exact hal.drew.trans (hb4.mono (by simp))); have K4 := (show w4.cell? ⟨pd, 0, none⟩ = some (.slice (some ⟨b, o, none⟩) n c) ∧ w4.cell? ⟨b, o, none⟩ = some (.int .u8 (x.toNat : Int)) from ⟨(hb34.cell hlp).trans hkc, (hb34.cell hlb).trans hcq⟩)) | (refine step_append_rd rfl _ _ elemB rfl w3.heap.size S4 m4 c4 _ rfl (Own.alloc hown4 _) (some ⟨w4.heap.size, 0, none⟩) 1 1 [.int .u8 (x.toNat : Int)] rfl (Rd.one w4 _ 5) rfl (one_int x) ?_ ?_ ?_ ?_; omega; omega; (exact Nat.le_trans hb34.size (by simp)); intro A5 c5 w5 hown5 hb5 hg5 hat5; have hb35 : Below w3.heap.size w3 w5 := (hb34.alloc hb34.size _).trans hb5; have K5 := (show w5.cell? ⟨pd, 0, none⟩ = some (.slice (some ⟨b, o, none⟩) n c) ∧ w5.cell? ⟨b, o, none⟩ = some (.int .u8 (x.toNat : Int)) from ⟨(hb35.cell hlp).trans hkc, (hb35.cell hlb).trans hcq⟩)) | (refine step_append_rd rfl _ _ elemB rfl w3.heap.size S4 m4 c4 _ rfl (Own.mono hown4 (by simp)) (some ⟨w3.heap.size, 0, none⟩) 1 1 [.int .u8 (x.toNat : Int)] rfl (Rd.later (Rd.one w3 _ 5) ((Below.refl _ _).drew.trans hb4)) rfl (one_int x) ?_ ?_ ?_ ?_; omega; omega; (exact hb34.size); intro A5 c5 w5 hown5 hb5 hg5 hat5; have hb35 : Below w3.heap.size w3 w5 := hb34.trans hb5; have K5 := (show w5.cell? ⟨pd, 0, none⟩ = some (.slice (some ⟨b, o, none⟩) n c) ∧ w5.cell? ⟨b, o, none⟩ = some (.int .u8 (x.toNat : Int)) from ⟨(hb35.cell hlp).trans hkc, (hb35.cell hlb).trans hcq⟩))))
            all_goals
              have hs3 := HBq.out.size
              have HO5 := Lib.hid (show OwnB w5 w.heap.size A5 (m4 + 1) c5 (1 :: numB 5 n ++ [x]) from by
                have h := Own.mono hown5 hs3
                unfold OwnB
                simp only [List.map_append, List.map_cons, List.cons_append, List.map_nil] at h ⊢
                exact h)
              have HK5 := Lib.hid (HKq.out.later hb35)
              have HB5 := Lib.hid (HBq.out.trans (hb35.mono hs3))
              clear hown4 hown5 hb4 hb5 hb34 hb35 K5 hg5 hat5 HKq HBq HOq HRq
              go_wp2_with fail
              go_meet
              case rel =>
                refine ⟨A5, m4 + 1, c5, _, rfl, HO5.out, .inr ⟨x, hrun.1, ?_, by rw [HL.out]⟩, by omega, HK5.out, HB5.out⟩
                obtain ⟨-, y, hy⟩ := hrun
                have h0 := HXd.out
                rw [(List.eq_replicate_iff.1 hy).2 x (List.mem_of_getElem? h0)]
                exact hy
        case rest =>
          clear HOq HKq HBq hcq
          obtain ⟨S4, m4, c4, B4, rfl, hown4, hbo, hm4, hk4, hb4⟩ := hcut
          clear HRq HXd HT
          have HO4 := Lib.hid hown4
          have HBo := Lib.hid hbo
          have HK4 := Lib.hid hk4
          have HB4 := Lib.hid hb4
          have hml4 := OwnB.length hown4
          have hs4 := hb4.size
          have hkc := hk4.cell 0
          simp only [List.getElem?_toArray, List.getElem?_cons_zero] at hkc
          have HFi := Lib.hid (mFindX (some ⟨b, o, none⟩) n c d wc HL.out (HR.out.later hb4) hn hc (fun b' hb' => Nat.lt_of_lt_of_le (HLow.out b' hb') hs4))
          clear hown4 hbo hk4 hb4
          go_wp2_with fail
          refine HFi.out.mono ?_
          rintro e w5 ⟨S5, m5, c5, L, rfl, hown5, hfit, hfl, hb5⟩
          have hm5 := hown5.length
          have hmany := hfit.many
          rw [HL.out] at hmany
          have HFit := Lib.hid hfit
          have HFl := Lib.hid hfl
          have HS5 := Lib.hid hown5
          have HB5 := Lib.hid (HB4.out.trans (hb5.mono hs4))
          have HO5 := Lib.hid (Own.later HO4.out hb5)
          have HK5 := Lib.hid (HK4.out.later hb5)
          have HLi := Lib.hid (matchLits (some ⟨b, o, none⟩) n c d S5 m5 c5 L w5 HL.out ((HR.out.later HB4.out).later hb5) hn hc hc2 hm5 hown5.ss (by omega) (hfit.fits (by rw [HL.out]; omega)))
          have hlp := lits_pos hfit (by rw [HL.out]; exact hpos)
          have hll := litsL_len L d
          rw [HL.out] at hll
          have hkc5 := HK5.out.cell 0
          simp only [List.getElem?_toArray, List.getElem?_cons_zero] at hkc5
          clear hown5 hfit hfl hb5 HFi HO4 HK4 HB4 hkc
          go_wp2_with fail
          refine HLi.out.mono ?_
          rintro e w6 ⟨S6, m6, c6, rfl, hown6, hb6⟩
          have hm6 := OwnB.length hown6
          rw [hm6] at hlp hll
          have hs5 := HB5.out.size
          have HL6 := Lib.hid hown6
          have HB6 := Lib.hid (HB5.out.trans (hb6.mono hs5))
          have HO6 := Lib.hid (Own.later HO5.out hb6)
          have HS6 := Lib.hid (HS5.out.later hb6)
          have HK6 := Lib.hid (HK5.out.later hb6)
          have hkc6 := HK6.out.cell 0
          simp only [List.getElem?_toArray, List.getElem?_cons_zero] at hkc6
          have HH2 := Lib.hid (HH.out 2 (by omega) w6 hkc6)
          clear hown6 hb6 HLi HB5 HO5 HS5 HK5 hkc5
          go_wp2_with fail
          refine HH2.out.mono ?_
          rintro e w7 ⟨S7, m7, c7, rfl, hown7, hb7⟩
          have hm7 := OwnB.length hown7
          rw [List.length_cons] at hm7
          have hs6 := HB6.out.size
          have HB7 := Lib.hid (HB6.out.trans (hb7.mono hs6))
          have HO7 := Lib.hid (Own.later HO6.out hb7)
          have HS7 := Lib.hid (HS6.out.later hb7)
          have HK7 := Lib.hid (HK6.out.later hb7)
          have HPL := Lib.hid (packLiteralsX S7 m7 c7 _ S6 m6 c6 (litsL d L) w7 (OwnB.length hown7) (OwnB.bs hown7) (by omega) hm6 ((OwnB.bs HL6.out).later hb7) hlp (by omega))
          clear hown7 hb7 HH2 HB6 HO6 HS6 HK6 HL6 hkc6
          go_wp2_with fail
          refine HPL.out.mono ?_
          rintro e w8 ⟨S8, m8, c8, b8, rfl, hown8, hlits, hb8⟩
          have hm8 := OwnB.length hown8
          simp only [List.length_append, List.length_cons] at hm8
          have hlb := litsB_len hlits.b (by omega)
          have hs7 := HB7.out.size
          have HB8 := Lib.hid (HB7.out.trans (hb8.mono hs7))
          have HO8 := Lib.hid (Own.later HO7.out hb8)
          have HK8 := Lib.hid (HK7.out.later hb8)
          have HLt := Lib.hid hlits
          have HPS := Lib.hid (packStepsX S8 m8 c8 _ S5 m5 c5 L w8 (OwnB.length hown8) (OwnB.bs hown8) (by omega) hm5 (HS7.out.later hb8).ss (HFit.out.small (by rw [HL.out]; exact hn)) (by omega))
          clear hown8 hb8 HPL HB7 HO7 HS7 HK7 hlits
          go_wp2_with fail
          refine HPS.out.mono ?_
          rintro e w9 ⟨S9, m9, c9, b9, rfl, hown9, hsteps, hb9⟩
          have hm9 := OwnB.length hown9
          have hs8 := HB8.out.size
          have HB9 := Lib.hid (HB8.out.trans (hb9.mono hs8))
          have HO9 := Lib.hid (Own.later HO8.out hb9)
          have HK9 := Lib.hid (HK8.out.later hb9)
          have HX9 := Lib.hid (Own.mono hown9 hs8)
          have HSt := Lib.hid hsteps
          have hkc9 := HK9.out.cell 0
          simp only [List.getElem?_toArray, List.getElem?_cons_zero] at hkc9
          clear hown9 hb9 HPS HB8 HO8 HK8 hsteps
          by_cases hlt9 : m9 < m4
          · have g9 : decide ((m9 : Int) < (m4 : Int)) = true := decide_eq_true (by omega)
            go_wp2_with fail
            go_meet
            case rel =>
              refine ⟨S9, m9, c9, _, rfl, HX9.out, ?_, by omega, hkc9, HB9.out⟩
              have hlz := HL.out
              refine ⟨B4, HBo.out, .inr ⟨fun e => by rw [e] at hlz; simp at hlz; omega, b8, b9, HFl.out ▸ HLt.out, HFl.out ▸ HSt.out, ?_⟩⟩
              rw [if_pos (by rw [hml4, hlz]; exact Nat.lt_of_le_of_lt (Nat.le_of_eq hm9) hlt9), hlz]
              rfl
          · have g9 : decide ((m9 : Int) < (m4 : Int)) = false := decide_eq_false (by omega)
            go_wp2_with fail
            go_meet
            case rel =>
              refine ⟨S4, m4, c4, B4, rfl, HO9.out, ?_, hm4, hkc9, HB9.out⟩
              have hlz := HL.out
              refine ⟨B4, HBo.out, .inr ⟨fun e => by rw [e] at hlz; simp at hlz; omega, b8, b9, HFl.out ▸ HLt.out, HFl.out ▸ HSt.out, ?_⟩⟩
              rw [if_neg (by rw [hml4, hlz]; intro h; exact hlt9 (Nat.lt_of_le_of_lt (Nat.le_of_eq hm9.symm) h))]
  case rest =>
    obtain ⟨S3, m3, c3, B, rfl, hown3, hbest, hm3, hcell3, hb3⟩ := hcut
    have HO3 := Lib.hid hown3
    have HBe := Lib.hid hbest
    have HB3 := Lib.hid hb3
    have hs3 := hb3.size
    have HSum := Lib.hid (packSum A n c d wc HL.out (HR.out.later hb3) (by omega))
    clear hown3 hbest hb3 HO2 HB2 HK2 HR2 HH HLow
    go_wp2_with fail
    refine HSum.out.mono ?_
    rintro e w4 ⟨A4, c4, rfl, hown4, hb4⟩
    have HO4 := Lib.hid hown4
    have HP4 := Lib.hid (Own.later HO3.out hb4)
    have HB4 := Lib.hid (HB3.out.trans (hb4.mono hs3))
    have hlen4 := OwnB.length hown4
    clear hown4 hb4 HSum HO3 HB3
    go_wp2_with (at_builtin; refine wpList_append_rd rfl _ _ elemB rfl w.heap.size S3 m3 c3 (B.map u8v) rfl HP4.out A4 4 c4 ((sumOf d).map u8v) rfl ?a1 ?a2 (u8_one _) ?a3 ?a4 ?a5 ?_)
    case a1 => exact Own.rd HO4.out
    case a2 => rw [List.length_map]; exact hlen4
    case a3 => omega
    case a4 => omega
    case a5 => exact HB4.out.size
    intro A5 c5 w5 hown5 hb5 hg5 hat5
    have HO5 := Lib.hid (show OwnB w5 w.heap.size A5 (m3 + 4) c5 (B ++ sumOf d) from by unfold OwnB; rw [List.map_append]; exact hown5)
    have HB5 := Lib.hid (HB4.out.trans hb5)
    clear hown5 hb5 hg5 hat5
    go_wp2
    go_ret2
    exact ⟨A5, m3 + 4, c5, B, rfl, HO5.out, HBe.out, HB5.out⟩
end Go.Proofs.YtaelgbbnmjbjiaaGreat
namespace Go.Proofs.YtaelgbbnmjbjiaaGreat
open Go.RowKit
theorem bitLen_zero : Lib.bitLen 0 = 0 := rfl
theorem refCode (v : Nat) (w : World) (hv : v ≤ 65535) : Calls Tryz.prog 42 #[.int .i64 (v : Int)] w fun e w' => e = .returned (.int .i64 ((Lib.bitLen v : Nat) : Int)) ∧ w' = w := by
  go_enter Tryz.func42, Tryz.ntmps42
  go_wp2
  go_loopg [0, 3] v (fun gg s0 s3 wr => ∃ x n : Nat, x ≤ gg ∧ x ≤ 65535 ∧ n + x ≤ 65536 ∧ s0 = .int .i64 (x : Int) ∧ s3 = .int .i64 (n : Int) ∧ n + Lib.bitLen x = Lib.bitLen v ∧ wr = w)
  case atStart => exact ⟨v, 0, Nat.le_refl _, hv, by omega, rfl, rfl, by omega, rfl⟩
  case round =>
    obtain ⟨x, n, hg, hx, hnx, rfl, rfl, hn, rfl⟩ := hrel
    have HN := Lib.hid hn
    clear hn
    by_cases h0 : 0 < x
    · have HB := Lib.hid (bitLen_go h0 (by omega : x < 2 ^ 64))
      go_wp2
      go_roundg (x / 2)
      case measure => omega
      case rel => exact ⟨x / 2, n + 1, Nat.le_refl _, by omega, by omega, by go_num, by go_num, by have h1 := HN.out; have h2 := HB.out; omega, rfl⟩
    · obtain rfl : x = 0 := by omega
      go_wp2
      go_ret
      exact ⟨ret_int (by have h := HN.out; rw [bitLen_zero] at h; omega), rfl⟩
set_option maxRecDepth 10000 in
theorem refValue (x : Sq) (k : Nat) (w : World) (hx : SmallQ x) (hk : k < 3) : Calls Tryz.prog 43 #[sqV x, .int .i64 (k : Int)] w fun e w' => e = .returned (.int .i64 ((numQ k x : Nat) : Int)) ∧ Below w.heap.size w w' := by
  obtain ⟨x1, x2, x3⟩ := x
  obtain ⟨h1, h2, h3, h4, h5⟩ := hx
  simp only at h1 h2 h3 h4 h5
  have HB := Lib.hid ((Below.refl w.heap.size w).alloc (Nat.le_refl _) (.cells #[.int .i64 (x1 : Int), .int .i64 (x2 : Int), .int .i64 (x3 : Int)] 52))
  unfold sqV
  simp only
  rcases (by omega : k = 0 ∨ k = 1 ∨ k = 2) with rfl | rfl | rfl
  · go_enter Tryz.func43, Tryz.ntmps43
    go_wp2
    go_ret
    exact ⟨rfl, HB.out⟩
  · go_enter Tryz.func43, Tryz.ntmps43
    go_wp2
    go_ret
    exact ⟨ret_int (by unfold numQ; rw [if_neg (by omega), if_pos rfl]; show ((x2 : Int) - 4) = ((x2 - 4 : Nat) : Int); omega), HB.out⟩
  · go_enter Tryz.func43, Tryz.ntmps43
    go_wp2
    go_ret
    exact ⟨ret_int (by unfold numQ; rw [if_neg (by omega), if_neg (by omega)]; show ((x3 : Int) - 1) = ((x3 - 1 : Nat) : Int); omega), HB.out⟩
end Go.Proofs.YtaelgbbnmjbjiaaGreat
namespace Go.Proofs.YtaelgbbnmjbjiaaGreat
open Go.RowKit
def litB (lens : List Nat) (l : List UInt8) : List UInt8 := if (codedB lens l).length < 1 + l.length then codedB lens l else 0 :: l
set_option maxHeartbeats 4000000 in
set_option maxRecDepth 10000 in
theorem refLiterals (A : Option Addr) (n c : Nat) (l : List UInt8) (lens : List Nat) (w : World) (hl : l.length = n) (hr : Bs w A l) (hn0 : 0 < n) (hn : n ≤ 65536) (hok : LensOk (cntB l) lens) (hx : LensX (cntB l) lens) :
    Calls Tryz.prog 19 #[.slice A n c] w fun e w' => ∃ S m cs, e = .returned (.slice S m cs) ∧ OwnB w' w.heap.size S m cs (numB 5 n ++ litB lens l) ∧ Below w.heap.size w w' := by
  have HN := Lib.hid (refNum none 0 0 [] n w rfl (Rd.nil _ _) (by omega) (by omega))
  have HL := Lib.hid hl
  have HR := Lib.hid hr
  have HOk := Lib.hid hok
  have HX := Lib.hid hx
  clear hl hr hok hx
  obtain ⟨ti, hi, hz0, hz1, hz2⟩ := info_parts elemN_info
  go_enter Tryz.func19, Tryz.ntmps19
  go_wp2_with fail
  refine HN.out.mono ?_
  rintro e w1 ⟨A1, m1, c1, rfl, hown1, hb1⟩
  have hm1 := OwnB.length hown1
  have hnb := numB_len 5 n
  rw [List.nil_append] at hm1
  have hm19 : m1 ≤ 10 := by omega
  have HO1 := Lib.hid (show OwnB w1 w.heap.size A1 m1 c1 (numB 5 n) from hown1)
  have HB1 := Lib.hid hb1
  clear hown1 hb1 HN hm1 hnb
  go_wp2_with (at_builtin; refine wpList_append_one rfl _ _ elemB rfl w1.heap.size none 0 0 [] w1 (.int .u8 0) rfl rfl (Own.nil _ _ _) rfl rfl ?d1 ?d2 (Nat.le_refl _) ?_)
  case d1 => omega
  case d2 => omega
  intro A2 c2 w2 hown2 hb2 hg2 hat2
  have HO2 := Lib.hid (show OwnB w2 w1.heap.size A2 1 c2 [0] from hown2)
  have HB2 := Lib.hid hb2
  clear hown2 hb2 hg2 hat2
  go_wp2_with (at_builtin; refine wpList_append_rd rfl _ _ elemB rfl w1.heap.size A2 1 c2 ([0].map u8v) rfl HO2.out A n c (l.map u8v) rfl ?a1 ?a2 (u8_one _) ?a3 ?a4 HB2.out.size ?_)
  case a1 => exact HR.out.later (HB1.out.trans (HB2.out.mono HB1.out.size))
  case a2 => rw [List.length_map]; exact HL.out
  case a3 => omega
  case a4 => omega
  intro A3 c3 w3 hown3 hb3 hg3 hat3
  have HO3 := Lib.hid (show OwnB w3 w1.heap.size A3 (1 + n) c3 (0 :: l) from hown3)
  have HB3 := Lib.hid (HB2.out.trans hb3)
  have HP3 := Lib.hid (Own.later HO1.out HB3.out)
  have HW3 := Lib.hid (HB1.out.trans (HB3.out.mono HB1.out.size))
  clear hown3 hb3 hg3 hat3 HO2 HO1 HB2
  go_wp2_with (at_make; refine wpList_make_full _ rfl _ _ 45 rfl w3.heap.size 3 ti _ 1 Tryz.underlying45 hi hz0 hz1 .i64 .i64 256 256 256 rfl rfl rfl rfl (by rw [hz2]; omega) (by unfold maxLen; omega) (Nat.le_refl _) ?_)
  intro w4 hown4 hg4
  rw [made_zeros] at hown4
  have HO4 := Lib.hid (show OwnN w4 w3.heap.size (some ⟨w3.heap.size, 0, none⟩) 256 256 (cntTo l 0) from hown4)
  have HB4 := Lib.hid ((Below.refl _ _).grown hg4 (Nat.le_refl _) (fun k hk => by cases hk) : Below w3.heap.size w3 w4)
  clear hown4 hg4 hi hz0 hz1 hz2
  have hw03 := HW3.out.size
  go_wp2_with fail
  go_loopg [6] n (fun gg s6 wr => ∃ k : Nat, k ≤ n ∧ n - k ≤ gg ∧ s6 = .int .i64 (k : Int) ∧ OwnN wr w3.heap.size (some ⟨w3.heap.size, 0, none⟩) 256 256 (cntTo l k) ∧ Below w3.heap.size w3 wr)
  case atStart => exact ⟨0, by omega, by omega, rfl, HO4.out, HB4.out⟩
  case round =>
    clear HO4 HB4
    obtain ⟨k, hk, hgg, rfl, hown, hbel⟩ := hrel
    have HO := Lib.hid hown
    have HB := Lib.hid hbel
    clear hown hbel
    by_cases hkn : k < n
    · obtain ⟨b, o, x, hA, hx, hc⟩ := HR.out.at_ (by rw [HL.out]; exact hkn : k < l.length)
      subst hA
      have hc1 := (HW3.out.cell (by simpa using block_lt hc)).trans hc
      have hc2 := (HB.out.cell (by simpa using block_lt hc1)).trans hc1
      have HSt := Lib.hid (cntTo_step hx)
      have hxl := x.toNat_lt
      obtain ⟨gz, xz, hgz, hg1, -, hxz, hcz, hfz⟩ := Own.at_ HO.out (k := x.toNat) hxl
      cases hgz
      obtain ⟨v, hv⟩ : ∃ v, v = (cntTo l k).getD x.toNat 0 := ⟨_, rfl⟩
      have hvk : v ≤ k := by rw [hv]; exact cntTo_le l k _
      have hxv : xz = .int .i64 (v : Int) := by
        rw [List.getElem?_map] at hxz
        rw [hv, List.getD]
        cases hq : (cntTo l k)[x.toNat]? with
        | none => rw [hq] at hxz; cases hxz
        | some q => rw [hq] at hxz; exact (Option.some.inj hxz).symm
      subst hxv
      have HO2 := Lib.hid (show OwnN (wr.setCell ⟨w3.heap.size, x.toNat, none⟩ (.int .i64 ((v : Int) + 1))) w3.heap.size (some ⟨w3.heap.size, 0, none⟩) 256 256 (cntTo l (k + 1)) from by
        have h := (Own.stored HO.out x.toNat (natv (v + 1))).1
        rw [← List.map_set, hv, ← HSt.out] at h
        have e : natv (v + 1) = .int .i64 ((v : Int) + 1) := by unfold natv; rw [Int.natCast_add]; rfl
        rw [← hv, e] at h
        exact h)
      have HB2 := Lib.hid (HB.out.setCell (p := ⟨w3.heap.size, x.toNat, none⟩) hg1 (.int .i64 ((v : Int) + 1)))
      have i1 : (0 : Int) ≤ (x.toNat : Int) := by omega
      have i2 : (x.toNat : Int) < 256 := by omega
      clear hx hc hc1 hxz hv HSt
      go_wp2
      go_roundg (n - (k + 1))
      case measure => omega
      case rel => exact ⟨k + 1, by omega, by omega, by go_num, HO2.out, HB2.out⟩
    · obtain rfl : k = n := by omega
      have HO5 := Lib.hid (show OwnN wr w3.heap.size (some ⟨w3.heap.size, 0, none⟩) 256 256 (cntB l) from by
        have h := HO.out
        rw [cntTo_all HL.out.symm] at h; exact h)
      have HLn := Lib.hid (refLengths (some ⟨w3.heap.size, 0, none⟩) 256 256 (cntB l) lens wr (cntB_len l) (OwnN.ns HO5.out) (Nat.le_refl _) (Nat.le_refl _) (fun x hx => by have := cntB_le hx; have := HL.out; omega) HX.out)
      clear HO
      go_wp2_with fail
      refine HLn.out.mono ?_
      rintro e w5 ⟨S5, m5, c5, rfl, hown5, hb5⟩
      have hm5 := OwnN.length hown5
      have HO5 := Lib.hid hown5
      have HB5 := Lib.hid (HB.out.trans (hb5.mono HB.out.size))
      have HPT := Lib.hid (refPutTable S5 m5 c5 lens w5 hm5 (OwnN.ns hown5) HOk.out.may)
      have HM5 := Lib.hid hm5
      clear hown5 hb5 HLn HB hm5
      go_wp2_with fail
      refine HPT.out.mono ?_
      rintro e w6 ⟨S6, m6, c6, rfl, hown6, hb6⟩
      have HO6 := Lib.hid hown6
      have HB6 := Lib.hid (HB5.out.trans (hb6.mono HB5.out.size))
      have HEn := Lib.hid (refEncode S5 m5 c5 lens A k c l w6 HM5.out ((OwnN.ns HO5.out).later hb6) HOk.out.may HL.out ((HR.out.later HW3.out).later HB6.out) (by omega) (fun b hb => by rw [← HM5.out]; exact HOk.out.pos _ (cntB_pos hb)))
      clear hown6 hb6 HPT HB5
      go_wp2_with fail
      refine HEn.out.mono ?_
      rintro e w7 ⟨S7, m7, c7, rfl, hown7, hb7⟩
      have HO7 := Lib.hid hown7
      have HT7 := Lib.hid (Own.later HO6.out hb7)
      have HB7 := Lib.hid (HB6.out.trans (hb7.mono HB6.out.size))
      have hm7 := OwnB.length hown7
      have hm6 := OwnB.length HO6.out
      have htl := table_len HOk.out.may
      rw [hm6] at htl
      have hbl := body_len (mayL_facts HOk.out.may).2.2 l
      rw [hm7, HL.out] at hbl
      have HM6 := Lib.hid hm6
      have HM7 := Lib.hid hm7
      clear hown7 hb7 HEn HB6 HO6 HO5 hm6 hm7
      obtain ⟨tb, htb⟩ : ∃ tb, tb = tableB lens := ⟨_, rfl⟩
      obtain ⟨bd, hbd⟩ : ∃ bd, bd = bodyB lens l := ⟨_, rfl⟩
      have HTb := Lib.hid htb
      have HBd := Lib.hid hbd
      rw [← htb] at HT7 HM6
      rw [← hbd] at HO7 HM7
      clear htb hbd
      go_wp2_with (at_builtin; refine wpList_append_one rfl _ _ elemB rfl w7.heap.size none 0 0 [] w7 (.int .u8 1) rfl rfl (Own.nil _ _ _) ?hx rfl ?d1 ?d2 (Nat.le_refl _) ?_)
      case hx => rfl
      case d1 => omega
      case d2 => omega
      intro A8 c8 w8 hown8 hb8 hg8 hat8
      have HO8 := Lib.hid (show OwnB w8 w7.heap.size A8 1 c8 [1] from hown8)
      have HB8 := Lib.hid hb8
      clear hown8 hb8 hg8 hat8
      go_wp2_with (at_builtin; refine wpList_append_rd rfl _ _ elemB rfl w7.heap.size A8 1 c8 ([1].map u8v) ?hs HO8.out S6 m6 c6 (tb.map u8v) ?hx ?a1 ?a2 (u8_one _) ?a3 ?a4 HB8.out.size ?_)
      case hs => rfl
      case hx => rfl
      case a1 => exact Own.rd (Own.later HT7.out HB8.out)
      case a2 => rw [List.length_map]; exact HM6.out
      case a3 => omega
      case a4 => omega
      intro A9 c9 w9 hown9 hb9 hg9 hat9
      have HO9 := Lib.hid (show OwnB w9 w7.heap.size A9 (1 + m6) c9 (1 :: tb) from hown9)
      have HB9 := Lib.hid (HB8.out.trans hb9)
      have HPN := Lib.hid (refNum A9 (1 + m6) c9 (1 :: tb) m7 w9 (OwnB.length hown9) (OwnB.bs hown9) (by omega) (by omega))
      clear hown9 hb9 hg9 hat9 HO8 HB8
      go_wp2_with fail
      refine HPN.out.mono ?_
      rintro e w10 ⟨A10, m10, c10, rfl, hown10, hb10⟩
      have hm10 := OwnB.length hown10
      have hnb := numB_len 5 m7
      rw [List.length_append, List.length_cons, HM6.out] at hm10
      have hm109 : m10 ≤ m6 + 10 := by omega
      have HO10 := Lib.hid (show OwnB w10 w7.heap.size A10 m10 c10 (1 :: tb ++ numB 5 m7) from Own.mono hown10 HB9.out.size)
      have HB10 := Lib.hid (HB9.out.trans (hb10.mono HB9.out.size))
      clear hown10 hb10 HPN HO9 HB9 hm10 hnb
      go_wp2_with (at_builtin; refine wpList_append_rd rfl _ _ elemB rfl w7.heap.size A10 m10 c10 ((1 :: tb ++ numB 5 m7).map u8v) ?hs HO10.out S7 m7 c7 (bd.map u8v) ?hx ?a1 ?a2 (u8_one _) ?a3 ?a4 HB10.out.size ?_)
      case hs => rfl
      case hx => rfl
      case a1 => exact Own.rd (Own.later HO7.out HB10.out)
      case a2 => rw [List.length_map]; exact HM7.out
      case a3 => omega
      case a4 => omega
      intro A11 c11 w11 hown11 hb11 hg11 hat11
      have HO11 := Lib.hid (show OwnB w11 w7.heap.size A11 (m10 + m7) c11 (codedB lens l) from by
        unfold codedB
        rw [← HTb.out, ← HBd.out, HM7.out]
        unfold OwnB; simp only [List.map_append, List.map_cons, List.cons_append, List.append_assoc] at hown11 ⊢; exact hown11)
      have HB11 := Lib.hid (HB10.out.trans hb11)
      have HWp := Lib.hid (HB7.out.trans (HB11.out.mono HB7.out.size))
      have HPl := Lib.hid (Own.later HO3.out HWp.out)
      have HNm := Lib.hid (Own.later (Own.later HP3.out HB7.out) (HB11.out))
      have HWw := Lib.hid (HW3.out.trans (HWp.out.mono HW3.out.size))
      have hcl := OwnB.length HO11.out
      have hm10l : m10 + m7 ≤ 1000000 := by omega
      have HCl := Lib.hid hcl
      clear hown11 hb11 hg11 hat11 hcl HO10 HB10 HP3 HO3
      by_cases hlt : m10 + m7 < 1 + k
      · have HIf := Lib.hid (show litB lens l = codedB lens l from if_pos (by rw [HCl.out, HL.out]; exact hlt))
        go_wp2_with (at_builtin; refine wpList_append_rd rfl _ _ elemB rfl w.heap.size A1 m1 c1 ((numB 5 k).map u8v) ?hs HNm.out A11 (m10 + m7) c11 ((codedB lens l).map u8v) ?hx ?a1 ?a2 (u8_one _) ?a3 ?a4 HWw.out.size ?_)
        case hs => rfl
        case hx => rfl
        case a1 => exact Own.rd HO11.out
        case a2 => rw [List.length_map]; exact OwnB.length HO11.out
        case a3 => omega
        case a4 => omega
        intro A12 c12 w12 hown12 hb12 hg12 hat12
        have HO12 := Lib.hid (show OwnB w12 w.heap.size A12 (m1 + (m10 + m7)) c12 (numB 5 k ++ litB lens l) from by
          rw [HIf.out]
          unfold OwnB
          rw [List.map_append]
          exact hown12)
        have HB12 := Lib.hid (HWw.out.trans hb12)
        clear hown12 hb12 hg12 hat12
        go_wp2
        go_ret
        exact ⟨A12, m1 + (m10 + m7), c12, rfl, HO12.out, HB12.out⟩
      · have HIf := Lib.hid (show litB lens l = 0 :: l from if_neg (by rw [HCl.out, HL.out]; exact hlt))
        go_wp2_with (at_builtin; refine wpList_append_rd rfl _ _ elemB rfl w.heap.size A1 m1 c1 ((numB 5 k).map u8v) ?hs HNm.out A3 (1 + k) c3 ((0 :: l).map u8v) ?hx ?a1 ?a2 (u8_one _) ?a3 ?a4 HWw.out.size ?_)
        case hs => rfl
        case hx => rfl
        case a1 => exact Own.rd HPl.out
        case a2 => rw [List.length_map]; exact OwnB.length HPl.out
        case a3 => omega
        case a4 => omega
        intro A12 c12 w12 hown12 hb12 hg12 hat12
        have HO12 := Lib.hid (show OwnB w12 w.heap.size A12 (m1 + (1 + k)) c12 (numB 5 k ++ litB lens l) from by
          rw [HIf.out]
          unfold OwnB
          rw [List.map_append]
          exact hown12)
        have HB12 := Lib.hid (HWw.out.trans hb12)
        clear hown12 hb12 hg12 hat12
        go_wp2
        go_ret
        exact ⟨A12, m1 + (1 + k), c12, rfl, HO12.out, HB12.out⟩
end Go.Proofs.YtaelgbbnmjbjiaaGreat
