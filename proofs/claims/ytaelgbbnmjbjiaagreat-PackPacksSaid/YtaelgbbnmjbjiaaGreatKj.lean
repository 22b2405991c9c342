/-
  Parts of the proofs, in the order in which they build: X7, C5, C6, U1, D1, D2a, D2.
-/
import Derived.Test.YtaelgbbnmjbjiaaGreatKb
import Derived.Test.YtaelgbbnmjbjiaaGreatKi
import Derived.Lib.ItoaNum
import Derived.Deep.RegionHeld3
import Derived.Deep.CutBlock
import Derived.Deep.CutRange
import Derived.Lib.SlBytesConst
set_option linter.unusedSimpArgs false
set_option linter.unusedVariables false
namespace Go.Proofs.YtaelgbbnmjbjiaaGreat
open Go.RowKit
theorem pkNum_back {v : Nat} {most : Int} (hv : v ≤ 4294967295) (hm : (v : Int) ≤ most) (tail : List UInt8) : pkNum (numB 5 v ++ tail) most = some (v, (numB 5 v).length) := by
  unfold pkNum
  rw [num_back hv]
  show (if most < (v : Int) then none else some (v, (numB 5 v).length)) = _
  rw [if_neg (by omega)]
theorem lits_back {l B : List UInt8} {n : Nat} (h : LitsB l B) (hn : l.length ≤ n) (hn2 : n ≤ 65536) (tail : List UInt8) : litL (B ++ tail) n = some (l, tail) := by
  rcases h with rfl | ⟨lens, hL, rfl⟩
  · unfold litL
    rw [List.append_assoc, pkNum_back (by omega) (by omega)]
    show litHow ((numB 5 l.length ++ (0 :: l ++ tail)).drop (numB 5 l.length).length) l.length = _
    rw [List.drop_left]
    show litHow (0 :: (l ++ tail)) l.length = _
    simp only [litHow]
    rw [if_pos trivial, if_neg (by rw [List.length_append]; omega), List.take_left, List.drop_left]
  · obtain ⟨hm1, hm2, hm3⟩ := mayL_facts hL.may
    have hbl := body_len hm3 l
    have hd : ∀ b ∈ l, b.toNat < lens.length ∧ 0 < lens.getD b.toNat 0 := fun b hb => hL.pos _ (cntB_pos hb)
    have hdec := decode_body hL.may hd
    unfold litL
    rw [List.append_assoc, pkNum_back (by omega) (by omega)]
    show litHow ((numB 5 l.length ++ ((1 :: tableB lens ++ numB 5 (bodyB lens l).length ++ bodyB lens l) ++ tail)).drop (numB 5 l.length).length) l.length = _
    rw [List.drop_left]
    have e : (1 :: tableB lens ++ numB 5 (bodyB lens l).length ++ bodyB lens l) ++ tail = 1 :: (tableB lens ++ (numB 5 (bodyB lens l).length ++ (bodyB lens l ++ tail))) := by simp
    rw [e]
    simp only [litHow]
    rw [if_neg (by decide), table_back hL.may]
    show (if (1 : UInt8) ≠ 1 then none else litNum ((tableB lens ++ (numB 5 (bodyB lens l).length ++ (bodyB lens l ++ tail))).drop (tableB lens).length) lens l.length (pkNum ((tableB lens ++ (numB 5 (bodyB lens l).length ++ (bodyB lens l ++ tail))).drop (tableB lens).length) (((tableB lens ++ (numB 5 (bodyB lens l).length ++ (bodyB lens l ++ tail))).drop (tableB lens).length).length : Int))) = _
    rw [if_neg (by simp), List.drop_left, pkNum_back (by omega) (by simp only [List.length_append]; omega)]
    show (if ((numB 5 (bodyB lens l).length ++ (bodyB lens l ++ tail)).drop (numB 5 (bodyB lens l).length).length).length < (bodyB lens l).length then none else litDec (((numB 5 (bodyB lens l).length ++ (bodyB lens l ++ tail)).drop (numB 5 (bodyB lens l).length).length).drop (bodyB lens l).length) (decodeL lens (((numB 5 (bodyB lens l).length ++ (bodyB lens l ++ tail)).drop (numB 5 (bodyB lens l).length).length).take (bodyB lens l).length) l.length)) = _
    rw [List.drop_left, List.drop_left, List.take_left, hdec, if_neg (by rw [List.length_append]; omega)]
    rfl
theorem str_back {L : List Sq} {k : Nat} {B : List UInt8} (h : StrB k L B) (hL : L.length ≤ 65536) (hs : ∀ x ∈ L, symQ k x < 17) (tail : List UInt8) : streamL (B ++ tail) L.length = some (L.map (symQ k), tail) := by
  obtain ⟨sh, hsh, rfl⟩ := h
  have hlen17 : (incT (List.replicate 17 0) (L.map (symQ k))).length = 17 := by rw [incT_len, List.length_replicate]
  have hmay := hsh.may (by omega)
  have hpos : ∀ s ∈ L.map (symQ k), 0 < sh.getD s 0 := by
    intro s hs2
    refine hsh.has s (incT_pos _ _ _ hs2 ?_)
    obtain ⟨x, hx, rfl⟩ := List.mem_map.1 hs2
    rw [List.length_replicate]; exact hs x hx
  have hbk := fse_back hmay hpos
  have hel := encodeL_len hsh.sum hpos
  rw [List.length_map] at hel hbk
  have hshl := hsh.len
  obtain ⟨E, hE⟩ : ∃ E, E = encodeL sh (L.map (symQ k)) := ⟨_, rfl⟩
  rw [← hE] at hbk hel ⊢
  unfold streamL
  rw [List.append_assoc, share_back hmay]
  show (if (6 : Nat) ≠ 6 ∨ 17 < sh.length then none else strNum ((shareB sh ++ ((numB 5 E.length ++ E) ++ tail)).drop (shareB sh).length) sh L.length (pkNum ((shareB sh ++ ((numB 5 E.length ++ E) ++ tail)).drop (shareB sh).length) (((shareB sh ++ ((numB 5 E.length ++ E) ++ tail)).drop (shareB sh).length).length : Int))) = _
  rw [if_neg (by omega), List.drop_left, List.append_assoc, pkNum_back (by omega) (by simp only [List.length_append]; omega)]
  show (if ((numB 5 E.length ++ (E ++ tail)).drop (numB 5 E.length).length).length < E.length then none else strDec (((numB 5 E.length ++ (E ++ tail)).drop (numB 5 E.length).length).drop E.length) (fdecodeL sh (((numB 5 E.length ++ (E ++ tail)).drop (numB 5 E.length).length).take E.length) L.length)) = _
  rw [List.drop_left, List.drop_left, List.take_left, hbk, if_neg (by rw [List.length_append]; omega)]
  rfl
theorem bitLen_of0 : Lib.bitLen 0 = 0 := rfl
theorem bitLen_in {v : Nat} (h0 : 0 < v) (h : v ≤ 65535) : 1 ≤ Lib.bitLen v ∧ 2 ^ (Lib.bitLen v - 1) ≤ v ∧ v < 2 ^ Lib.bitLen v ∧ Lib.bitLen v ≤ 16 :=
  have hb := Lib.bitLenAux_bounds 64 v (by omega) (by omega)
  ⟨hb.1, hb.2.1, hb.2.2, Lib.bitLen_le v 16 (by omega) (by omega)⟩
theorem bitLen_most16 {v : Nat} (h : v ≤ 65535) : Lib.bitLen v ≤ 16 := Lib.bitLen_le v 16 (by omega) (by omega)
theorem lowP_ok {v : Nat} (h : v ≤ 65535) : putsOk (lowP v) := by
  unfold lowP
  split
  · intro p hp
    rw [List.mem_singleton] at hp
    subst hp
    obtain ⟨h1, h2, h3, h4⟩ := bitLen_in (v := v) (by omega) h
    refine ⟨by show Lib.bitLen v - 1 ≤ 32; omega, ?_⟩
    show v - 2 ^ (Lib.bitLen v - 1) < 2 ^ (Lib.bitLen v - 1)
    have : 2 ^ Lib.bitLen v = 2 ^ (Lib.bitLen v - 1) * 2 := by rw [← Nat.pow_succ, show (Lib.bitLen v - 1).succ = Lib.bitLen v by omega]
    omega
  · intro p hp; cases hp
theorem num_low {v : Nat} (hv : v ≤ 65535) {a b : List (Nat × Nat)} (h : putsOk (a ++ (lowP v ++ b))) : numT (bytesS (putsS w0 (a ++ (lowP v ++ b)))) (putsLen a) (Lib.bitLen v) = (v, putsLen (a ++ lowP v), false) := by
  unfold numT
  rcases Nat.eq_zero_or_pos v with h0 | h0
  · subst h0
    have e : lowP 0 = [] := rfl
    rw [bitLen_of0, if_pos rfl, e, List.append_nil]
  · obtain ⟨h1, h2, h3, h4⟩ := bitLen_in h0 hv
    have hlen := puts_length h
    by_cases hv1 : 1 < v
    · have e : lowP v = [(Lib.bitLen v - 1, v - 2 ^ (Lib.bitLen v - 1))] := by unfold lowP; rw [if_pos hv1]
      rw [e] at h hlen ⊢
      have hn := num_puts (a := a) (k := Lib.bitLen v - 1) (v := v - 2 ^ (Lib.bitLen v - 1)) (b := b) [] h
      rw [List.append_nil] at hn
      have hT : putsLen (a ++ ([(Lib.bitLen v - 1, v - 2 ^ (Lib.bitLen v - 1))] ++ b)) = putsLen a + (Lib.bitLen v - 1 + putsLen b) := by rw [putsLen_append]; rfl
      have hT2 : putsLen (a ++ [(Lib.bitLen v - 1, v - 2 ^ (Lib.bitLen v - 1))]) = putsLen a + (Lib.bitLen v - 1) := by rw [putsLen_append]; rfl
      rw [hT] at hlen
      rw [if_neg (by omega), if_neg (by omega), hT2]
      have e2 : [(Lib.bitLen v - 1, v - 2 ^ (Lib.bitLen v - 1))] ++ b = (Lib.bitLen v - 1, v - 2 ^ (Lib.bitLen v - 1)) :: b := rfl
      rw [e2, hn, show 2 ^ (Lib.bitLen v - 1) + (v - 2 ^ (Lib.bitLen v - 1)) = v by omega]
    · obtain rfl : v = 1 := by omega
      have e : lowP 1 = [] := rfl
      have e1 : Lib.bitLen 1 = 1 := by decide +kernel
      rw [e] at hlen ⊢
      rw [e1, List.append_nil]
      have hT : putsLen (a ++ ([] ++ b)) = putsLen a + putsLen b := by rw [List.nil_append, putsLen_append]
      rw [hT] at hlen
      rw [if_neg (by omega), if_neg (by omega)]
      rfl
theorem lowsP_ok {x : Sq} (h : SmallQ x) : putsOk (lowsP x) := by
  intro p hp
  rcases List.mem_append.1 hp with h1 | h1
  · exact lowP_ok (numQ_le h 0) p h1
  · rcases List.mem_append.1 h1 with h1 | h1
    · exact lowP_ok (numQ_le h 1) p h1
    · exact lowP_ok (numQ_le h 2) p h1
theorem lowsL_ok : ∀ {L : List Sq}, (∀ x ∈ L, SmallQ x) → putsOk (L.flatMap lowsP)
  | [], _ => fun p hp => by cases hp
  | x :: r, h => fun p hp => by
    rw [List.flatMap_cons] at hp
    rcases List.mem_append.1 hp with h1 | h1
    · exact lowsP_ok (h x List.mem_cons_self) p h1
    · exact lowsL_ok (fun y hy => h y (List.mem_cons_of_mem _ hy)) p h1
theorem rd3_low {x : Sq} (hx : SmallQ x) {a b : List (Nat × Nat)} (h : putsOk (a ++ (lowsP x ++ b))) :
    rd3 (bytesS (putsS w0 (a ++ (lowsP x ++ b)))) [symQ 0 x, symQ 1 x, symQ 2 x] (putsLen a) false [] = (putsLen (a ++ lowsP x), false, [numQ 0 x, numQ 1 x, numQ 2 x]) := by
  have e0 : a ++ (lowsP x ++ b) = a ++ (lowP (numQ 0 x) ++ (lowP (numQ 1 x) ++ (lowP (numQ 2 x) ++ b))) := by unfold lowsP; simp
  have e1 : a ++ (lowsP x ++ b) = (a ++ lowP (numQ 0 x)) ++ (lowP (numQ 1 x) ++ (lowP (numQ 2 x) ++ b)) := by unfold lowsP; simp
  have e2 : a ++ (lowsP x ++ b) = (a ++ lowP (numQ 0 x) ++ lowP (numQ 1 x)) ++ (lowP (numQ 2 x) ++ b) := by unfold lowsP; simp
  have e3 : a ++ lowsP x = (a ++ lowP (numQ 0 x) ++ lowP (numQ 1 x)) ++ lowP (numQ 2 x) := by unfold lowsP; simp
  have n0 := num_low (numQ_le hx 0) (e0 ▸ h)
  have n1 := num_low (numQ_le hx 1) (e1 ▸ h)
  have n2 := num_low (numQ_le hx 2) (e2 ▸ h)
  rw [← e0] at n0
  rw [← e1] at n1
  rw [← e2, ← e3] at n2
  obtain ⟨D, hD⟩ : ∃ D, D = bytesS (putsS w0 (a ++ (lowsP x ++ b))) := ⟨_, rfl⟩
  rw [← hD] at n0 n1 n2 ⊢
  unfold symQ
  rw [rd3, n0]
  show rd3 D [Lib.bitLen (numQ 1 x), Lib.bitLen (numQ 2 x)] (putsLen (a ++ lowP (numQ 0 x))) false [numQ 0 x] = _
  rw [rd3, n1]
  show rd3 D [Lib.bitLen (numQ 2 x)] (putsLen (a ++ lowP (numQ 0 x) ++ lowP (numQ 1 x))) false [numQ 0 x, numQ 1 x] = _
  rw [rd3, n2]
  rfl
theorem sqOf_back {x : Sq} (h : SmallQ x) : sqOf [numQ 0 x, numQ 1 x, numQ 2 x] = x := by
  obtain ⟨h1, h2, h3, h4, h5⟩ := h
  obtain ⟨a, b, c⟩ := x
  show Sq.mk a (b - 4 + 4) (c - 1 + 1) = _
  simp only at h2 h4
  rw [show b - 4 + 4 = b by omega, show c - 1 + 1 = c by omega]
theorem getD_map {L : List Sq} {i : Nat} {x : Sq} (f : Sq → Nat) (h : L[i]? = some x) : (L.map f).getD i 0 = f x := by
  rw [List.getD, List.getElem?_map, h]; rfl
theorem stepGo_back {L : List Sq} (hL : ∀ x ∈ L, SmallQ x) (cs : Nat → List Nat) (h0 : cs 0 = L.map (symQ 0)) (h1 : cs 1 = L.map (symQ 1)) (h2 : cs 2 = L.map (symQ 2)) : ∀ (post pre : List Sq), L = pre ++ post →
    stepGo (bytesS (putsS w0 (L.flatMap lowsP))) cs post.length pre.length (putsLen (pre.flatMap lowsP)) false pre = (putsLen (L.flatMap lowsP), false, L)
  | [], pre, e => by rw [List.append_nil] at e; subst e; rfl
  | x :: post, pre, e => by
    have hx : L[pre.length]? = some x := by rw [e, List.getElem?_append_right (Nat.le_refl _), Nat.sub_self]; rfl
    have hxm := List.mem_of_getElem? hx
    have hok := lowsL_ok hL
    have hE : L.flatMap lowsP = pre.flatMap lowsP ++ (lowsP x ++ post.flatMap lowsP) := by rw [e, List.flatMap_append, List.flatMap_cons]
    have hr := rd3_low (hL x hxm) (hE ▸ hok)
    rw [← hE] at hr
    rw [List.length_cons, stepGo, h0, h1, h2, getD_map _ hx, getD_map _ hx, getD_map _ hx, hr]
    show stepGo _ cs post.length (pre.length + 1) (putsLen (pre.flatMap lowsP ++ lowsP x)) false (pre ++ [sqOf [numQ 0 x, numQ 1 x, numQ 2 x]]) = _
    rw [sqOf_back (hL x hxm)]
    have e1 : pre.length + 1 = (pre ++ [x]).length := by rw [List.length_append, List.length_singleton]
    have e2 : pre.flatMap lowsP ++ lowsP x = (pre ++ [x]).flatMap lowsP := by rw [List.flatMap_append]; simp
    rw [e1, e2]
    exact stepGo_back hL cs h0 h1 h2 post (pre ++ [x]) (by rw [e, List.append_assoc]; rfl)
theorem low_len {v : Nat} (h : v ≤ 65535) : putsLen (lowP v) ≤ 15 := by
  unfold lowP
  split
  · have := bitLen_most16 h
    show Lib.bitLen v - 1 + 0 ≤ 15; omega
  · exact Nat.zero_le _
theorem lows_len : ∀ {L : List Sq}, (∀ x ∈ L, SmallQ x) → putsLen (L.flatMap lowsP) ≤ 45 * L.length
  | [], _ => Nat.zero_le _
  | x :: r, h => by
    have h1 := lows_len (fun y hy => h y (List.mem_cons_of_mem _ hy))
    have hx := h x List.mem_cons_self
    have a0 := low_len (numQ_le hx 0)
    have a1 := low_len (numQ_le hx 1)
    have a2 := low_len (numQ_le hx 2)
    rw [List.flatMap_cons, putsLen_append, List.length_cons]
    have e : putsLen (lowsP x) = putsLen (lowP (numQ 0 x)) + (putsLen (lowP (numQ 1 x)) + putsLen (lowP (numQ 2 x))) := by
      unfold lowsP
      rw [putsLen_append, putsLen_append]
    omega
theorem rest_len {L : List Sq} (h : ∀ x ∈ L, SmallQ x) : (restB L).length ≤ 6 * L.length + 1 := by
  have h1 := puts_length (lowsL_ok h)
  have h2 := lows_len h
  show (bytesS (putsS w0 (L.flatMap lowsP))).length ≤ _
  rw [h1]; omega
theorem steps_back {L : List Sq} {B : List UInt8} {n : Nat} (h : StepsB L B) (hL : ∀ x ∈ L, SmallQ x) (hn : L.length ≤ n / 4) (hn2 : n ≤ 65536) (tail : List UInt8) : stepsL (B ++ tail) n = some (L, tail) := by
  have hsym : ∀ k, ∀ x ∈ L, symQ k x < 17 := fun k x hx => by
    have := bitLen_most16 (numQ_le (hL x hx) k)
    unfold symQ; omega
  rcases h with ⟨rfl, rfl⟩ | ⟨hne, b0, b1, b2, hb0, hb1, hb2, rfl⟩
  · unfold stepsL
    rw [pkNum_back (by omega) (by omega)]
    simp only [stepsMany]
    rw [if_pos trivial, List.drop_left]
  · have hlen0 : L.length ≠ 0 := fun e => hne (List.eq_nil_of_length_eq_zero e)
    have hrl := rest_len hL
    unfold stepsL
    rw [List.append_assoc, pkNum_back (by omega) (by omega)]
    show (if L.length = 0 then _ else stepsCodes L.length (str3 L.length 3 ((numB 5 L.length ++ ((b0 ++ (b1 ++ (b2 ++ (numB 5 (restB L).length ++ restB L)))) ++ tail)).drop (numB 5 L.length).length) [])) = _
    rw [if_neg hlen0, List.drop_left]
    have e : (b0 ++ (b1 ++ (b2 ++ (numB 5 (restB L).length ++ restB L)))) ++ tail = b0 ++ (b1 ++ (b2 ++ (numB 5 (restB L).length ++ (restB L ++ tail)))) := by simp
    have h3 : str3 L.length 3 (b0 ++ (b1 ++ (b2 ++ (numB 5 (restB L).length ++ (restB L ++ tail))))) [] = some ([L.map (symQ 0), L.map (symQ 1), L.map (symQ 2)], numB 5 (restB L).length ++ (restB L ++ tail)) := by
      rw [str3, str_back hb0 (by omega) (hsym 0)]
      show str3 L.length 2 (b1 ++ _) [L.map (symQ 0)] = _
      rw [str3, str_back hb1 (by omega) (hsym 1)]
      show str3 L.length 1 (b2 ++ _) [L.map (symQ 0), L.map (symQ 1)] = _
      rw [str3, str_back hb2 (by omega) (hsym 2)]
      rfl
    rw [e, h3]
    show stepsNum L.length [L.map (symQ 0), L.map (symQ 1), L.map (symQ 2)] (numB 5 (restB L).length ++ (restB L ++ tail)) (pkNum (numB 5 (restB L).length ++ (restB L ++ tail)) ((numB 5 (restB L).length ++ (restB L ++ tail)).length : Int)) = _
    rw [pkNum_back (by omega) (by simp only [List.length_append]; omega)]
    show (if ((numB 5 (restB L).length ++ (restB L ++ tail)).drop (numB 5 (restB L).length).length).length < (restB L).length then none else stepsEnd (((numB 5 (restB L).length ++ (restB L ++ tail)).drop (numB 5 (restB L).length).length).take (restB L).length) (((numB 5 (restB L).length ++ (restB L ++ tail)).drop (numB 5 (restB L).length).length).drop (restB L).length)
      (stepGo (((numB 5 (restB L).length ++ (restB L ++ tail)).drop (numB 5 (restB L).length).length).take (restB L).length) (fun k => [L.map (symQ 0), L.map (symQ 1), L.map (symQ 2)].getD k []) L.length 0 0 false [])) = _
    rw [List.drop_left, List.take_left, List.drop_left, if_neg (by rw [List.length_append]; omega)]
    have hgo := stepGo_back hL (fun k => [L.map (symQ 0), L.map (symQ 1), L.map (symQ 2)].getD k []) rfl rfl rfl L [] rfl
    have hgo' : stepGo (restB L) (fun k => [L.map (symQ 0), L.map (symQ 1), L.map (symQ 2)].getD k []) L.length 0 0 false [] = (putsLen (L.flatMap lowsP), false, L) := hgo
    rw [hgo']
    have hok := lowsL_ok hL
    have hlen : (restB L).length = (putsLen (L.flatMap lowsP) + 7) / 8 := puts_length hok
    have hz : ∀ k, numAt (restB L) (putsLen (L.flatMap lowsP)) k = 0 := fun k => rest_puts hok k
    show (if false = true ∨ numAt (restB L) (putsLen (L.flatMap lowsP)) ((8 * (restB L).length - putsLen (L.flatMap lowsP)) % 8) ≠ 0 ∨ 0 < 8 * (restB L).length - (putsLen (L.flatMap lowsP) + (8 * (restB L).length - putsLen (L.flatMap lowsP)) % 8) then none else some (L, tail)) = _
    rw [hz, if_neg]
    rintro (h | h | h)
    · cases h
    · exact h rfl
    · rw [hlen] at h; omega
theorem pack_back {d B : List UInt8} (h : BestB d B) (hd : d.length ≤ 65536) (tail : List UInt8) : ∃ mode : UInt8, (d.length = 0 → mode = 0) ∧ ∀ most : Int, 0 ≤ most → most ≤ 65536 →
    unpackL (B ++ tail) most = if most < (d.length : Int) then (11, []) else endL mode d.length (some (d, tail)) := by
  have key : ∀ (mode : UInt8) (body : List UInt8), ¬ 2 < mode.toNat → bodyL mode d.length (body ++ tail) = some (d, tail) → ∀ most : Int, 0 ≤ most → most ≤ 65536 →
      unpackL ((mode :: (numB 5 d.length ++ body)) ++ tail) most = if most < (d.length : Int) then (11, []) else endL mode d.length (some (d, tail)) := by
    intro mode body hm hb most h0 h1
    unfold unpackL
    rw [if_neg (by omega)]
    show (if 2 < mode.toNat then (5, []) else numL mode ((numB 5 d.length ++ body) ++ tail) most (pkNum ((numB 5 d.length ++ body) ++ tail) 4294967295)) = _
    rw [if_neg hm, List.append_assoc, pkNum_back (by omega) (by omega)]
    show (if most < (d.length : Int) then (11, []) else endL mode d.length (bodyL mode d.length ((numB 5 d.length ++ (body ++ tail)).drop (numB 5 d.length).length))) = _
    rw [List.drop_left, hb]
  cases h with
  | raw hr =>
    refine ⟨0, fun _ => rfl, key 0 d (by decide) ?_⟩
    unfold bodyL takeE
    rw [if_pos rfl, if_neg (by rw [List.length_append]; omega), List.take_left, List.drop_left]
  | run x h1 hx =>
    refine ⟨1, fun e => by omega, key 1 [x] (by decide) ?_⟩
    show (if (1 : UInt8) = 0 then _ else if (1 : UInt8) = 1 then some (List.replicate d.length x, tail) else _) = _
    rw [if_neg (by decide), if_pos rfl, ← hx]
  | packed L b c h0 hL hb hc hlt hrun =>
    have hlen0 : d.length ≠ 0 := fun e => h0 (List.eq_nil_of_length_eq_zero e)
    refine ⟨2, fun e => absurd e hlen0, ?_⟩
    have hk := key 2 (b ++ c) (by decide) (by
      show (if (2 : UInt8) = 0 then _ else if (2 : UInt8) = 1 then _ else runLits d.length (litL ((b ++ c) ++ tail) d.length)) = _
      have hll := litsL_len L d
      have hmany := hL.many
      rw [if_neg (by decide), if_neg (by decide), List.append_assoc, lits_back hb hll hd]
      show runSteps (litsL d L) d.length (stepsL (c ++ tail) d.length) = _
      rw [steps_back hc (hL.small hd) (by omega) hd]
      show ((runL (litsL d L) L d.length).bind fun out => some (out, tail)) = _
      rw [run_back hL]
      rfl)
    intro most h1 h2
    have := hk most h1 h2
    rw [← List.append_assoc] at this
    exact this
end Go.Proofs.YtaelgbbnmjbjiaaGreat
namespace Go.Proofs.YtaelgbbnmjbjiaaGreat
open Go.RowKit
def strsB : Nat → List Sq → List UInt8 → Prop
  | 0, _, B => B = []
  | k + 1, L, B => ∃ B1 b, strsB k L B1 ∧ StrB k L b ∧ B = B1 ++ b
theorem fn_any {k : Nat} (hk : k < 3) : ∃ fn : FuncId, (∀ w : World, (Instr.index 55 (.agg #[.func (.func 63) #[] #[], .func (.func 64) #[] #[], .func (.func 65) #[] #[]]) (.int .i64 (k : Int))).run Tryz.prog w = .ok (.func (.func fn) #[] #[]) w) ∧
    (∀ (args : Array Value) (w : World), (callFunc fn args).run Tryz.prog w = .ok (.enter fn args) w) ∧
    ∀ (x : Sq) (w : World), SmallQ x → Calls Tryz.prog fn #[sqV x] w fun e w' => e = .returned (.int .i64 ((numQ k x : Nat) : Int)) ∧ Below w.heap.size w w' := by
  obtain rfl | rfl | rfl : k = 0 ∨ k = 1 ∨ k = 2 := by omega
  · exact ⟨63, fun w => by kernel_rfl, fun args w => by kernel_rfl, fun x w h => packStr1 x w⟩
  · exact ⟨64, fun w => by kernel_rfl, fun args w => by kernel_rfl, fun x w h => packStr2 x w h.2.1 h.2.2.1⟩
  · exact ⟨65, fun w => by kernel_rfl, fun args w => by kernel_rfl, fun x w h => packStr3 x w h.2.2.2.1 h.2.2.2.2⟩
def cntQ (k : Nat) (L : List Sq) (i : Nat) : List Nat := incT (List.replicate 17 0) ((L.take i).map (symQ k))
def symsQ (k : Nat) (L : List Sq) (i : Nat) : List Nat := (L.take i).map (symQ k)
theorem cntQ_step {k : Nat} {L : List Sq} {i : Nat} {x : Sq} (h : L[i]? = some x) : cntQ k L (i + 1) = (cntQ k L i).set (symQ k x) ((cntQ k L i).getD (symQ k x) 0 + 1) := by
  unfold cntQ
  rw [List.take_add_one, h, List.map_append]
  exact incT_snoc _ _ _
theorem symsQ_step {k : Nat} {L : List Sq} {i : Nat} {x : Sq} (h : L[i]? = some x) : symsQ k L (i + 1) = symsQ k L i ++ [symQ k x] := by
  unfold symsQ
  rw [List.take_add_one, h, List.map_append]; rfl
theorem cntQ_le (k : Nat) (L : List Sq) (i p : Nat) : (cntQ k L i).getD p 0 ≤ i := by
  have h := incT_le ((L.take i).map (symQ k)) (List.replicate 17 0) p
  rw [zeros_getD, List.length_map, List.length_take] at h
  unfold cntQ; omega
theorem cntQ_all {k : Nat} {L : List Sq} {i : Nat} (h : i = L.length) : cntQ k L i = incT (List.replicate 17 0) (L.map (symQ k)) := by
  subst h; unfold cntQ; rw [List.take_length]
theorem symsQ_all {k : Nat} {L : List Sq} {i : Nat} (h : i = L.length) : symsQ k L i = L.map (symQ k) := by
  subst h; unfold symsQ; rw [List.take_length]
theorem symQ_lt {L : List Sq} (hq : ∀ x ∈ L, SmallQ x) (k : Nat) : ∀ x ∈ L, symQ k x < 17 := fun x hx => by
  have := bitLen_most16 (numQ_le (hq x hx) k)
  unfold symQ; omega
theorem shareB_len (sh : List Nat) : (shareB sh).length ≤ 7 + 6 * sh.length := by
  have h1 := flat_len 5 sh
  have h2 := numB_len 5 sh.length
  unfold shareB
  simp only [List.length_append, List.length_singleton]
  omega
theorem getD_all_le {l : List Nat} {m : Nat} (h : ∀ p, l.getD p 0 ≤ m) : ∀ x ∈ l, x ≤ m := fun x hx => by
  obtain ⟨i, hi, rfl⟩ := List.getElem_of_mem hx
  have := h i
  rwa [List.getD, List.getElem?_eq_getElem hi, Option.getD_some] at this
theorem WrS.put2 {w : World} {B g : Nat} {S : WSt} (h : WrS w B g S) (k v : Nat) (hk : k ≤ 32) (hv : v < 2 ^ k) (hlen : wLen S ≤ 800000000000) :
    Calls Tryz.prog 32 #[.pointer (some ⟨g, 0, none⟩), .int .i64 (k : Int), .int .i64 (v : Int)] w fun e w' => e = .returned (.int .i64 0) ∧ WrS w' B g (putS S k v) ∧ Below B w w' ∧
      ∀ (p : Nat) (cs : Array Value), Blk w p 52 cs → Blk w' p 52 cs := by
  obtain ⟨A, c, hw⟩ := h.wr
  refine (wrPut B g S.1 S.2.1 S.2.2 A c k v w hw h.ok.1 h.ok.2 hk hv (wLen_bytes (m := 1000000000000) (by omega))).mono ?_
  rintro e w' ⟨rfl, hb, ht, A', c', hw', -⟩
  exact ⟨rfl, ⟨⟨A', c', hw'⟩, (putS_facts h.ok hk hv).1⟩, hb, fun p cs hp => ht.blk hp (Blk.ne hp hw.blk (by decide)) (Own.ne_blk hw.own hp (by decide))⟩
def lowsQ (x : Sq) : Nat → List (Nat × Nat)
  | 0 => []
  | k + 1 => lowsQ x k ++ lowP (numQ k x)
theorem lowsQ_three (x : Sq) : lowsQ x 3 = lowsP x := by
  unfold lowsP
  show (([] ++ lowP (numQ 0 x)) ++ lowP (numQ 1 x)) ++ lowP (numQ 2 x) = _
  rw [List.nil_append, List.append_assoc]
theorem putsS_one (S : WSt) (a b : Nat) : putsS S [(a, b)] = putS S a b := rfl
theorem low_int {v b : Nat} (hv : v ≤ 65535) (hb : 2 ^ b ≤ v) : wrap64 ((v : Int) - wrap64 (2 ^ b)) = ((v - 2 ^ b : Nat) : Int) := by
  have e : (2 : Int) ^ b = ((2 ^ b : Nat) : Int) := by push_cast; rfl
  have h := Nat.sub_le v (2 ^ b)
  rw [e, wrap64_nat (by omega), show (v : Int) - ((2 ^ b : Nat) : Int) = ((v - 2 ^ b : Nat) : Int) by omega, wrap64_nat (Nat.lt_of_le_of_lt h (by omega))]
set_option maxHeartbeats 8000000 in
set_option maxRecDepth 10000 in
theorem packSteps (A0 : Option Addr) (n0 c0 : Nat) (out : List UInt8) (A : Option Addr) (n c : Nat) (L : List Sq) (w : World) (h0 : out.length = n0) (hr0 : Bs w A0 out) (hn0 : n0 ≤ 400000) (hl : L.length = n) (hr : Ss w A L) (hq : ∀ x ∈ L, SmallQ x) (hn : n ≤ 65536) :
    Calls Tryz.prog 13 #[.slice A0 n0 c0, .slice A n c] w fun e w' => ∃ S m cs B, e = .returned (.slice S m cs) ∧ OwnB w' w.heap.size S m cs (out ++ B) ∧ StepsB L B ∧ Below w.heap.size w w' := by
  have HPN := Lib.hid (putNum A0 n0 c0 out n w h0 hr0 (by omega) (by omega))
  have H0 := Lib.hid h0
  have HL := Lib.hid hl
  have HR := Lib.hid hr
  have HQ := Lib.hid hq
  clear h0 hr0 hl hr hq
  go_enter Tryz.func13, Tryz.ntmps13
  go_wp2_with fail
  refine HPN.out.mono ?_
  rintro e w1 ⟨A1, m1, c1, rfl, hown1, hb1⟩
  have hm1 := OwnB.length hown1
  have hnb := numB_len 5 n
  rw [List.length_append, H0.out] at hm1
  have HO1 := Lib.hid hown1
  have HB1 := Lib.hid hb1
  clear hown1 hb1 HPN
  rcases Nat.eq_zero_or_pos n with hz | hpos
  · subst hz
    go_wp2
    go_ret
    refine ⟨A1, m1, c1, numB 5 0, rfl, HO1.out, .inl ⟨List.eq_nil_of_length_eq_zero HL.out, rfl⟩, HB1.out⟩
  have g1 : ((n : Int) == 0) = false := beq_eq_false_iff_ne.2 (by omega)
  have HS := Lib.hid (packStreams w1)
  go_wp2_with fail
  refine HS.out.mono ?_
  rintro e w2 ⟨rfl, hb2⟩
  have HB2 := Lib.hid (HB1.out.trans (hb2.mono HB1.out.size))
  have HO2 := Lib.hid (Own.later HO1.out hb2)
  clear hb2 HS HB1 HO1
  go_wp2_with fail
  go_loopg [0, 37] 3 (fun gg s0 s37 wr => ∃ (k m co : Nat) (Ao : Option Addr) (B1 : List UInt8), k ≤ 3 ∧ 3 - k ≤ gg ∧ s0 = .slice Ao m co ∧ s37 = .int .i64 (k : Int) ∧ OwnB wr w.heap.size Ao m co (out ++ numB 5 n ++ B1) ∧ strsB k L B1 ∧ B1.length ≤ k * (6 * n + 10000) ∧ Below w.heap.size w wr)
  case atStart => exact ⟨0, m1, c1, A1, [], by omega, by omega, rfl, rfl, by rw [List.append_nil]; exact HO2.out, rfl, by simp, HB2.out⟩
  case round =>
    clear HO2 HB2
    obtain ⟨k, m, co, Ao, B1, hk, hgg, rfl, rfl, hown, hst, hlen, hbel⟩ := hrel
    have HO := Lib.hid hown
    have HSt := Lib.hid hst
    have HB := Lib.hid hbel
    clear hown hst hbel
    by_cases hk3 : k < 3
    · obtain ⟨fn, hix, hin, hfn⟩ := fn_any hk3
      have HFn := Lib.hid hfn
      clear hfn
      obtain ⟨ti, hi, hz0, hz1, hz2⟩ := info_parts elemN_info
      go_wp2_with (at_make; refine wpList_make_full _ rfl _ _ 45 rfl wr.heap.size 3 ti _ 1 Tryz.underlying45 hi hz0 hz1 .i64 .i64 17 17 17 rfl rfl rfl rfl (by rw [hz2]; omega) (by unfold maxLen; omega) (Nat.le_refl _) ?_)
      intro w3 hown3 hg3
      rw [made_zeros] at hown3
      have hlt3 := (Own.lt hown3 (k := wr.heap.size) rfl).2
      have HO3 := Lib.hid (show OwnN w3 wr.heap.size (some ⟨wr.heap.size, 0, none⟩) 17 17 (cntQ k L 0) from hown3)
      have HB3 := Lib.hid ((Below.refl _ _).grown hg3 (Nat.le_refl _) (fun k hk => by cases hk) : Below wr.heap.size wr w3)
      clear hown3 hg3 hi hz0 hz1 hz2 hix
      go_wp2_with fail
      obtain ⟨wo, rfl⟩ : ∃ wo : World, wo = wr := ⟨_, rfl⟩
      go_loopg [8, 43] n (fun gh s8 s43 wr => ∃ (i cs : Nat) (As : Option Addr), i ≤ n ∧ n - i ≤ gh ∧ s8 = .slice As i cs ∧ s43 = .int .i64 (i : Int) ∧ OwnN wr wo.heap.size (some ⟨wo.heap.size, 0, none⟩) 17 17 (cntQ k L i) ∧ OwnN wr w3.heap.size As i cs (symsQ k L i) ∧ Below wo.heap.size wo wr ∧ w3.heap.size ≤ wr.heap.size)
      case atStart => exact ⟨0, 0, none, by omega, by omega, rfl, rfl, HO3.out, OwnN.nil _ _, HB3.out, Nat.le_refl _⟩
      case round =>
        clear HO3 HB3
        obtain ⟨i, cs, As, hi, hgi, rfl, rfl, hoc, hos, hbel, hsz⟩ := hrel
        have HOC := Lib.hid hoc
        have HOS := Lib.hid hos
        have HBi := Lib.hid hbel
        clear hoc hos hbel
        by_cases hin' : i < n
        · obtain ⟨b, o, x, hA, hx, d0, d1, d2⟩ := ((HR.out.later HB.out).later HBi.out).at_ (by rw [HL.out]; exact hin' : i < L.length)
          subst hA
          have hxq := HQ.out x (List.mem_of_getElem? hx)
          have HC1 := Lib.hid (cntQ_step (k := k) hx)
          have HC2 := Lib.hid (symsQ_step (k := k) hx)
          obtain ⟨v, hv⟩ : ∃ v, v = numQ k x := ⟨_, rfl⟩
          have hvb : v ≤ 65535 := by rw [hv]; exact numQ_le hxq k
          obtain ⟨sy, hsy⟩ : ∃ sy, sy = Lib.bitLen v := ⟨_, rfl⟩
          have hsyb : sy ≤ 16 := by rw [hsy]; exact bitLen_most16 hvb
          have HSy := Lib.hid (show symQ k x = sy by rw [hsy, hv]; rfl)
          have HCall := Lib.hid (HFn.out x (wr.alloc (.cells #[.int .i64 (x.lits : Int), .int .i64 (x.len : Int), .int .i64 (x.dist : Int)] 52)) hxq)
          rw [← hv] at HCall
          have HV := Lib.hid hsy
          have HBa := Lib.hid (HBi.out.alloc HBi.out.size (.cells #[.int .i64 (x.lits : Int), .int .i64 (x.len : Int), .int .i64 (x.dist : Int)] 52))
          clear hx hv hsy hxq
          obtain ⟨x1, x2, x3⟩ := x
          simp only at d0 d1 d2 HBa HCall
          unfold sqV at HCall
          simp only at HCall
          go_wp2_with fail
          refine HCall.out.mono ?_
          rintro e w5 ⟨rfl, hb5⟩
          have HB5 := Lib.hid (HBa.out.trans (hb5.mono HBa.out.size))
          have hall : Below wr.heap.size wr w5 := ((Below.refl _ _).alloc (Nat.le_refl _) _).trans (hb5.mono (by simp))
          have HOC5 := Lib.hid (Own.later HOC.out hall)
          have HOS5 := Lib.hid (Own.later HOS.out hall)
          have hs5 := hall.size
          have HCode := Lib.hid (packCode v w5 hvb)
          rw [← HV.out] at HCode
          clear hb5 hall HCall HBa HOC HOS d0 d1 d2
          go_wp2_with fail
          refine HCode.out.mono ?_
          rintro e w6 ⟨rfl, rfl⟩
          obtain ⟨gz, xz, hgz, hg1, -, hxz, hcz, hfz⟩ := Own.at_ HOC5.out (k := sy) (by omega)
          cases hgz
          obtain ⟨q, hq⟩ : ∃ q, q = (cntQ k L i).getD sy 0 := ⟨_, rfl⟩
          have hqk : q ≤ i := by rw [hq]; exact cntQ_le k L i _
          have hxv : xz = .int .i64 (q : Int) := by
            rw [List.getElem?_map] at hxz
            rw [hq, List.getD]
            cases hh : (cntQ k L i)[sy]? with
            | none => rw [hh] at hxz; cases hxz
            | some q => rw [hh] at hxz; exact (Option.some.inj hxz).symm
          subst hxv
          have HOC6 := Lib.hid (show OwnN (w6.setCell ⟨wo.heap.size, sy, none⟩ (.int .i64 ((q : Int) + 1))) wo.heap.size (some ⟨wo.heap.size, 0, none⟩) 17 17 (cntQ k L (i + 1)) from by
            have h := (Own.stored HOC5.out sy (natv (q + 1))).1
            rw [← List.map_set, hq] at h
            rw [HC1.out, HSy.out]
            have e : natv ((cntQ k L i).getD sy 0 + 1) = .int .i64 ((q : Int) + 1) := by unfold natv; rw [Int.natCast_add, hq]; rfl
            rw [← e]
            exact h)
          have hne : bk As ≠ some wo.heap.size := by
            intro he
            have := (Own.lt HOS5.out he).1
            omega
          have HOS6 := Lib.hid (Own.setCell HOS5.out (p := ⟨wo.heap.size, sy, none⟩) hne (.int .i64 ((q : Int) + 1)))
          have HB6 := Lib.hid (HB5.out.setCell (p := ⟨wo.heap.size, sy, none⟩) (Nat.le_refl _) (.int .i64 ((q : Int) + 1)))
          have hs6 : (w6.setCell ⟨wo.heap.size, sy, none⟩ (.int .i64 ((q : Int) + 1))).heap.size = w6.heap.size := by simp
          have i1 : (0 : Int) ≤ (sy : Int) := by omega
          have i2 : (sy : Int) < 17 := by omega
          clear hxz hq HCode HOC5 HOS5 HB5
          go_wp2_with (at_builtin; refine wpList_append_one rfl _ _ elemN rfl w3.heap.size As i cs ((symsQ k L i).map natv) (w6.setCell ⟨wo.heap.size, sy, none⟩ (.int .i64 ((q : Int) + 1))) (.int .i64 (sy : Int)) rfl rfl HOS6.out ?hx rfl ?d1 ?d2 ?d3 ?_)
          case hx => simp [Act.eval]
          case d1 => omega
          case d2 => omega
          case d3 => omega
          intro A' c' w7 hown7 hb7 hgr7 hat7
          have HOS7 := Lib.hid (show OwnN w7 w3.heap.size A' (i + 1) c' (symsQ k L (i + 1)) from by
            rw [HC2.out, HSy.out]; exact ownN_snoc hown7)
          have HOC7 := Lib.hid (Own.kept HOC6.out hgr7 (.inr (fun e => hne e.symm)))
          have HB7 := Lib.hid (HB6.out.trans (hb7.mono (by omega)))
          have hs7 := hb7.size
          clear hown7 hb7 hgr7 hat7 hcz hfz
          go_wp2
          go_roundg (n - (i + 1))
          case measure => omega
          case rel => exact ⟨i + 1, c', A', by omega, by omega, rfl, by go_num, HOC7.out, HOS7.out, HB7.out, by omega⟩
        · obtain rfl : i = n := by omega
          have hcl : (cntQ k L i).length = 17 := OwnN.length HOC.out
          have hca : cntQ k L i = incT (List.replicate 17 0) (L.map (symQ k)) := cntQ_all HL.out.symm
          have hsa : symsQ k L i = L.map (symQ k) := symsQ_all HL.out.symm
          have hs17 := symQ_lt HQ.out k
          have hcb : ∀ x ∈ cntQ k L i, x ≤ 65536 := getD_all_le (fun p => by have := cntQ_le k L i p; omega)
          have hp0 : ∀ s ∈ L.map (symQ k), 0 < (cntQ k L i).getD s 0 := by
            intro s hs
            rw [hca]
            obtain ⟨x, hx, rfl⟩ := List.mem_map.1 hs
            exact incT_pos _ _ _ hs (by rw [List.length_replicate]; exact hs17 x hx)
          have hnz0 : 0 < nz (cntQ k L i) := by
            obtain ⟨x, hx⟩ : ∃ x, x ∈ L := by
              cases hq : L with
              | nil => have h := HL.out; rw [hq] at h; simp at h; omega
              | cons b r => exact ⟨b, List.mem_cons_self⟩
            exact nz_posC (hp0 _ (List.mem_map_of_mem hx))
          have hnz1 : nz (cntQ k L i) ≤ 32 := by have := nz_leC (cntQ k L i); omega
          have HSh := Lib.hid (fseShare (some ⟨wo.heap.size, 0, none⟩) 17 17 (cntQ k L i) wr hcl (OwnN.ns HOC.out) (by omega) hcb hnz0 hnz1)
          have HP0 := Lib.hid hp0
          have HCa := Lib.hid hca
          have HSa := Lib.hid hsa
          clear hca hsa hs17 hcb hp0 hnz0 hnz1
          go_wp2_with fail
          refine HSh.out.mono ?_
          rintro e w5 ⟨S5, m5, c5, sh, rfl, hown5, hsh, hb5⟩
          have hm5 := OwnN.length hown5
          have hmay := hsh.may (by omega)
          have hshl := hsh.len
          have HMay := Lib.hid hmay
          have HShOk := Lib.hid hsh
          have HO5 := Lib.hid hown5
          have HSy5 := Lib.hid (Own.later HOS.out hb5)
          have HB5 := Lib.hid (HBi.out.trans (hb5.mono HBi.out.size))
          have HPS := Lib.hid (fsePutShare S5 m5 c5 sh w5 hm5 (OwnN.ns hown5) hmay)
          clear hown5 hsh hb5 HSh hmay HOC HOS HBi
          go_wp2_with fail
          refine HPS.out.mono ?_
          rintro e w6 ⟨S6, m6, c6, rfl, hown6, hb6⟩
          have hm6 := OwnB.length hown6
          have htl := shareB_len sh
          rw [hm6] at htl
          have HO6 := Lib.hid hown6
          have HB6 := Lib.hid (HB5.out.trans (hb6.mono HB5.out.size))
          have HEn := Lib.hid (fseEncode S5 m5 c5 sh As i cs (symsQ k L i) w6 hm5 ((OwnN.ns HO5.out).later hb6) HMay.out (OwnN.length HSy5.out) ((OwnN.ns HSy5.out).later hb6) (by omega) (by
            rw [HSa.out]
            intro s hs
            have h1 := HShOk.out.has s (HP0.out s hs)
            refine ⟨?_, h1⟩
            rw [← hm5]
            rcases Nat.lt_or_ge s sh.length with h | h
            · exact h
            · rw [getD_out h] at h1; omega))
          clear hown6 hb6 HPS HB5 HSy5 HO5
          go_wp2_with fail
          refine HEn.out.mono ?_
          rintro e w7 ⟨S7, m7, c7, rfl, hown7, hb7⟩
          have HO7 := Lib.hid hown7
          have HT7 := Lib.hid (Own.later HO6.out hb7)
          have HB7 := Lib.hid (HB6.out.trans (hb7.mono HB6.out.size))
          have hbB := HB.out.size
          have hs6 := HB6.out.size
          have hne7 : bk S7 = none ∨ bk S7 ≠ bk Ao := by
            cases hq : bk S7 with
            | none => exact .inl rfl
            | some b =>
              refine .inr fun e => ?_
              have h1 := (Own.lt HO7.out hq).1
              have h2 := (Own.lt HO.out e.symm).2
              omega
          have HBw := Lib.hid (HB.out.trans (HB7.out.mono hbB))
          have HOu := Lib.hid (Own.later HO.out HB7.out)
          have hml := OwnB.length HO.out
          have hm7 := OwnB.length hown7
          have hel : m7 ≤ 6 * i + 16 := by
            rw [← hm7, HSa.out]
            have := encodeL_len (sh := sh) (l := L.map (symQ k)) HShOk.out.sum (fun s hs => HShOk.out.has s (HP0.out s hs))
            rw [List.length_map, HL.out] at this
            exact this
          clear hown7 hb7 HEn HO6 HB6 HB7 HO
          obtain ⟨tb, htb⟩ : ∃ tb, tb = shareB sh := ⟨_, rfl⟩
          obtain ⟨bd, hbd⟩ : ∃ bd, bd = encodeL sh (symsQ k L i) := ⟨_, rfl⟩
          have HTb := Lib.hid htb
          have HBd := Lib.hid hbd
          rw [← htb] at HT7 hm6
          rw [← hbd] at HO7 hm7
          have hB7 := HBw.out.size
          simp only [List.length_append, H0.out] at hml
          have hk10 : k * (6 * i + 10000) ≤ 2 * (6 * i + 10000) := Nat.mul_le_mul_right _ (by omega)
          have h10 : (k + 1) * (6 * i + 10000) = k * (6 * i + 10000) + (6 * i + 10000) := by rw [Nat.succ_mul]
          clear htb hbd
          go_wp2_with (at_builtin; refine wpList_append_rd rfl _ _ elemB rfl w.heap.size Ao m co ((out ++ numB 5 i ++ B1).map u8v) rfl HOu.out S6 m6 c6 (tb.map u8v) rfl ?a1 ?a2 (u8_one _) ?a3 ?a4 ?a5 ?_)
          case a1 => exact Own.rd HT7.out
          case a2 => rw [List.length_map]; exact hm6
          case a3 => omega
          case a4 => omega
          case a5 => exact hB7
          intro A8 c8 w8 hown8 hb8 hg8 hat8
          have HO8 := Lib.hid (show OwnB w8 w.heap.size A8 (m + m6) c8 (out ++ numB 5 i ++ B1 ++ tb) from by unfold OwnB; simp only [List.map_append, List.append_assoc] at hown8 ⊢; exact hown8)
          have HB8 := Lib.hid (HBw.out.trans hb8)
          have HBd8 := Lib.hid (Own.kept HO7.out hg8 hne7)
          have HP9 := Lib.hid (putNum A8 (m + m6) c8 _ m7 w8 (OwnB.length HO8.out) (OwnB.bs HO8.out) (by omega) (by omega))
          clear hown8 hb8 hg8 hat8 HO7 HT7 HOu HBw
          go_wp2_with fail
          refine HP9.out.mono ?_
          rintro e w9 ⟨A9, m9, c9, rfl, hown9, hb9⟩
          have hm9 := OwnB.length hown9
          have hnb7 := numB_len 5 m7
          simp only [List.length_append, H0.out] at hm9
          have hs8 := HB8.out.size
          have HO9 := Lib.hid (Own.mono hown9 hs8)
          have HB9 := Lib.hid (HB8.out.trans (hb9.mono hs8))
          have HBd9 := Lib.hid (Own.later HBd8.out hb9)
          clear hown9 hb9 HP9 HB8 HO8 HBd8
          go_wp2_with (at_builtin; refine wpList_append_rd rfl _ _ elemB rfl w.heap.size A9 m9 c9 ((out ++ numB 5 i ++ B1 ++ tb ++ numB 5 m7).map u8v) rfl HO9.out S7 m7 c7 (bd.map u8v) rfl ?a1 ?a2 (u8_one _) ?a3 ?a4 ?a5 ?_)
          case a1 => exact Own.rd HBd9.out
          case a2 => rw [List.length_map]; exact hm7
          case a3 => omega
          case a4 => omega
          case a5 => exact HB9.out.size
          intro A10 c10 w10 hown10 hb10 hg10 hat10
          have HO10 := Lib.hid (show OwnB w10 w.heap.size A10 (m9 + m7) c10 (out ++ numB 5 i ++ (B1 ++ (tb ++ (numB 5 m7 ++ bd)))) from by unfold OwnB; simp only [List.map_append, List.append_assoc] at hown10 ⊢; exact hown10)
          have HB10 := Lib.hid (HB9.out.trans hb10)
          have HStr := Lib.hid (show strsB (k + 1) L (B1 ++ (tb ++ (numB 5 m7 ++ bd))) from
            ⟨B1, _, HSt.out, ⟨sh, by rw [← HCa.out]; exact HShOk.out, by rw [HTb.out, ← hm7, HBd.out, HSa.out]⟩, rfl⟩)
          have HLen := Lib.hid (show (B1 ++ (tb ++ (numB 5 m7 ++ bd))).length ≤ (k + 1) * (6 * i + 10000) from by
            simp only [List.length_append]; omega)
          clear hown10 hb10 hg10 hat10 HO9 HB9 HBd9
          go_wp2
          go_roundg (3 - (k + 1))
          case measure => omega
          case rel => exact ⟨k + 1, m9 + m7, c10, A10, _, by omega, by omega, rfl, by go_num, HO10.out, HStr.out, HLen.out, HB10.out⟩
    · obtain rfl : k = 3 := by omega
      go_wp2_with fail
      obtain ⟨wo, rfl⟩ : ∃ wo : World, wo = wr := ⟨_, rfl⟩
      refine (wrNew _).mono ?_
      rintro e w3 ⟨rfl, hw3, hb3⟩
      have HW3 := Lib.hid hw3
      have HB3 := Lib.hid hb3
      clear hw3 hb3
      go_wp2_with fail
      go_loopg [94] n (fun gh s94 wr => ∃ (i : Nat) (S : WSt), i ≤ n ∧ n - i ≤ gh ∧ s94 = .int .i64 (i : Int) ∧ WrS wr wo.heap.size wo.heap.size S ∧ putsS w0 ((L.take i).flatMap lowsP) = S ∧ wLen S ≤ 45 * i ∧ Below wo.heap.size wo wr)
      case atStart => exact ⟨0, w0, by omega, by omega, rfl, HW3.out, rfl, by show 8 * 0 + 0 ≤ _; omega, HB3.out⟩
      case round =>
        clear HW3 HB3
        obtain ⟨i, S, hi, hgi, rfl, hw, hS, hwl, hbel⟩ := hrel
        have HW := Lib.hid hw
        have HSS := Lib.hid hS
        have HBi := Lib.hid hbel
        clear hw hS hbel
        obtain ⟨wi, rfl⟩ : ∃ wi : World, wi = wr := ⟨_, rfl⟩
        by_cases hin' : i < n
        · obtain ⟨b, o, x, hA, hx, d0, d1, d2⟩ := ((HR.out.later HB.out).later HBi.out).at_ (by rw [HL.out]; exact hin' : i < L.length)
          subst hA
          have HXq := Lib.hid (HQ.out x (List.mem_of_getElem? hx))
          have HF := Lib.hid (flatMap_step lowsP hx)
          have hall : Below wi.heap.size wi (wi.alloc (.cells #[.int .i64 (x.lits : Int), .int .i64 (x.len : Int), .int .i64 (x.dist : Int)] 52)) := (Below.refl _ _).alloc (Nat.le_refl _) _
          have HBa := Lib.hid (HBi.out.alloc HBi.out.size (.cells #[.int .i64 (x.lits : Int), .int .i64 (x.len : Int), .int .i64 (x.dist : Int)] 52))
          have HWa := Lib.hid (HW.out.later hall)
          have HK := Lib.hid (Blk.new wi 52 #[.int .i64 (x.lits : Int), .int .i64 (x.len : Int), .int .i64 (x.dist : Int)])
          have HSt2 := Lib.hid (packStreams (wi.alloc (.cells #[.int .i64 (x.lits : Int), .int .i64 (x.len : Int), .int .i64 (x.dist : Int)] 52)))
          clear hx hall
          obtain ⟨x1, x2, x3⟩ := x
          simp only at d0 d1 d2 HBa HWa HK HSt2
          go_wp2_with fail
          refine HSt2.out.mono ?_
          rintro e w4 ⟨rfl, hb4⟩
          have HB4 := Lib.hid (HBa.out.trans (hb4.mono HBa.out.size))
          have HW4 := Lib.hid (HWa.out.later hb4)
          have HK4 := Lib.hid (HK.out.later hb4)
          obtain ⟨pb, hpb⟩ : ∃ pb, pb = wi.heap.size := ⟨_, rfl⟩
          rw [← hpb] at HK4 ⊢
          clear hpb hb4 HSt2 HBa HWa HK d0 d1 d2
          go_wp2_with fail
          go_loopg [99] 3 (fun gj s99 wr => ∃ (k : Nat) (S' : WSt), k ≤ 3 ∧ 3 - k ≤ gj ∧ s99 = .int .i64 (k : Int) ∧ WrS wr wo.heap.size wo.heap.size S' ∧ putsS S (lowsQ ⟨x1, x2, x3⟩ k) = S' ∧ wLen S' ≤ 45 * i + 15 * k ∧ Blk wr pb 52 #[.int .i64 (x1 : Int), .int .i64 (x2 : Int), .int .i64 (x3 : Int)] ∧ Below wo.heap.size wo wr)
          case atStart => exact ⟨0, S, by omega, by omega, rfl, HW4.out, rfl, by omega, HK4.out, HB4.out⟩
          case round =>
            clear HW4 HK4 HB4
            obtain ⟨k, S', hk, hgj, rfl, hw, hS, hwl', hblk, hbel⟩ := hrel
            have HW5 := Lib.hid hw
            have HS5 := Lib.hid hS
            have HK5 := Lib.hid hblk
            have HB5 := Lib.hid hbel
            clear hw hS hblk hbel
            by_cases hk3 : k < 3
            · obtain ⟨fn, hix, hin, hfn⟩ := fn_any hk3
              have HFn := Lib.hid hfn
              clear hfn
              have p0 := HK5.out.cell 0
              have p1 := HK5.out.cell 1
              have p2 := HK5.out.cell 2
              simp only [List.getElem?_toArray, List.getElem?_cons_zero, List.getElem?_cons_succ] at p0 p1 p2
              have HCall := Lib.hid (HFn.out ⟨x1, x2, x3⟩ wr HXq.out)
              obtain ⟨v, hv⟩ : ∃ v, v = numQ k ⟨x1, x2, x3⟩ := ⟨_, rfl⟩
              have hvb : v ≤ 65535 := by rw [hv]; exact numQ_le HXq.out k
              have HV := Lib.hid (show lowsQ ⟨x1, x2, x3⟩ (k + 1) = lowsQ ⟨x1, x2, x3⟩ k ++ lowP v by rw [hv]; rfl)
              rw [← hv] at HCall
              unfold sqV at HCall
              simp only at HCall
              clear hv
              go_wp2_with fail
              refine HCall.out.mono ?_
              rintro e w6 ⟨rfl, hb6⟩
              have HB6 := Lib.hid (HB5.out.trans (hb6.mono HB5.out.size))
              have HW6 := Lib.hid (HW5.out.later hb6)
              have HK6 := Lib.hid (HK5.out.later hb6)
              clear hb6 HCall HB5 HW5 HK5 p0 p1 p2
              by_cases hv1 : 1 < v
              · have g3 : decide ((1 : Int) < (v : Int)) = true := decide_eq_true (by omega)
                obtain ⟨hbl1, hbl2, hbl3, hbl4⟩ := bitLen_in (by omega : 0 < v) hvb
                have HCode := Lib.hid (packCode v w6 hvb)
                obtain ⟨bl, hbl⟩ : ∃ bl, bl = Lib.bitLen v := ⟨_, rfl⟩
                rw [← hbl] at HCode hbl1 hbl2 hbl3 hbl4
                have HBl := Lib.hid hbl
                clear hbl
                go_wp2_with fail
                refine HCode.out.mono ?_
                rintro e w7 ⟨rfl, rfl⟩
                go_wp2_with fail
                refine HCode.out.mono ?_
                rintro e w8 ⟨rfl, rfl⟩
                go_wp2_with fail
                have hlv : v - 2 ^ (bl - 1) < 2 ^ (bl - 1) := by
                  have : 2 ^ bl = 2 ^ (bl - 1) * 2 := by rw [← Nat.pow_succ, show (bl - 1).succ = bl by omega]
                  omega
                have HPut := Lib.hid (HW6.out.put2 (bl - 1) (v - 2 ^ (bl - 1)) (by omega) hlv (by omega))
                have hl6 := (putS_facts (k := bl - 1) (v := v - 2 ^ (bl - 1)) HW6.out.ok (by omega) hlv).2
                have HS6 := Lib.hid (show putsS S (lowsQ ⟨x1, x2, x3⟩ (k + 1)) = putS S' (bl - 1) (v - 2 ^ (bl - 1)) by
                  rw [HV.out, putsS_append, HS5.out]
                  have e : lowP v = [(bl - 1, v - 2 ^ (bl - 1))] := by unfold lowP; rw [if_pos hv1, HBl.out]
                  rw [e, putsS_one])
                rw [← low_int hvb hbl2, show ((bl - 1 : Nat) : Int) = (bl : Int) - 1 by omega] at HPut
                refine HPut.out.mono ?_
                rintro e w9 ⟨rfl, hw9, hb9, hk9⟩
                have HW9 := Lib.hid hw9
                have HB9 := Lib.hid (HB6.out.trans hb9)
                have HK9 := Lib.hid (hk9 _ _ HK6.out)
                clear hw9 hb9 hk9 HPut HCode HK6 HW6 HB6 HS5 hlv hbl2 hbl3
                go_wp2
                go_roundg (3 - (k + 1))
                case measure => omega
                case rel => exact ⟨k + 1, _, by omega, by omega, by go_num, HW9.out, HS6.out, by omega, HK9.out, HB9.out⟩
              · have g3 : decide ((1 : Int) < (v : Int)) = false := decide_eq_false (by omega)
                have HS6 := Lib.hid (show putsS S (lowsQ ⟨x1, x2, x3⟩ (k + 1)) = S' by
                  rw [HV.out, putsS_append, HS5.out]
                  have e : lowP v = [] := by unfold lowP; rw [if_neg hv1]
                  rw [e]; rfl)
                clear HS5
                go_wp2
                go_roundg (3 - (k + 1))
                case measure => omega
                case rel => exact ⟨k + 1, S', by omega, by omega, by go_num, HW6.out, HS6.out, by omega, HK6.out, HB6.out⟩
            · obtain rfl : k = 3 := by omega
              have HS6 := Lib.hid (show putsS w0 ((L.take (i + 1)).flatMap lowsP) = S' by
                rw [HF.out, putsS_append, HSS.out, ← HS5.out, lowsQ_three])
              clear HS5
              go_wp2
              go_roundg (n - (i + 1))
              case measure => omega
              case rel => exact ⟨i + 1, S', by omega, by omega, by go_num, HW5.out, HS6.out, by omega, HB5.out⟩
        · obtain rfl : i = n := by omega
          have hrl : (bytesS S).length ≤ 45 * i / 8 + 1 := by
            have := bytesS_len S
            omega
          have HRest := Lib.hid (show bytesS S = restB L by
            unfold restB
            rw [← HSS.out, List.take_of_length_le (by rw [HL.out]; exact Nat.le_refl _)])
          have HBy := Lib.hid (HW.out.bytes (by omega))
          have hml := OwnB.length HO.out
          simp only [List.length_append, H0.out] at hml
          go_wp2_with fail
          refine HBy.out.mono ?_
          rintro e w5 ⟨S5, m5, c5, rfl, hown5, hb5⟩
          have hm5 := OwnB.length hown5
          have hbB := HB.out.size
          have hbi := HBi.out.size
          have hb05 := HBi.out.trans (hb5.mono hbi)
          have HO5 := Lib.hid hown5
          have HOu := Lib.hid (Own.later HO.out hb05)
          have HB5 := Lib.hid (HB.out.trans (hb05.mono hbB))
          have HPN := Lib.hid (putNum Ao m co _ m5 w5 (OwnB.length HOu.out) (OwnB.bs HOu.out) (by omega) (by omega))
          clear hown5 hb5 HBy HO HW hb05
          go_wp2_with fail
          refine HPN.out.mono ?_
          rintro e w6 ⟨A6, m6, c6, rfl, hown6, hb6⟩
          have hm6 := OwnB.length hown6
          have hnb5 := numB_len 5 m5
          simp only [List.length_append, H0.out] at hm6
          have hs5 := HB5.out.size
          have HO6 := Lib.hid (Own.mono hown6 hs5)
          have HB6 := Lib.hid (HB5.out.trans (hb6.mono hs5))
          have HR6 := Lib.hid (Own.later HO5.out hb6)
          obtain ⟨rb, hrb⟩ : ∃ rb, rb = bytesS S := ⟨_, rfl⟩
          have HRb := Lib.hid (hrb.trans HRest.out)
          rw [← hrb] at HR6 hm5 hrl
          clear hown6 hb6 HPN HB5 HOu HO5 hrb
          go_wp2_with (at_builtin; refine wpList_append_rd rfl _ _ elemB rfl w.heap.size A6 m6 c6 ((out ++ numB 5 i ++ B1 ++ numB 5 m5).map u8v) ?hs HO6.out S5 m5 c5 (rb.map u8v) ?hx ?a1 ?a2 (u8_one _) ?a3 ?a4 ?a5 ?_; (case hs => simp [Act.eval]); (case hx => simp [Act.eval]))
          case a1 => exact Own.rd HR6.out
          case a2 => rw [List.length_map]; exact hm5
          case a3 => omega
          case a4 => omega
          case a5 => exact HB6.out.size
          intro A7 c7 w7 hown7 hb7 hg7 hat7
          have HO7 := Lib.hid (show OwnB w7 w.heap.size A7 (m6 + m5) c7 (out ++ (numB 5 i ++ (B1 ++ (numB 5 m5 ++ rb)))) from by unfold OwnB; simp only [List.map_append, List.append_assoc] at hown7 ⊢; exact hown7)
          have HB7 := Lib.hid (HB6.out.trans hb7)
          clear hown7 hb7 hg7 hat7 HO6 HB6 HR6
          go_wp2
          go_ret
          refine ⟨A7, m6 + m5, c7, _, rfl, HO7.out, .inr ⟨fun e => ?_, ?_⟩, HB7.out⟩
          · have h := HL.out
            rw [e] at h; simp at h; omega
          · obtain ⟨B2, b2, ⟨B3, b1, ⟨B4, b0, h00, h0, rfl⟩, h1, rfl⟩, h2, e2⟩ := HSt.out
            have h00 : B4 = [] := h00
            subst h00
            refine ⟨b0, b1, b2, h0, h1, h2, ?_⟩
            rw [HL.out, e2, ← HRb.out, hm5]
            simp
end Go.Proofs.YtaelgbbnmjbjiaaGreat
namespace Go.Proofs.YtaelgbbnmjbjiaaGreat
open Go.RowKit
set_option maxHeartbeats 1000000 in
theorem packHead (pd : Nat) (A : Option Addr) (n c m : Nat) (w : World) (hm : m < 256) (hn : n ≤ 65536) (hc : w.cell? ⟨pd, 0, none⟩ = some (.slice A n c)) :
    Calls Tryz.prog 8 #[.int .u8 (m : Int), .pointer (some ⟨pd, 0, none⟩)] w fun e w' => ∃ S k cs, e = .returned (.slice S k cs) ∧ OwnB w' w.heap.size S k cs (UInt8.ofNat m :: numB 5 n) ∧ Below w.heap.size w w' := by
  have hlt := block_lt hc
  have hba := (Below.refl w.heap.size w).alloc (Nat.le_refl _) (.cells #[.int .u8 (m : Int)] 5)
  have e : u8v (UInt8.ofNat m) = .int .u8 (m : Int) := by
    unfold u8v
    rw [UInt8.toNat_ofNat', Nat.mod_eq_of_lt hm]
  have hr6 : Bs (w.alloc (.cells #[.int .u8 (m : Int)] 5)) (some ⟨w.heap.size, 0, none⟩) [UInt8.ofNat m] := by
    unfold Bs
    rw [List.map_cons, List.map_nil, e]
    exact Rd.one w (.int .u8 (m : Int)) 5
  have HP := Lib.hid (putNum (some ⟨w.heap.size, 0, none⟩) 1 1 [UInt8.ofNat m] n _ rfl hr6 (by omega) (by omega))
  have hc2 := (hba.cell (p := ⟨pd, 0, none⟩) hlt).trans hc
  have HBa := Lib.hid hba
  clear hr6 e hba
  go_enter Tryz.func8, Tryz.ntmps8
  go_wp2_with fail
  refine HP.out.mono ?_
  rintro e w2 ⟨A2, m2, c2, rfl, hown2, hb2⟩
  have hsz := HBa.out.size
  have HO2 := Lib.hid (Own.mono hown2 hsz)
  have HB2 := Lib.hid (HBa.out.trans (hb2.mono hsz))
  clear hown2 hb2 HP
  go_wp2
  go_ret
  exact ⟨A2, m2, c2, rfl, HO2.out, HB2.out⟩
theorem one_int (x : UInt8) : ∀ u ∈ [Value.int .u8 (x.toNat : Int)], u.oneCell' = true := by
  intro u hu
  rw [List.mem_singleton] at hu
  subst hu; rfl
theorem countByte_nat (d : List UInt8) (x : UInt8) : Lib.countByte (Lib.bytesOf (Lib.numsL d)) ((x.toNat : Int)).toNat.toUInt8 = d.count x := by
  rw [Lib.bytesOf_numsL]
  have e : ((x.toNat : Int)).toNat.toUInt8 = x := by
    rw [Int.toNat_natCast]
    exact UInt8.ofNat_toNat
  rw [e]; rfl
theorem run_iff {d : List UInt8} {x : UInt8} (h : d[0]? = some x) : d.count x = d.length ↔ ∃ y, d = List.replicate d.length y := by
  rw [List.count_eq_length]
  constructor
  · intro h2
    exact ⟨x, List.eq_replicate_iff.2 ⟨rfl, fun b hb => (h2 b hb).symm⟩⟩
  · rintro ⟨y, hy⟩ b hb
    have h3 := (List.eq_replicate_iff.1 hy).2
    rw [h3 b hb, h3 x (List.mem_of_getElem? h)]
def RunD (d : List UInt8) : Prop := 1 < d.length ∧ ∃ y, d = List.replicate d.length y
theorem lits_pos {d : List UInt8} {L : List Sq} (h : FitL d 0 L) (h0 : 0 < d.length) : 0 < (litsL d L).length := by
  cases L with
  | nil => exact h0
  | cons x r =>
    obtain ⟨h1, h2, h3, h4, h5, -⟩ := h
    rw [litsL, List.length_append, List.length_take]
    omega
theorem litsB_len {l B : List UInt8} (h : LitsB l B) (hl : l.length ≤ 65536) : B.length ≤ 140000 := by
  have h0 := numB_len 5 l.length
  rcases h with rfl | ⟨lens, hL, rfl⟩
  · rw [List.length_append, List.length_cons]; omega
  · have h1 := table_len hL.may
    have h2 := body_len (mayL_facts hL.may).2.2 l
    have h3 := numB_len 5 (bodyB lens l).length
    simp only [List.length_append, List.length_cons]
    omega
def BestO (d B : List UInt8) : Prop :=
  (B = 0 :: numB 5 d.length ++ d ∧ ∀ x, 1 < d.length → d ≠ List.replicate d.length x) ∨ (∃ x, 1 < d.length ∧ d = List.replicate d.length x ∧ B = 1 :: numB 5 d.length ++ [x])
theorem BestO.best {d B : List UInt8} (h : BestO d B) : BestB d B := by
  rcases h with ⟨rfl, h⟩ | ⟨x, h1, h2, rfl⟩
  · exact .raw h
  · exact .run x h1 h2
theorem BestO.less {d B b c : List UInt8} {L : List Sq} (h : BestO d B) (h0 : d ≠ []) (hL : FitL d 0 L) (hb : LitsB (litsL d L) b) (hc : StepsB L c) (hlt : (2 :: numB 5 d.length ++ b ++ c).length < B.length) : BestB d (2 :: numB 5 d.length ++ b ++ c) := by
  rcases h with ⟨rfl, h⟩ | ⟨x, h1, h2, rfl⟩
  · refine .packed L b c h0 hL hb hc ?_ (fun x h1 h2 => absurd h2 (h x h1))
    simp only [List.length_append, List.length_cons] at hlt ⊢
    omega
  · refine .packed L b c h0 hL hb hc ?_ (fun x h1 h2 => ?_)
    · simp only [List.length_append, List.length_cons, List.length_nil] at hlt ⊢
      omega
    · simp only [List.length_append, List.length_cons, List.length_nil] at hlt ⊢
      omega
set_option maxHeartbeats 8000000 in
set_option maxRecDepth 10000 in
theorem packPack (A : Option Addr) (n c : Nat) (d : List UInt8) (w : World) (hl : d.length = n) (hr : Bs w A d) (hn : n ≤ 65536) (hc : n ≤ c) (hc2 : c ≤ 9223372036854775807) (hlow : ∀ b, bk A = some b → b < w.heap.size) :
    Calls Tryz.prog 4 #[.slice A n c] w fun e w' => ∃ S m cs B, e = .returned (.tuple #[.slice S m cs, .int .i64 0]) ∧ OwnB w' w.heap.size S m cs (B ++ sumOf d) ∧ BestB d B ∧ Below w.heap.size w w' := by
  have HL := Lib.hid hl
  have HR := Lib.hid hr
  have HLow := Lib.hid hlow
  have HBa := Lib.hid ((Below.refl w.heap.size w).alloc (Nat.le_refl _) (.cells #[.slice A n c] 22))
  have HBn := Lib.hid (Blk.new w 22 #[.slice A n c])
  have g1 : decide ((65536 : Int) < (n : Int)) = false := decide_eq_false (by omega)
  clear hl hr hlow
  go_enter Tryz.func4, Tryz.ntmps4
  go_wp2_with fail
  obtain ⟨wa, hwa⟩ : ∃ wa, wa = w.alloc (.cells #[.slice A n c] 22) := ⟨_, rfl⟩
  obtain ⟨pd, hpd⟩ : ∃ pd, pd = w.heap.size := ⟨_, rfl⟩
  rw [← hwa, ← hpd] at HBn ⊢
  rw [← hwa] at HBa
  have HPd := Lib.hid hpd
  clear hwa hpd
  have hcell := HBn.out.cell 0
  simp only [List.getElem?_toArray, List.getElem?_cons_zero] at hcell
  have hplt := HBn.out.lt
  have HH0 := Lib.hid (fun (w1 : World) (h : w1.cell? ⟨pd, 0, none⟩ = some (.slice A n c)) => packHead pd A n c 0 w1 (by omega) hn h)
  have HRa := Lib.hid (HR.out.later HBa.out)
  have hnb := numB_len 5 n
  go_region_held3 (fun w' => w'.cell? ⟨pd, 0, none⟩ = some (.slice A n c))
    (first | go_keep | (exact (hb1.cell (by simpa using hplt)).trans (by assumption)) | (exact (hb2.cell (by simpa using hplt)).trans (by assumption)))
    ((first | (go_at_call 8; refine (HH0.out _ (by assumption)).mono ?_; rintro e w1 ⟨S1, m1, c1, rfl, hown1, hb1⟩) | (refine step_append_rd rfl _ _ elemB rfl wa.heap.size S1 m1 c1 _ rfl hown1 A n c (d.map u8v) rfl (Rd.later (HRa.out.later ((Below.refl _ _).drew)) hb1) (by rw [List.length_map]; exact HL.out) (u8_one d) (by have := OwnB.length hown1; rw [List.length_cons] at this; omega) (by have := OwnB.length hown1; rw [List.length_cons] at this; omega) (by have := hb1.size; simpa using this) ?_; intro A2 c2 w2 hown2 hb2 hg2 hat2)))
  have hm1 := OwnB.length hown1
  rw [List.length_cons] at hm1
  have hwa := HBa.out.size
  have hb1' : Below wa.heap.size wa w1 := (Below.refl _ _).drew.trans hb1
  have hb12 : Below wa.heap.size wa w2 := hb1'.trans hb2
  have HO2 := Lib.hid (show OwnB w2 w.heap.size A2 (m1 + n) c2 (0 :: numB 5 n ++ d) from by
    have h := Own.mono hown2 hwa
    unfold OwnB
    simp only [List.map_append, List.map_cons, List.cons_append] at h ⊢
    exact h)
  have HB2 := Lib.hid (HBa.out.trans (hb12.mono hwa))
  have HK2 := Lib.hid (HBn.out.later hb12)
  have HR2 := Lib.hid (HRa.out.later hb12)
  have hlt2 := HK2.out.lt
  clear hown1 hb1 hb1' hb12 hown2 hb2 hg2 hat2 HBn HBa HRa hplt hcell
  have HH := Lib.hid (fun (m : Nat) (hm : m < 256) (w1 : World) (h : w1.cell? ⟨pd, 0, none⟩ = some (.slice A n c)) => packHead pd A n c m w1 hm hn h)
  clear HH0
  go_upto_if 21 with fail
  go_cut [5] from 6 to 63 (fun s5 wx => ∃ (S : Option Addr) (m cs : Nat) (B : List UInt8), s5 = .slice S m cs ∧ OwnB wx w.heap.size S m cs B ∧ BestB d B ∧ m ≤ 1000000 ∧ wx.cell? ⟨pd, 0, none⟩ = some (.slice A n c) ∧ Below w.heap.size w wx)
  case first =>
    rcases Nat.eq_zero_or_pos n with hz | hpos
    · have g2 : decide ((0 : Int) < (n : Int)) = false := decide_eq_false (by omega)
      go_wp2_with fail
      go_meet
      case rel =>
        have hlz := HL.out
        refine ⟨A2, m1 + n, c2, _, rfl, HO2.out, ?_, by omega, by assumption, HB2.out⟩
        rw [show n = d.length from hlz.symm]
        exact .raw (fun x h => by omega)
    · have g2 : decide ((0 : Int) < (n : Int)) = true := decide_eq_true (by omega)
      obtain ⟨b, o, x, hA, hx, hcx⟩ := HR2.out.at_ (by rw [HL.out]; exact hpos : 0 < d.length)
      subst hA
      rw [Nat.add_zero] at hcx
      have hbc : ∀ q, ∀ i, i < n → (w2.drewN q).cell? ⟨b, o + i, none⟩ = some (.int .u8 ((Lib.numsL d).getD i 0)) := by
        intro q i hi
        obtain ⟨b', o', e, hc⟩ := HR2.out (by rw [List.length_map, HL.out]; exact hpos)
        cases e
        have h2 := hc i (by rw [List.length_map, HL.out]; exact hi)
        have hi' : i < d.length := by rw [HL.out]; exact hi
        have h3 : w2.cell? ⟨b, o + i, none⟩ = some (.int .u8 ((Lib.numsL d).getD i 0)) := by
          rw [h2]
          simp [Lib.numsL, List.getD, List.getElem?_eq_getElem hi', u8v]
        exact ((below_drewN w2 q).cell (block_lt h3)).trans h3
      have HCnt := Lib.hid (fun q => Tryz.bytes_Count_one b o n c b o c (Lib.numsL d) (x.toNat : Int) (w2.drewN q) (by rw [Lib.numsL_length, HL.out]) (hbc q) (((below_drewN w2 q).cell (block_lt hcx)).trans hcx))
      simp only [countByte_nat] at HCnt
      obtain ⟨k, hk⟩ : ∃ k, k = d.count x := ⟨_, rfl⟩
      have HKr := Lib.hid (show (k = n ∧ 1 < n) ↔ RunD d by
        unfold RunD
        have h := run_iff hx
        rw [← hk] at h
        rw [HL.out] at h ⊢
        constructor
        · intro h2; exact ⟨h2.2, h.1 h2.1⟩
        · intro h2; exact ⟨h.2 h2.2, h2.1⟩)
      rw [← hk] at HCnt
      have HXd := Lib.hid hx
      clear hk hbc hx
      go_upto_region 6 with fail
      go_cut [33] from 22 to 32 (fun s33 wx => ∃ t : Bool, s33 = .bool t ∧ (t = true ↔ RunD d) ∧ ∃ q, wx = w2.drewN q)
      case first =>
        by_cases h1 : k = n
        · have e1 : ((k : Int) == (n : Int)) = true := by rw [h1]; exact beq_self_eq_true _
          by_cases h2 : 1 < n
          · have e2 : decide ((1 : Int) < (n : Int)) = true := decide_eq_true (by omega)
            have HT := Lib.hid (show RunD d from HKr.out.1 ⟨h1, h2⟩)
            clear h1
            go_quiet ((go_at_call 10; exact Calls.quiet_of_same (HCnt.out _)))
            go_wp2_with fail
            go_meet
            case rel => exact ⟨true, rfl, ⟨fun _ => HT.out, fun _ => rfl⟩, _, rfl⟩
          · have e2 : decide ((1 : Int) < (n : Int)) = false := decide_eq_false (by omega)
            have HT := Lib.hid (show ¬ RunD d from fun h => h2 (HKr.out.2 h).2)
            clear h1
            go_quiet ((go_at_call 10; exact Calls.quiet_of_same (HCnt.out _)))
            go_wp2_with fail
            go_meet
            case rel => exact ⟨false, rfl, ⟨(fun h => by cases h), (fun h => absurd h HT.out)⟩, _, rfl⟩
        · have e1 : ((k : Int) == (n : Int)) = false := beq_eq_false_iff_ne.2 (by omega)
          have HT := Lib.hid (show ¬ RunD d from fun h => h1 (HKr.out.2 h).1)
          clear h1
          go_quiet ((go_at_call 10; exact Calls.quiet_of_same (HCnt.out _)))
          go_wp2_with fail
          go_meet
          case rel => exact ⟨false, rfl, ⟨(fun h => by cases h), (fun h => absurd h HT.out)⟩, _, rfl⟩
      case rest =>
        obtain ⟨t, rfl, ht, q, rfl⟩ := hcut
        have HT := Lib.hid ht
        have hbq := below_drewN w2 q
        have HOq := Lib.hid (Own.later HO2.out hbq)
        have HBq := Lib.hid (HB2.out.trans (hbq.mono HB2.out.size))
        have HKq := Lib.hid (HK2.out.later hbq)
        have HRq := Lib.hid (HR2.out.later hbq)
        have hcq := (hbq.cell (block_lt hcx)).trans hcx
        clear ht HO2 HB2 HK2 HR2 HCnt HKr hcx hbq
        obtain ⟨w3, hw3⟩ : ∃ w3, w3 = w2.drewN q := ⟨_, rfl⟩
        rw [← hw3] at HOq HBq HKq HRq hcq ⊢
        clear hw3
        go_upto_if 33 with fail
        go_cut [5] from 21 to 40 (fun s5 wx => ∃ (S : Option Addr) (m cs : Nat) (B : List UInt8), s5 = .slice S m cs ∧ OwnB wx w.heap.size S m cs B ∧ BestO d B ∧ m ≤ 1000000 ∧ Blk wx pd 22 #[.slice (some ⟨b, o, none⟩) n c] ∧ Below w.heap.size w wx)
        case first =>
          rcases t with _ | _
          · have hnr : ¬ RunD d := fun h => by have h2 := HT.out.2 h; cases h2
            go_wp2_with fail
            go_meet
            case rel =>
              refine ⟨A2, m1 + n, c2, _, rfl, HOq.out, .inl ⟨?_, fun x h1 h2 => hnr ⟨h1, x, h2⟩⟩, by omega, HKq.out, HBq.out⟩
              rw [HL.out]
          · have hrun := HT.out.1 rfl
            have hkc := HKq.out.cell 0
            simp only [List.getElem?_toArray, List.getElem?_cons_zero] at hkc
            have hlp := HKq.out.lt
            have hlb := block_lt hcq
            have HH1 := Lib.hid (fun (wq : World) (h : wq.cell? ⟨pd, 0, none⟩ = some (.slice (some ⟨b, o, none⟩) n c)) => HH.out 1 (by omega) wq h)
            have i1 : (0 : Int) < (n : Int) := by omega
            go_wp2_with fail
            have hal := (Below.refl w3.heap.size w3).alloc (Nat.le_refl _) (.cells #[.int .u8 (x.toNat : Int)] 5)
            have hcA := (hal.cell hlp).trans hkc
            go_region_held3 (fun w' => w'.cell? ⟨pd, 0, none⟩ = some (.slice (some ⟨b, o, none⟩) n c) ∧ w'.cell? ⟨b, o, none⟩ = some (.int .u8 (x.toNat : Int)))
              (first | go_keep | (exact K5) | (exact K4))
              ((first | (go_at_call 8; refine (HH1.out _ ?_).mono ?_; (first | exact hkc | exact hcA); rintro e w4 ⟨S4, m4, c4, rfl, hown4, hb4⟩; have hm4 := OwnB.length hown4; rw [List.length_cons] at hm4; have hb34 : Below w3.heap.size w3 w4 := (by first | exact (Below.refl _ _).drew.trans hb4 | exact hal.drew.trans (hb4.mono (by simp))); have K4 := (show w4.cell? ⟨pd, 0, none⟩ = some (.slice (some ⟨b, o, none⟩) n c) ∧ w4.cell? ⟨b, o, none⟩ = some (.int .u8 (x.toNat : Int)) from ⟨(hb34.cell hlp).trans hkc, (hb34.cell hlb).trans hcq⟩)) | (refine step_append_rd rfl _ _ elemB rfl w3.heap.size S4 m4 c4 _ rfl (Own.alloc hown4 _) (some ⟨w4.heap.size, 0, none⟩) 1 1 [.int .u8 (x.toNat : Int)] rfl (Rd.one w4 _ 5) rfl (one_int x) ?_ ?_ ?_ ?_; omega; omega; (exact Nat.le_trans hb34.size (by simp)); intro A5 c5 w5 hown5 hb5 hg5 hat5; have hb35 : Below w3.heap.size w3 w5 := (hb34.alloc hb34.size _).trans hb5; have K5 := (show w5.cell? ⟨pd, 0, none⟩ = some (.slice (some ⟨b, o, none⟩) n c) ∧ w5.cell? ⟨b, o, none⟩ = some (.int .u8 (x.toNat : Int)) from ⟨(hb35.cell hlp).trans hkc, (hb35.cell hlb).trans hcq⟩)) | (refine step_append_rd rfl _ _ elemB rfl w3.heap.size S4 m4 c4 _ rfl (Own.mono hown4 (by simp)) (some ⟨w3.heap.size, 0, none⟩) 1 1 [.int .u8 (x.toNat : Int)] rfl (Rd.later (Rd.one w3 _ 5) ((Below.refl _ _).drew.trans hb4)) rfl (one_int x) ?_ ?_ ?_ ?_; omega; omega; (exact hb34.size); intro A5 c5 w5 hown5 hb5 hg5 hat5; have hb35 : Below w3.heap.size w3 w5 := hb34.trans hb5; have K5 := (show w5.cell? ⟨pd, 0, none⟩ = some (.slice (some ⟨b, o, none⟩) n c) ∧ w5.cell? ⟨b, o, none⟩ = some (.int .u8 (x.toNat : Int)) from ⟨(hb35.cell hlp).trans hkc, (hb35.cell hlb).trans hcq⟩))))
            all_goals
              have hs3 := HBq.out.size
              have HO5 := Lib.hid (show OwnB w5 w.heap.size A5 (m4 + 1) c5 (1 :: numB 5 n ++ [x]) from by
                have h := Own.mono hown5 hs3
                unfold OwnB
                simp only [List.map_append, List.map_cons, List.cons_append, List.map_nil] at h ⊢
                exact h)
              have HK5 := Lib.hid (HKq.out.later hb35)
              have HB5 := Lib.hid (HBq.out.trans (hb35.mono hs3))
              clear hown4 hown5 hb4 hb5 hb34 hb35 K5 hg5 hat5 HKq HBq HOq HRq
              go_wp2_with fail
              go_meet
              case rel =>
                refine ⟨A5, m4 + 1, c5, _, rfl, HO5.out, .inr ⟨x, hrun.1, ?_, by rw [HL.out]⟩, by omega, HK5.out, HB5.out⟩
                obtain ⟨-, y, hy⟩ := hrun
                have h0 := HXd.out
                rw [(List.eq_replicate_iff.1 hy).2 x (List.mem_of_getElem? h0)]
                exact hy
        case rest =>
          clear HOq HKq HBq hcq
          obtain ⟨S4, m4, c4, B4, rfl, hown4, hbo, hm4, hk4, hb4⟩ := hcut
          clear HRq HXd HT
          have HO4 := Lib.hid hown4
          have HBo := Lib.hid hbo
          have HK4 := Lib.hid hk4
          have HB4 := Lib.hid hb4
          have hml4 := OwnB.length hown4
          have hs4 := hb4.size
          have hkc := hk4.cell 0
          simp only [List.getElem?_toArray, List.getElem?_cons_zero] at hkc
          have HFi := Lib.hid (mFind (some ⟨b, o, none⟩) n c d wc HL.out (HR.out.later hb4) hn hc (fun b' hb' => Nat.lt_of_lt_of_le (HLow.out b' hb') hs4))
          clear hown4 hbo hk4 hb4
          go_wp2_with fail
          refine HFi.out.mono ?_
          rintro e w5 ⟨S5, m5, c5, L, rfl, hown5, hfit, hb5⟩
          have hm5 := hown5.length
          have hmany := hfit.many
          rw [HL.out] at hmany
          have HFit := Lib.hid hfit
          have HS5 := Lib.hid hown5
          have HB5 := Lib.hid (HB4.out.trans (hb5.mono hs4))
          have HO5 := Lib.hid (Own.later HO4.out hb5)
          have HK5 := Lib.hid (HK4.out.later hb5)
          have HLi := Lib.hid (matchLits (some ⟨b, o, none⟩) n c d S5 m5 c5 L w5 HL.out ((HR.out.later HB4.out).later hb5) hn hc hc2 hm5 hown5.ss (by omega) (hfit.fits (by rw [HL.out]; omega)))
          have hlp := lits_pos hfit (by rw [HL.out]; exact hpos)
          have hll := litsL_len L d
          rw [HL.out] at hll
          have hkc5 := HK5.out.cell 0
          simp only [List.getElem?_toArray, List.getElem?_cons_zero] at hkc5
          clear hown5 hfit hb5 HFi HO4 HK4 HB4 hkc
          go_wp2_with fail
          refine HLi.out.mono ?_
          rintro e w6 ⟨S6, m6, c6, rfl, hown6, hb6⟩
          have hm6 := OwnB.length hown6
          rw [hm6] at hlp hll
          have hs5 := HB5.out.size
          have HL6 := Lib.hid hown6
          have HB6 := Lib.hid (HB5.out.trans (hb6.mono hs5))
          have HO6 := Lib.hid (Own.later HO5.out hb6)
          have HS6 := Lib.hid (HS5.out.later hb6)
          have HK6 := Lib.hid (HK5.out.later hb6)
          have hkc6 := HK6.out.cell 0
          simp only [List.getElem?_toArray, List.getElem?_cons_zero] at hkc6
          have HH2 := Lib.hid (HH.out 2 (by omega) w6 hkc6)
          clear hown6 hb6 HLi HB5 HO5 HS5 HK5 hkc5
          go_wp2_with fail
          refine HH2.out.mono ?_
          rintro e w7 ⟨S7, m7, c7, rfl, hown7, hb7⟩
          have hm7 := OwnB.length hown7
          rw [List.length_cons] at hm7
          have hs6 := HB6.out.size
          have HB7 := Lib.hid (HB6.out.trans (hb7.mono hs6))
          have HO7 := Lib.hid (Own.later HO6.out hb7)
          have HS7 := Lib.hid (HS6.out.later hb7)
          have HK7 := Lib.hid (HK6.out.later hb7)
          have HPL := Lib.hid (packLiterals S7 m7 c7 _ S6 m6 c6 (litsL d L) w7 (OwnB.length hown7) (OwnB.bs hown7) (by omega) hm6 ((OwnB.bs HL6.out).later hb7) hlp (by omega))
          clear hown7 hb7 HH2 HB6 HO6 HS6 HK6 HL6 hkc6
          go_wp2_with fail
          refine HPL.out.mono ?_
          rintro e w8 ⟨S8, m8, c8, b8, rfl, hown8, hlits, hb8⟩
          have hm8 := OwnB.length hown8
          simp only [List.length_append, List.length_cons] at hm8
          have hlb := litsB_len hlits (by omega)
          have hs7 := HB7.out.size
          have HB8 := Lib.hid (HB7.out.trans (hb8.mono hs7))
          have HO8 := Lib.hid (Own.later HO7.out hb8)
          have HK8 := Lib.hid (HK7.out.later hb8)
          have HLt := Lib.hid hlits
          have HPS := Lib.hid (packSteps S8 m8 c8 _ S5 m5 c5 L w8 (OwnB.length hown8) (OwnB.bs hown8) (by omega) hm5 (HS7.out.later hb8).ss (HFit.out.small (by rw [HL.out]; exact hn)) (by omega))
          clear hown8 hb8 HPL HB7 HO7 HS7 HK7 hlits
          go_wp2_with fail
          refine HPS.out.mono ?_
          rintro e w9 ⟨S9, m9, c9, b9, rfl, hown9, hsteps, hb9⟩
          have hm9 := OwnB.length hown9
          have hs8 := HB8.out.size
          have HB9 := Lib.hid (HB8.out.trans (hb9.mono hs8))
          have HO9 := Lib.hid (Own.later HO8.out hb9)
          have HK9 := Lib.hid (HK8.out.later hb9)
          have HX9 := Lib.hid (Own.mono hown9 hs8)
          have HSt := Lib.hid hsteps
          have hkc9 := HK9.out.cell 0
          simp only [List.getElem?_toArray, List.getElem?_cons_zero] at hkc9
          clear hown9 hb9 HPS HB8 HO8 HK8 hsteps
          by_cases hlt9 : m9 < m4
          · have g9 : decide ((m9 : Int) < (m4 : Int)) = true := decide_eq_true (by omega)
            go_wp2_with fail
            go_meet
            case rel =>
              refine ⟨S9, m9, c9, _, rfl, HX9.out, ?_, by omega, hkc9, HB9.out⟩
              have h := HBo.out.less (b := b8) (c := b9) (fun e => by have := HL.out; rw [e] at this; simp at this; omega) HFit.out HLt.out HSt.out
              rw [HL.out] at h
              exact h (by rw [hml4]; exact Nat.lt_of_le_of_lt (Nat.le_of_eq hm9) hlt9)
          · have g9 : decide ((m9 : Int) < (m4 : Int)) = false := decide_eq_false (by omega)
            go_wp2_with fail
            go_meet
            case rel => exact ⟨S4, m4, c4, B4, rfl, HO9.out, HBo.out.best, hm4, hkc9, HB9.out⟩
  case rest =>
    obtain ⟨S3, m3, c3, B, rfl, hown3, hbest, hm3, hcell3, hb3⟩ := hcut
    have HO3 := Lib.hid hown3
    have HBe := Lib.hid hbest
    have HB3 := Lib.hid hb3
    have hs3 := hb3.size
    have HSum := Lib.hid (packSum A n c d wc HL.out (HR.out.later hb3) (by omega))
    clear hown3 hbest hb3 HO2 HB2 HK2 HR2 HH HLow
    go_wp2_with fail
    refine HSum.out.mono ?_
    rintro e w4 ⟨A4, c4, rfl, hown4, hb4⟩
    have HO4 := Lib.hid hown4
    have HP4 := Lib.hid (Own.later HO3.out hb4)
    have HB4 := Lib.hid (HB3.out.trans (hb4.mono hs3))
    have hlen4 := OwnB.length hown4
    clear hown4 hb4 HSum HO3 HB3
    go_wp2_with (at_builtin; refine wpList_append_rd rfl _ _ elemB rfl w.heap.size S3 m3 c3 (B.map u8v) rfl HP4.out A4 4 c4 ((sumOf d).map u8v) rfl ?a1 ?a2 (u8_one _) ?a3 ?a4 ?a5 ?_)
    case a1 => exact Own.rd HO4.out
    case a2 => rw [List.length_map]; exact hlen4
    case a3 => omega
    case a4 => omega
    case a5 => exact HB4.out.size
    intro A5 c5 w5 hown5 hb5 hg5 hat5
    have HO5 := Lib.hid (show OwnB w5 w.heap.size A5 (m3 + 4) c5 (B ++ sumOf d) from by unfold OwnB; rw [List.map_append]; exact hown5)
    have HB5 := Lib.hid (HB4.out.trans hb5)
    clear hown5 hb5 hg5 hat5
    go_wp2
    go_ret2
    exact ⟨A5, m3 + 4, c5, B, rfl, HO5.out, HBe.out, HB5.out⟩
end Go.Proofs.YtaelgbbnmjbjiaaGreat
namespace Go.Proofs.YtaelgbbnmjbjiaaGreat
open Go.RowKit
set_option maxHeartbeats 8000000 in
set_option maxRecDepth 100000 in
theorem packUnpack (A : Option Addr) (n0 c : Nat) (data : List UInt8) (most : Int) (w : World) (hl : data.length = n0) (hr : Bs w A data) (hn : n0 ≤ 140737488351232) (hc : n0 ≤ c) (hc2 : c ≤ 9223372036854775807) (hnil : A = none → c = 0)
    (hA : ∀ b, bk A = some b → b < w.heap.size) (hm1 : -9223372036854775808 ≤ most) (hm2 : most ≤ 9223372036854775807) :
    Calls Tryz.prog 21 #[.slice A n0 c, .int .i64 most] w (unpPost (unpackL data most) w) := by
  obtain ⟨R, hR⟩ : ∃ R, unpackL data most = R := ⟨_, rfl⟩
  rw [hR]
  unfold unpackL at hR
  by_cases hmost : most < 0 ∨ 65536 < most
  · rw [if_pos hmost] at hR
    have HD := Lib.hid (show R = (1, []) from hR.symm)
    clear hR hr hl
    rcases hmost with h | h
    all_goals go_enter Tryz.func21, Tryz.ntmps21
    all_goals go_wp2
    all_goals go_ret2
    all_goals exact unpPost_bad HD.out (Below.refl _ _)
  · rw [if_neg hmost] at hR
    have h0 : 0 ≤ most := by omega
    have h65 : most ≤ 65536 := by omega
    have HP0 := Lib.hid (⟨by rw [hl]; exact Blk.new w 77 #[.slice A n0 c, .bool false], hr.later ((Below.refl _ _).alloc (Nat.le_refl _) _), fun e => by have := hA _ e; omega, ⟨by omega, hc2⟩, hnil, by omega⟩ : IsPk (w.alloc (.cells #[.slice A n0 c, .bool false] 77)) w.heap.size data A c false)
    have HB0 := Lib.hid ((Below.refl w.heap.size w).alloc (Nat.le_refl _) (.cells #[.slice A n0 c, .bool false] 77))
    have HD := Lib.hid (show R = modeL most data from hR.symm)
    clear hR hmost
    cases data with
    | nil =>
      have HDt := Lib.hid (show R = (5, []) from HD.out)
      have HT := Lib.hid (pk_take_bad _ c [] A false 1 _ HP0.out (.inr (by simp)))
      clear hr hl
      go_enter Tryz.func21, Tryz.ntmps21
      go_wp2_with fail
      refine HT.out.mono ?_
      rintro e w1 ⟨rfl, hp1, hg1⟩
      have d1 := hp1.blk.cell 1
      simp only [List.getElem?_toArray, List.getElem?_cons_zero, List.getElem?_cons_succ] at d1
      have HB1 := Lib.hid (HB0.out.trans (below_grown hg1 HB0.out.size (fun k hk => by cases hk; exact Nat.le_refl _)))
      clear hp1 hg1
      go_wp2
      go_ret2
      exact unpPost_bad HDt.out HB1.out
    | cons mode l =>
      obtain ⟨b, o, x, rfl, hx, hcx⟩ := hr.at_ (k := 0) (by simp)
      obtain rfl : mode = x := by simpa using hx
      rw [Nat.add_zero] at hcx
      have hbw := block_lt hcx
      have HT := Lib.hid (pk_take_any _ c (mode :: l) (some ⟨b, o, none⟩) 1 _ HP0.out (by simp))
      have hll : l.length ≤ 140737488351232 := by simp at hl; omega
      have HD1 := Lib.hid (show R = if 2 < mode.toNat then (5, []) else numL mode l most (pkNum l 4294967295) from HD.out)
      clear hr hl hx HD
      go_enter Tryz.func21, Tryz.ntmps21
      go_wp2_with fail
      refine HT.out.mono ?_
      rintro e w1 ⟨rfl, hp1, hg1⟩
      rw [List.drop_one, List.tail_cons] at hp1
      have d1 := hp1.blk.cell 1
      simp only [List.getElem?_toArray, List.getElem?_cons_zero, List.getElem?_cons_succ] at d1
      have HP1 := Lib.hid hp1
      have HB1 := Lib.hid (HB0.out.trans (below_grown hg1 HB0.out.size (fun k hk => by cases hk; exact Nat.le_refl _)))
      have hm1c : w1.cell? ⟨b, o, none⟩ = some (.int .u8 (mode.toNat : Int)) := by rw [HB1.out.cell (by simpa using hbw)]; exact hcx
      have hA1 : bk (cutA (some ⟨b, o, none⟩) c 1) = some b := bk_cut _ _ _
      generalize cutA (some ⟨b, o, none⟩) c 1 = A1 at *
      generalize c - 1 = c1 at *
      clear hp1 hg1 HT HP0 HB0
      by_cases h2 : 2 < mode.toNat
      · have HDt := Lib.hid (HD1.out.trans (if_pos h2))
        have h2' : 2 < (mode.toNat : Int) := by omega
        clear h2
        go_wp2
        go_ret2
        exact unpPost_bad HDt.out HB1.out
      · have h2' : (mode.toNat : Int) ≤ 2 := by omega
        have HD2 := Lib.hid (HD1.out.trans (if_neg h2))
        cases hp : pkNum l 4294967295 with
        | none =>
          have HDt := Lib.hid (HD2.out.trans (by rw [hp, numL]))
          have HN := Lib.hid (pk_num_bad _ c1 l A1 false 4294967295 w1 HP1.out (.inr hp))
          go_wp2_with fail
          refine HN.out.mono ?_
          rintro e w2 ⟨rfl, hp2, hg2⟩
          have d2 := hp2.blk.cell 1
          simp only [List.getElem?_toArray, List.getElem?_cons_zero, List.getElem?_cons_succ] at d2
          have HB2 := Lib.hid (HB1.out.trans (below_grown hg2 HB1.out.size (fun k hk => by cases hk; exact Nat.le_refl _)))
          clear hp2 hg2
          go_wp2
          go_ret2
          exact unpPost_bad HDt.out HB2.out
        | some p =>
          obtain ⟨n, k⟩ := p
          have HN := Lib.hid (pk_num_any _ c1 l A1 4294967295 n k w1 HP1.out hp)
          have HD3 := Lib.hid (HD2.out.trans (by rw [hp, numL]))
          obtain ⟨hk, hnn, -, -⟩ := pkNum_facts hp
          clear hp
          go_wp2_with fail
          refine HN.out.mono ?_
          rintro e w2 ⟨rfl, hp2, hg2⟩
          have d2 := hp2.blk.cell 1
          simp only [List.getElem?_toArray, List.getElem?_cons_zero, List.getElem?_cons_succ] at d2
          have HP2 := Lib.hid hp2
          have HB2 := Lib.hid (HB1.out.trans (below_grown hg2 HB1.out.size (fun k hk => by cases hk; exact Nat.le_refl _)))
          have hm2c : w2.cell? ⟨b, o, none⟩ = some (.int .u8 (mode.toNat : Int)) := by rw [HB2.out.cell (by simpa using hbw)]; exact hcx
          have hA2 : bk (cutA A1 c1 k) = some b := (bk_cut _ _ _).trans hA1
          have hl2 : (l.drop k).length ≤ 140737488351232 := by rw [List.length_drop]; omega
          clear hp2 hg2 HN HP1 HB1 hm1c d1
          generalize l.drop k = l2 at *
          generalize cutA A1 c1 k = A2 at *
          generalize c1 - k = c2 at *
          by_cases hnm : most < (n : Int)
          · have HDt := Lib.hid (HD3.out.trans (if_pos hnm))
            go_wp2
            go_ret2
            exact unpPost_bad HDt.out HB2.out
          · have HD4 := Lib.hid (HD3.out.trans (if_neg hnm))
            have hnm' : (n : Int) ≤ most := by omega
            have hn65 : n ≤ 65536 := by omega
            clear HD3 HD2 HD1
            have HMC := Lib.hid hcx
            go_upto_block 1 with fail
            go_cut [9] from 10 to 93 (fun s9 wx => ∃ (lt : List UInt8) (At : Option Addr) (ct : Nat) (bad : Bool) (Ao : Option Addr) (no co : Nat) (out : List UInt8), s9 = .slice Ao no co ∧ IsPk wx w.heap.size lt At ct bad ∧ Below w.heap.size w wx ∧
              ((bad = true ∧ R = (5, [])) ∨ (bad = false ∧ R = endL mode n (some (out, lt)) ∧ NewB wx w.heap.size Ao no co out ∧ bk Ao ≠ some w.heap.size ∧ no ≤ 65536)))
            case first =>
              by_cases hmd0 : mode = 0
              · have e0 : ((mode.toNat : Int) == 0) = true := by rw [hmd0]; rfl
                by_cases hsh : l2.length < n
                · have HDt := Lib.hid (show R = (5, []) from HD4.out.trans (by unfold bodyL; rw [if_pos hmd0, takeE, if_pos hsh, endL]))
                  have HT2 := Lib.hid (pk_take_bad _ c2 l2 A2 false n w2 HP2.out (.inr (by omega)))
                  clear hsh HD4
                  go_wp2_with fail
                  refine HT2.out.mono ?_
                  rintro e w3 ⟨rfl, hp3, hg3⟩
                  have HB3 := Lib.hid (HB2.out.trans (below_grown hg3 HB2.out.size (fun k hk => by cases hk; exact Nat.le_refl _)))
                  have HP3 := Lib.hid hp3
                  clear hp3 hg3
                  go_wp2_with (at_builtin; refine wpList_append_rd rfl _ _ elemB rfl w.heap.size none 0 0 [] ?hs (Own.nil _ _ _) none 0 0 [] ?hx (Rd.nil _ _) rfl (by simp) (by simp) (by simp) ?hb ?_; (case hs => simp [Act.eval]); (case hx => simp [Act.eval]))
                  case hb => exact HB3.out.size
                  intro Ax cx wt hownt hbt hgt hatt
                  have HPt := Lib.hid (HP3.out.kept hgt (by simp [bk]) (.inr (by rw [show bk A2 = some b from hA2]; simp [bk])))
                  have HBt := Lib.hid (HB3.out.trans hbt)
                  clear hownt hbt hgt hatt
                  go_wp2_with fail
                  go_meet
                  exact ⟨l2, A2, c2, true, Ax, _, cx, [], rfl, HPt.out, HBt.out, .inl ⟨rfl, HDt.out⟩⟩
                · have HT2 := Lib.hid (pk_take_any _ c2 l2 A2 n w2 HP2.out (by omega))
                  have HDt := Lib.hid (show R = endL mode n (some (l2.take n, l2.drop n)) from HD4.out.trans (by unfold bodyL; rw [if_pos hmd0, takeE, if_neg hsh]))
                  have htl : (l2.take n).length = n := by rw [List.length_take]; omega
                  clear HD4
                  go_wp2_with fail
                  refine HT2.out.mono ?_
                  rintro e w3 ⟨rfl, hp3, hg3⟩
                  have HB3 := Lib.hid (HB2.out.trans (below_grown hg3 HB2.out.size (fun k hk => by cases hk; exact Nat.le_refl _)))
                  have HP3 := Lib.hid hp3
                  have HS3 := Lib.hid (Rd.keptB (Bs.take n HP2.out.data) hg3 (.inr HP2.out.ne) : Bs w3 A2 (l2.take n))
                  have hA3 : bk (cutA A2 c2 n) = some b := (bk_cut _ _ _).trans hA2
                  clear hp3 hg3
                  generalize l2.take n = out at *
                  generalize l2.drop n = lt at *
                  generalize cutA A2 c2 n = At at *
                  have HTL := Lib.hid htl
                  clear htl
                  go_wp2_with (at_builtin; refine wpList_append_rd rfl _ _ elemB rfl w.heap.size none 0 0 [] ?hs (Own.nil _ _ _) A2 n c2 (out.map u8v) ?hx HS3.out ?h1 (u8_one _) ?h2 ?h3 ?hb ?_; (case hs => simp [Act.eval]); (case hx => simp [Act.eval]))
                  case h1 => rw [List.length_map]; exact HTL.out
                  case h2 => omega
                  case h3 => omega
                  case hb => exact HB3.out.size
                  intro Ao co wt hownt hbt hgt hatt
                  have HPt := Lib.hid (HP3.out.kept hgt (by simp [bk]) (.inr (by rw [hA3]; simp [bk])))
                  have HBt := Lib.hid (HB3.out.trans hbt)
                  have hsep : bk Ao ≠ some w.heap.size := Own.ne_blk hownt HPt.out.blk (by decide)
                  have HOt := Lib.hid (OwnB.newB hownt)
                  clear hownt hbt hgt hatt
                  go_wp2_with fail
                  go_meet
                  exact ⟨lt, At, _, false, Ao, n, co, out, rfl, HPt.out, HBt.out, .inr ⟨rfl, HDt.out, HOt.out, hsep, hn65⟩⟩
              · have e0 : ((mode.toNat : Int) == 0) = false := beq_eq_false_iff_ne.2 (fun e => hmd0 (UInt8.toNat_inj.1 (show mode.toNat = 0 by omega)))
                by_cases hmd1 : mode = 1
                · have e1 : ((mode.toNat : Int) == 1) = true := by rw [hmd1]; rfl
                  cases l2 with
                  | nil =>
                    have HDt := Lib.hid (show R = (5, []) from HD4.out.trans (by unfold bodyL; rw [if_neg hmd0, if_pos hmd1]; rfl))
                    have HT2 := Lib.hid (pk_take_bad _ c2 [] A2 false 1 w2 HP2.out (.inr (by simp)))
                    clear HD4
                    go_wp2_with fail
                    refine HT2.out.mono ?_
                    rintro e w3 ⟨rfl, hp3, hg3⟩
                    have HBt := Lib.hid (HB2.out.trans (below_grown hg3 HB2.out.size (fun k hk => by cases hk; exact Nat.le_refl _)))
                    have d3 := hp3.blk.cell 1
                    simp only [List.getElem?_toArray, List.getElem?_cons_zero, List.getElem?_cons_succ] at d3
                    have HPt := Lib.hid hp3
                    clear hp3 hg3
                    go_wp2_with fail
                    go_meet
                    exact ⟨[], A2, c2, true, none, 0, 0, [], rfl, HPt.out, HBt.out, .inl ⟨rfl, HDt.out⟩⟩
                  | cons x l3 =>
                    have HDt := Lib.hid (show R = endL mode n (some (List.replicate n x, l3)) from HD4.out.trans (by unfold bodyL; rw [if_neg hmd0, if_pos hmd1]))
                    have HT2 := Lib.hid (pk_take_any _ c2 (x :: l3) A2 1 w2 HP2.out (by simp))
                    clear HD4
                    go_wp2_with fail
                    refine HT2.out.mono ?_
                    rintro e w3 ⟨rfl, hp3, hg3⟩
                    rw [List.drop_one, List.tail_cons] at hp3
                    have HB3 := Lib.hid (HB2.out.trans (below_grown hg3 HB2.out.size (fun k hk => by cases hk; exact Nat.le_refl _)))
                    have d3 := hp3.blk.cell 1
                    simp only [List.getElem?_toArray, List.getElem?_cons_zero, List.getElem?_cons_succ] at d3
                    have HP3 := Lib.hid hp3
                    have HS3 := Lib.hid (Rd.keptB (Bs.take 1 HP2.out.data) hg3 (.inr HP2.out.ne) : Bs w3 A2 [x])
                    have hA3 : bk (cutA A2 c2 1) = some b := (bk_cut _ _ _).trans hA2
                    have HRep := Lib.hid (bytesRepeat A2 c2 x n w3 HS3.out hn65)
                    clear hp3 hg3
                    generalize cutA A2 c2 1 = At at *
                    generalize List.replicate n x = out at *
                    go_wp2_with fail
                    refine HRep.out.mono ?_
                    rintro e wt ⟨Ao, co, rfl, hnew, hbt⟩
                    have HPt := Lib.hid (HP3.out.later hbt)
                    have HBt := Lib.hid (HB3.out.trans (hbt.mono HB3.out.size))
                    have hsep : bk Ao ≠ some w.heap.size := fun e => by
                      have h1 := (hnew.2.2.1 _ e).1
                      have h2 := HP3.out.blk.lt
                      omega
                    have HOt := Lib.hid (hnew.mono HB3.out.size)
                    clear hnew hbt
                    go_wp2_with fail
                    go_meet
                    exact ⟨l3, At, _, false, Ao, n, co, out, rfl, HPt.out, HBt.out, .inr ⟨rfl, HDt.out, HOt.out, hsep, hn65⟩⟩
                · have e1 : ((mode.toNat : Int) == 1) = false := beq_eq_false_iff_ne.2 (fun e => hmd1 (UInt8.toNat_inj.1 (show mode.toNat = 1 by omega)))
                  have e2 : ((mode.toNat : Int) == 2) = true := by
                    have h5 : ¬ mode.toNat = 0 := fun e => hmd0 (UInt8.toNat_inj.1 (show mode.toNat = 0 from e))
                    have h6 : ¬ mode.toNat = 1 := fun e => hmd1 (UInt8.toNat_inj.1 (show mode.toNat = 1 from e))
                    have h7 : mode.toNat = 2 := by omega
                    rw [h7]; rfl
                  have HD5 := Lib.hid (show R = endL mode n (runLits n (litL l2 n)) from HD4.out.trans (by unfold bodyL; rw [if_neg hmd0, if_neg hmd1]))
                  have HLit := Lib.hid (pkLiterals _ c2 l2 A2 n w2 HP2.out hl2 hn65)
                  clear HD4 hmd0 hmd1
                  go_wp2_with fail
                  refine HLit.out.mono ?_
                  rintro e w3 ⟨hg3, hpost⟩
                  have HB3 := Lib.hid (HB2.out.trans (below_grown hg3 HB2.out.size (fun k hk => by cases hk; exact Nat.le_refl _)))
                  clear hg3 HLit
                  cases hlit : litL l2 n with
                  | none =>
                    rw [hlit] at hpost
                    obtain ⟨⟨Al, nl, cl, rfl⟩, l3, A3, c3, hA3, hp3⟩ := hpost
                    have HDt := Lib.hid (show R = (5, []) from HD5.out.trans (by rw [hlit, runLits, endL]))
                    have HSt := Lib.hid (pkStepsBad _ c3 l3 A3 n w3 hp3 hn65)
                    clear hlit hp3 HD5
                    go_wp2_with fail
                    refine HSt.out.mono ?_
                    rintro e wt ⟨hg4, ⟨A4, n4, c4, rfl⟩, lt, At, ct, hA4, hp4⟩
                    have HBt := Lib.hid (HB3.out.trans (below_grown hg4 HB3.out.size (fun k hk => by cases hk; exact Nat.le_refl _)))
                    have d4 := hp4.blk.cell 1
                    simp only [List.getElem?_toArray, List.getElem?_cons_zero, List.getElem?_cons_succ] at d4
                    have HPt := Lib.hid hp4
                    clear hp4 hg4
                    go_wp2_with fail
                    go_meet
                    exact ⟨lt, At, ct, true, none, 0, 0, [], rfl, HPt.out, HBt.out, .inl ⟨rfl, HDt.out⟩⟩
                  | some p =>
                    obtain ⟨lits, l3⟩ := p
                    rw [hlit] at hpost
                    obtain ⟨Al, cl, A3, c3, rfl, hbl, hsepl, hcl, hcl2, hA3, hp3⟩ := hpost
                    obtain ⟨hf1, hf2⟩ := litL_facts hlit
                    have HD6 := Lib.hid (show R = endL mode n (runSteps lits n (stepsL l3 n)) from HD5.out.trans (by rw [hlit, runLits]))
                    have HSt := Lib.hid (pkSteps _ c3 l3 A3 n w3 hp3 (by omega) hn65)
                    have HBl := Lib.hid hbl
                    clear hlit hp3 HD5 hbl
                    go_wp2_with fail
                    refine HSt.out.mono ?_
                    rintro e w4 ⟨hg4, hpost⟩
                    have HB4 := Lib.hid (HB3.out.trans (below_grown hg4 HB3.out.size (fun k hk => by cases hk; exact Nat.le_refl _)))
                    have HBl4 := Lib.hid (Rd.keptB HBl.out hg4 hsepl : Bs w4 Al lits)
                    clear hg4 HSt
                    cases hst : stepsL l3 n with
                    | none =>
                      rw [hst] at hpost
                      obtain ⟨⟨Aq, nq, cq, rfl⟩, lt, At, ct, hA4, hp4⟩ := hpost
                      have HDt := Lib.hid (show R = (5, []) from HD6.out.trans (by rw [hst, runSteps, endL]))
                      have d4 := hp4.blk.cell 1
                      simp only [List.getElem?_toArray, List.getElem?_cons_zero, List.getElem?_cons_succ] at d4
                      have HPt := Lib.hid hp4
                      clear hst hp4 HD6
                      go_wp2_with fail
                      go_meet
                      exact ⟨lt, At, ct, true, none, 0, 0, [], rfl, HPt.out, HB4.out, .inl ⟨rfl, HDt.out⟩⟩
                    | some q =>
                      obtain ⟨sq, lt⟩ := q
                      rw [hst] at hpost
                      obtain ⟨Aq, cq, At, ct, rfl, hos, hA4, hp4⟩ := hpost
                      have hsl := stepsL_len hst
                      have hsb := stepsL_le hst
                      have d4 := hp4.blk.cell 1
                      simp only [List.getElem?_toArray, List.getElem?_cons_zero, List.getElem?_cons_succ] at d4
                      have HP4 := Lib.hid hp4
                      have HRun := Lib.hid (matchRun Al lits.length cl lits Aq sq.length cq sq n w4 rfl HBl4.out (by omega) hcl hcl2 rfl (OwnS.ss hos) (by omega) (fun x hx => by have := hsb x hx; unfold SqB at this; omega) hn65)
                      have HD7 := Lib.hid (show R = endL mode n ((runL lits sq n).bind fun out => some (out, lt)) from HD6.out.trans (by rw [hst, runSteps]))
                      clear hst hp4 HD6 hos hsb
                      go_wp2_with fail
                      refine HRun.out.mono ?_
                      rintro e w5 ⟨hb5, hpost⟩
                      have HP5 := Lib.hid (HP4.out.later hb5)
                      have HB5 := Lib.hid (HB4.out.trans (hb5.mono HB4.out.size))
                      have d5 := HP5.out.blk.cell 1
                      simp only [List.getElem?_toArray, List.getElem?_cons_zero, List.getElem?_cons_succ] at d5
                      have f5 := HP5.out.blk.frozen 1
                      clear hb5 HRun d4
                      cases hrun : runL lits sq n with
                      | none =>
                        rw [hrun] at hpost
                        obtain ⟨E, hE, rfl⟩ := hpost
                        have HDt := Lib.hid (show R = (5, []) from HD7.out.trans (by rw [hrun]; rfl))
                        have hE' : (E != 0) = true := by simpa using hE
                        have HPt := Lib.hid (HP5.out.setBad true)
                        have HBt := Lib.hid (HB5.out.trans (below_grown (grown_set w5 ⟨w.heap.size, 1, none⟩ (.bool true)) HB5.out.size (fun k hk => by cases hk; exact Nat.le_refl _)))
                        clear hrun HD7
                        go_wp2_with fail
                        go_meet
                        exact ⟨lt, At, ct, true, none, 0, 0, [], rfl, HPt.out, HBt.out, .inl ⟨rfl, HDt.out⟩⟩
                      | some out =>
                        rw [hrun] at hpost
                        obtain ⟨Ao, co, rfl, hown⟩ := hpost
                        have hol := runL_len hrun
                        have HDt := Lib.hid (show R = endL mode n (some (out, lt)) from HD7.out.trans (by rw [hrun]; rfl))
                        have HPt := Lib.hid (HP5.out.setBad false)
                        have HBt := Lib.hid (HB5.out.trans (below_grown (grown_set w5 ⟨w.heap.size, 1, none⟩ (.bool false)) HB5.out.size (fun k hk => by cases hk; exact Nat.le_refl _)))
                        have hsep : bk Ao ≠ some w.heap.size := Own.ne_blk hown HP5.out.blk (by decide)
                        have HOt := Lib.hid (((OwnB.newB hown).mono HB4.out.size).kept (grown_set w5 ⟨w.heap.size, 1, none⟩ (.bool false)) (.inr hsep))
                        clear hrun HD7 hown
                        go_wp2_with fail
                        go_meet
                        exact ⟨lt, At, ct, false, Ao, _, co, out, rfl, HPt.out, HBt.out, .inr ⟨rfl, HDt.out, HOt.out, hsep, by omega⟩⟩
            case rest =>
              obtain ⟨lt, At, ct, bad, Ao, no, co, out, rfl, hpt, hbt, hst⟩ := hcut
              have HPt := Lib.hid hpt
              have HBt := Lib.hid hbt
              have hmt : wc.cell? ⟨b, o, none⟩ = some (.int .u8 (mode.toNat : Int)) := by rw [hbt.cell (by simpa using hbw)]; exact HMC.out
              clear hpt hbt hcx hm2c d2 HD4 HP2 HB2 hA hnil hc hc2 hm1 hm2 hll hk hl2 hA1 hA2 h2 hnm'
              rcases hst with ⟨rfl, hR⟩ | ⟨rfl, hR, hnew, hsep, hno65⟩
              · have HDt := Lib.hid hR
                clear hR hmt
                have HTt := Lib.hid (pk_take_bad w.heap.size ct lt At true 4 _ HPt.out (.inl rfl))
                go_wp2_with fail
                refine HTt.out.mono ?_
                rintro e wu ⟨rfl, hpu, hgu⟩
                have du := hpu.blk.cell 1
                simp only [List.getElem?_toArray, List.getElem?_cons_zero, List.getElem?_cons_succ] at du
                have HBu := Lib.hid (HBt.out.trans (below_grown hgu HBt.out.size (fun k hk => by cases hk; exact Nat.le_refl _)))
                clear hpu hgu
                go_wp2
                go_ret2
                exact unpPost_bad HDt.out HBu.out
              · have HDt := Lib.hid hR
                have HOt := Lib.hid hnew
                clear hR hnew
                have HOUT := Lib.hid HOt.out.1
                rw [endL] at HDt
                by_cases hl4 : lt.length < 4
                · have HDu := Lib.hid (HDt.out.trans (if_pos (.inl (by omega))))
                  have HTt := Lib.hid (pk_take_bad w.heap.size ct lt At false 4 _ HPt.out (.inr (by omega)))
                  clear hl4
                  go_wp2_with fail
                  refine HTt.out.mono ?_
                  rintro e wu ⟨rfl, hpu, hgu⟩
                  have du := hpu.blk.cell 1
                  simp only [List.getElem?_toArray, List.getElem?_cons_zero, List.getElem?_cons_succ] at du
                  have HBu := Lib.hid (HBt.out.trans (below_grown hgu HBt.out.size (fun k hk => by cases hk; exact Nat.le_refl _)))
                  clear hpu hgu
                  go_wp2
                  go_ret2
                  exact unpPost_bad HDu.out HBu.out
                · have HTt := Lib.hid (pk_take_any w.heap.size ct lt At 4 _ HPt.out (by omega))
                  go_wp2_with fail
                  refine HTt.out.mono ?_
                  rintro e wu ⟨rfl, hpu, hgu⟩
                  have du := hpu.blk.cell 1
                  have eu := hpu.blk.cell 0
                  simp only [List.getElem?_toArray, List.getElem?_cons_zero, List.getElem?_cons_succ] at du eu
                  have HBu := Lib.hid (HBt.out.trans (below_grown hgu HBt.out.size (fun k hk => by cases hk; exact Nat.le_refl _)))
                  have HOu := Lib.hid (HOt.out.kept hgu (.inr hsep))
                  have HSu := Lib.hid (Rd.keptB (Bs.take 4 HPt.out.data) hgu (.inr HPt.out.ne) : Bs wu At (lt.take 4))
                  have hs4 : (lt.take 4).length = 4 := by rw [List.length_take]; omega
                  have hmu : wu.cell? ⟨b, o, none⟩ = some (.int .u8 (mode.toNat : Int)) := by
                    rw [← hmt]; exact World.cell?_of_block (hgu.block b (block_lt hmt) (by simp only [ne_eq, Option.some.injEq]; omega))
                  have HLD := Lib.hid (List.length_drop : (lt.drop 4).length = lt.length - 4)
                  clear hpu hgu
                  generalize (lt.drop 4).length = m4 at *
                  have HS40 := Lib.hid hs4
                  clear hs4
                  by_cases hm4 : 0 < m4
                  · have HDu := Lib.hid (HDt.out.trans (if_pos (.inl (by have := HLD.out; omega))))
                    have hm4' : 0 < (m4 : Int) := by omega
                    go_wp2
                    go_ret2
                    exact unpPost_bad HDu.out HBu.out
                  · obtain rfl : m4 = 0 := by omega
                    by_cases hno : no = n
                    · have hno' : ((no : Int) != n) = false := by rw [hno]; simp
                      by_cases hz : n = 0 ∧ mode ≠ 0
                      · have HDu := Lib.hid (HDt.out.trans (if_pos (.inr (.inr hz))))
                        obtain ⟨hz1, hz2⟩ := hz
                        have en : ((n : Int) == 0) = true := by rw [hz1]; rfl
                        have em : ((mode.toNat : Int) != 0) = true := by
                          simp only [bne_iff_ne, ne_eq]
                          exact fun e => hz2 (UInt8.toNat_inj.1 (show mode.toNat = 0 by omega))
                        clear hz1 hz2 hno
                        go_wp2
                        go_ret2
                        exact unpPost_bad HDu.out HBu.out
                      · have HDu := Lib.hid (HDt.out.trans (if_neg (by rintro (h | h | h); (have := HLD.out; omega); exact h (HOUT.out.trans hno); exact hz h)))
                        have HSum := Lib.hid (packSum Ao no co out wu HOUT.out HOu.out.2.1 (by omega))
                        have hcases : ((n : Int) == 0) = true ∧ ((mode.toNat : Int) != 0) = false ∨ ((n : Int) == 0) = false := by
                          by_cases hn0 : n = 0
                          · have hmd : mode = 0 := Decidable.byContradiction fun h => hz ⟨hn0, h⟩
                            exact .inl ⟨by rw [hn0]; rfl, by rw [hmd]; rfl⟩
                          · exact .inr (beq_eq_false_iff_ne.2 (by omega))
                        clear hz hno
                        have HTake := Lib.hid (rfl : lt.take 4 = lt.take 4)
                        generalize hst4 : lt.take 4 = s4 at *
                        have HS4 := Lib.hid (show lt = s4 by
                          rw [← hst4]
                          exact (List.take_of_length_le (by have := HLD.out; omega)).symm)
                        have HSL := Lib.hid HS40.out
                        clear hst4 HTake
                        rcases hcases with ⟨en1, en2⟩ | en1
                        all_goals
                          go_wp2_with fail
                          refine HSum.out.mono ?_
                          rintro e wv ⟨As, cs, rfl, hos, hbv⟩
                          have HEq := Lib.hid (bytesEqual At As 4 ct 4 cs s4 (sumOf out) wv HSL.out rfl (HSu.out.later hbv) (OwnB.bs hos))
                          have HBv := Lib.hid (HBu.out.trans (hbv.mono HBu.out.size))
                          have HOv := Lib.hid (HOu.out.later hbv)
                          clear hos hbv
                          go_wp2_with fail
                          refine HEq.out.mono ?_
                          rintro e wx ⟨rfl, rfl⟩
                          by_cases hss : s4 = sumOf out
                          · have hb : (s4 == sumOf out) = true := by simpa using hss
                            have HDv := Lib.hid (HDu.out.trans (if_pos (by rw [HS4.out]; exact hss)))
                            clear hss
                            go_wp2
                            go_ret2
                            rw [HDv.out]
                            exact ⟨HBv.out, Ao, no, co, rfl, HOv.out⟩
                          · have hb : (s4 == sumOf out) = false := by simpa using hss
                            have HDv := Lib.hid (HDu.out.trans (if_neg (by rw [HS4.out]; exact hss)))
                            clear hss
                            go_wp2
                            go_ret2
                            exact unpPost_bad HDv.out HBv.out
                    · have HDu := Lib.hid (HDt.out.trans (if_pos (.inr (.inl (by rw [HOUT.out]; exact hno)))))
                      have hno' : ((no : Int) != n) = true := by simpa using (by omega : ¬ (no : Int) = n)
                      clear hno
                      go_wp2
                      go_ret2
                      exact unpPost_bad HDu.out HBu.out
end Go.Proofs.YtaelgbbnmjbjiaaGreat
namespace Go.Proofs.YtaelgbbnmjbjiaaGreat
open Go.RowKit
set_option maxHeartbeats 1000000 in
set_option maxRecDepth 10000 in
theorem sameAny (A1 A2 : Option Addr) (n1 c1 n2 c2 : Nat) (l1 l2 : List UInt8) (w : World) (h1 : l1.length = n1) (h2 : l2.length = n2) (hr1 : Bs w A1 l1) (hr2 : Bs w A2 l2) (hn1 : n1 ≤ 9000000000000000000) (hn2 : n2 ≤ 9000000000000000000) :
    Calls Tryz.prog 6 #[.slice A1 n1 c1, .slice A2 n2 c2] w fun e w' => e = .returned (.bool (l1 == l2)) ∧ Below w.heap.size w w' := by
  have HL1 := Lib.hid h1
  have HL2 := Lib.hid h2
  have HR1 := Lib.hid hr1
  have HR2 := Lib.hid hr2
  clear h1 h2 hr1 hr2
  go_enter Tryz.func6, Tryz.ntmps6
  by_cases hn : n1 = n2
  · subst hn
    have g1 : ((n1 : Int) != (n1 : Int)) = false := by simp
    go_wp2_with fail
    go_loopg [5] n1 (fun gg s5 wr => ∃ i : Nat, i ≤ n1 ∧ n1 - i ≤ gg ∧ s5 = .int .i64 (i : Int) ∧ l1.take i = l2.take i ∧ Below w.heap.size w wr)
    case atStart => exact ⟨0, by omega, by omega, rfl, rfl, Below.refl _ _⟩
    case round =>
      obtain ⟨i, hi, hgi, rfl, htk, hb⟩ := hrel
      have HT := Lib.hid htk
      have HB := Lib.hid hb
      clear htk hb
      by_cases hin : i < n1
      · obtain ⟨b1, o1, x, e1, hx, hc1⟩ := HR1.out.at_ (by rw [HL1.out]; exact hin : i < l1.length)
        obtain ⟨b2, o2, y, e2, hy, hc2⟩ := HR2.out.at_ (by rw [HL2.out]; exact hin : i < l2.length)
        subst e1 e2
        have d1 := (HB.out.cell (block_lt hc1)).trans hc1
        have d2 := (HB.out.cell (block_lt hc2)).trans hc2
        have HX := Lib.hid hx
        have HY := Lib.hid hy
        clear hx hy hc1 hc2
        go_wp2_with fail
        by_cases hxy : x = y
        · have g2 : ((x.toNat : Int) != (y.toNat : Int)) = false := by rw [hxy]; simp
          have HT2 := Lib.hid (show l1.take (i + 1) = l2.take (i + 1) by rw [List.take_add_one, List.take_add_one, HT.out, HX.out, HY.out, hxy])
          clear hxy
          go_quiet (fail)
          have HB2 := Lib.hid (HB.out.trans ((below_drewN wr nq).mono HB.out.size))
          go_wp2
          go_roundg (n1 - (i + 1))
          case measure => omega
          case rel => exact ⟨i + 1, by omega, by omega, by go_num, HT2.out, HB2.out⟩
        · have g2 : ((x.toNat : Int) != (y.toNat : Int)) = true := by
            rw [bne_iff_ne]
            intro e
            exact hxy (UInt8.toNat_inj.1 (by omega))
          have HN := Lib.hid (show (l1 == l2) = false by
            rw [beq_eq_false_iff_ne]
            intro e
            have h := HX.out
            rw [e, HY.out] at h
            exact hxy (Option.some.inj h).symm)
          clear hxy
          go_quiet (fail)
          have HB2 := Lib.hid (HB.out.trans ((below_drewN wr nq).mono HB.out.size))
          go_wp2
          go_ret
          exact ⟨by rw [HN.out]; rfl, HB2.out⟩
      · obtain rfl : i = n1 := by omega
        have HE := Lib.hid (show (l1 == l2) = true by
          have h := HT.out
          rw [List.take_of_length_le (by rw [HL1.out]; exact Nat.le_refl _), List.take_of_length_le (by rw [HL2.out]; exact Nat.le_refl _)] at h
          rw [h]; exact beq_self_eq_true _)
        go_wp2
        go_ret
        exact ⟨by rw [HE.out]; rfl, HB.out⟩
  · have g1 : ((n1 : Int) != (n2 : Int)) = true := by rw [bne_iff_ne]; omega
    have HN := Lib.hid (show (l1 == l2) = false by
      rw [beq_eq_false_iff_ne]
      intro e
      have h := HL1.out
      rw [e, HL2.out] at h
      exact hn h.symm)
    go_wp2
    go_ret
    exact ⟨by rw [HN.out]; rfl, Below.refl _ _⟩
end Go.Proofs.YtaelgbbnmjbjiaaGreat
namespace Go.Proofs.YtaelgbbnmjbjiaaGreat
open Go.RowKit
theorem sumOf_len4 (d : List UInt8) : (sumOf d).length = 4 := rfl
theorem unpack_same {d B : List UInt8} (h : BestB d B) (hd : d.length ≤ 65536) {most : Int} (h1 : (d.length : Int) ≤ most) (h2 : most ≤ 65536) : unpackL (B ++ sumOf d) most = (0, d) := by
  obtain ⟨mode, hm, hk⟩ := pack_back h hd (sumOf d)
  rw [hk most (by omega) h2, if_neg (by omega), endL, if_neg, if_pos rfl]
  rintro (h | h | ⟨h, h'⟩)
  · exact h (sumOf_len4 d)
  · exact h rfl
  · exact h' (hm h)
theorem unpack_less {d B : List UInt8} (h : BestB d B) (hd : d.length ≤ 65536) {most : Int} (h0 : 0 ≤ most) (h1 : most < (d.length : Int)) : unpackL (B ++ sumOf d) most = (11, []) := by
  obtain ⟨mode, hm, hk⟩ := pack_back h hd (sumOf d)
  rw [hk most h0 (by omega), if_pos h1]
end Go.Proofs.YtaelgbbnmjbjiaaGreat
namespace Go.Proofs.YtaelgbbnmjbjiaaGreat
open Go.RowKit
abbrev d7 : List UInt8 := [120, 120, 120, 120, 120, 120, 120]
theorem litsB_pos {l B : List UInt8} (h : LitsB l B) : 1 ≤ B.length := by
  rcases h with rfl | ⟨lens, hL, rfl⟩
  · rw [List.length_append, List.length_cons]; omega
  · simp only [List.length_append, List.length_cons]; omega
theorem best7 {B : List UInt8} (h : BestB d7 B) : B = [1, 7, 120] := by
  cases h with
  | raw hr => exact absurd rfl (hr 120 (by decide))
  | run x h1 hx =>
    have e : x = 120 := by
      have h0 := congrArg List.head? hx
      exact (Option.some.inj h0).symm
    subst e
    decide
  | packed L b c h0 hL hb hc hlt hrun =>
    exfalso
    have h1 := hrun 120 (by decide) rfl
    have h2 := litsB_pos hb
    simp only [List.length_append, List.length_cons] at h1
    omega
set_option maxHeartbeats 4000000 in
set_option maxRecDepth 10000 in
theorem lives_any (w : World) : Calls Tryz.prog 7 #[] w fun e w' => e = .returned (.bool true) ∧ Below w.heap.size w w' := by
  have hba := (Below.refl w.heap.size w).alloc (Nat.le_refl _) (.cells (d7.map u8v).toArray 5 (7, 8))
  have hbs : Bs (w.alloc (.cells (d7.map u8v).toArray 5 (7, 8))) (some ⟨w.heap.size, 0, none⟩) d7 := fun _ => ⟨w.heap.size, 0, rfl, fun j _ => by
    rw [Nat.zero_add, World.cell?_alloc_mark]
    simp⟩
  have HBa := Lib.hid hba
  have HP := Lib.hid (packPack (some ⟨w.heap.size, 0, none⟩) 7 7 d7 _ rfl hbs (by omega) (by omega) (by omega) (fun b hb => by cases hb; simp))
  have kc := fun (w : World) (C : Array Value) (n c : Nat) => Lib.run_convert_bytes_const (P := Tryz.prog) w 22 5 C n c Tryz.underlying22 Tryz.underlying5
  clear hba hbs
  go_enter Tryz.func7, Tryz.ntmps7
  go_wp2_with fail
  refine HP.out.mono ?_
  rintro e w1 ⟨S1, m1, c1, B, rfl, hown1, hbest, hb1⟩
  have hB7 := best7 hbest
  have hm1 := OwnB.length hown1
  subst hB7
  obtain rfl : m1 = 7 := hm1.symm
  have HB1 := Lib.hid (HBa.out.trans (hb1.mono HBa.out.size))
  have HO1 := Lib.hid hown1
  obtain ⟨h0, -⟩ | ⟨g, rfl, hg1, hg2, hcap, hcap2⟩ := Own.form hown1
  · exfalso
    obtain ⟨b, o, e, -⟩ := OwnB.bs hown1 (by decide)
    rw [h0] at e; cases e
  have HU1 := Lib.hid (packUnpack (some ⟨g, 0, none⟩) 7 c1 _ 7 w1 rfl (OwnB.bs hown1) (by omega) hcap hcap2 (fun h => by cases h) (fun b hb => by cases hb; exact hg2) (by omega) (by omega))
  have e1 := unpack_same hbest (by decide) (most := 7) (by decide) (by omega)
  have e2 := unpack_less hbest (by decide) (most := 6) (by omega) (by decide)
  rw [e1] at HU1
  have HE2 := Lib.hid e2
  have HG := Lib.hid hg2
  clear hown1 hbest hb1 HP HBa e1 e2 hg1 hg2
  go_wp2_with fail
  refine HU1.out.mono ?_
  rintro e w2 ⟨hb2, A2, n2, c2, rfl, hnew2⟩
  have hn2 : n2 = 7 := hnew2.1.symm
  subst hn2
  have HO2 := Lib.hid (Own.later HO1.out hb2)
  have HN2 := Lib.hid hnew2
  have hs1 := HB1.out.size
  have HB2 := Lib.hid (HB1.out.trans (hb2.mono hs1))
  have HU2 := Lib.hid (packUnpack (some ⟨g, 0, none⟩) 7 c1 _ 6 w2 rfl (OwnB.bs HO2.out) (by omega) hcap hcap2 (fun h => by cases h) (fun b hb => by cases hb; exact Nat.lt_of_lt_of_le HG.out hb2.size) (by omega) (by omega))
  rw [HE2.out] at HU2
  clear hb2 hnew2 HU1 HO1 HB1
  go_wp2_with fail
  refine HU2.out.mono ?_
  rintro e w3 ⟨hb3, A3, n3, c3, rfl, hnew3⟩
  have HN3 := Lib.hid (HN2.out.later hb3)
  have hbs3 := OwnB.bs (Own.later HO2.out hb3)
  have hs2 := HB2.out.size
  have HB3 := Lib.hid (HB2.out.trans (hb3.mono hs2))
  obtain ⟨g', o', e, hc⟩ := hbs3 (by decide)
  cases e
  have c0 : w3.cell? ⟨g, 0, none⟩ = some (.int .u8 1) := (hc 0 (by decide)).trans rfl
  have c1' : w3.cell? ⟨g, 1, none⟩ = some (.int .u8 7) := (hc 1 (by decide)).trans rfl
  have c2' : w3.cell? ⟨g, 2, none⟩ = some (.int .u8 120) := (hc 2 (by decide)).trans rfl
  have hcv : (convert 22 9 (.slice A2 7 c2)).run Tryz.prog w3 = .ok (.string ⟨#[120, 120, 120, 120, 120, 120, 120]⟩) w3 := by
    have hbi : Lib.BytesIn w3 A2 7 (Lib.numsL d7) := by
      intro h0
      obtain ⟨b, o, e, hc⟩ := HN3.out.2.1 (by decide)
      refine ⟨b, o, e, fun i hi => ?_⟩
      rw [hc i hi]
      have : i = 0 ∨ i = 1 ∨ i = 2 ∨ i = 3 ∨ i = 4 ∨ i = 5 ∨ i = 6 := by omega
      rcases this with rfl | rfl | rfl | rfl | rfl | rfl | rfl <;> rfl
    exact hbi.convert rfl c2 22 5 9 Tryz.underlying22 Tryz.underlying5 Tryz.underlying9
  clear hc hb3 hnew3 HU2 HN2 HN3 HO2 HB2 HE2 HG kc
  go_wp2
  go_ret
  exact ⟨rfl, HB3.out⟩
end Go.Proofs.YtaelgbbnmjbjiaaGreat
