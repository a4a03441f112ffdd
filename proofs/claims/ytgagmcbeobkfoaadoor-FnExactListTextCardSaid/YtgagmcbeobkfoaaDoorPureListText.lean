/- The plain law: what the functions compute, in plain Lean. -/
import Derived.Test.YtgagmcbeobkfoaaDoorKFnExactListText
import Derived.Test.YtgagmcbeobkfoaaDoorP0
set_option linter.unusedVariables false
set_option maxRecDepth 10000
namespace Go.Proofs.YtgagmcbeobkfoaaDoorB
open Go
namespace spec_l1In
theorem law (x a b : Int) : impl (x, a, b, ()) = some (in3 x a b, ()) := by
  rw [impl_eq]; unfold F0
  rw [cond_ret]
  congr 2
  rw [Bool.eq_iff_iff, in3_iff]
  simp only [cond_iff, decide_eq_true_eq, Bool.false_eq_true, and_false, or_false]
end spec_l1In
namespace impl_in
theorem law (x a b : Int) : impl (x, a, b, ()) = some (in3 x a b, ()) := by
  rw [impl_eq]; unfold F0
  rw [cond_ret]
  congr 2
  rw [Bool.eq_iff_iff, in3_iff]
  simp only [cond_iff, decide_eq_true_eq, Bool.false_eq_true, and_false, or_false]
end impl_in
/-! ### lists of ints and of strings: copies, eq -/
namespace laws_toIntS
theorem law (xs : List Int) (hx : xs.length ≤ 1048576) : impl (xs, ()) = some (xs, ()) := by
  rw [impl_eq]; unfold F0
  have : (decide (0 ≤ (xs.length : Int)) && decide ((xs.length : Int) ≤ (xs.length : Int)) && decide ((xs.length : Int) * 8 ≤ 140737488355328)) = true := by
    simp; omega
  rw [this, cond_true]
  have h := up_copy (R := PO) xs 0 id (fun i r => L3 (xs, (i : Int), r, ())) (fun r => (r, ())) (fun i r hi hr => by
    show L3 _ = _
    rw [L3_eq]; unfold F3
    rw [lt_len, inb_true hi, inb_true (by omega), wI_succ (by omega), Int.toNat_natCast]
    simp only [hi, decide_true, cond_true, id]) (fun r hr => by
    show L3 _ = _
    rw [L3_eq]; unfold F3
    simp) (List.replicate xs.length 0) (by simp)
  simpa using h
end laws_toIntS
namespace laws_eqIntS
theorem law (xs ys : List Int) (hx : xs.length ≤ 1048576) : impl (xs, ys, ()) = some (decide (xs = ys), ()) := by
  rw [impl_eq]; unfold F0
  by_cases hl : xs.length = ys.length
  · have : ((xs.length : Int) != (ys.length : Int)) = false := by simp [hl]
    rw [this, cond_false]
    have h := up_all (R := PO) (fun i => L4 (xs, ys, (i : Int), ())) xs.length (fun i => decide (xs.getD i 0 = ys.getD i 0)) (false, ()) (true, ()) (fun i hi => by
      show L4 _ = _
      rw [L4_eq]; unfold F4
      rw [lt_len]
      simp only [hi, decide_true, cond_true]
      rw [L6_eq]; unfold F6
      rw [inb_true hi, inb_true (by omega), wI_succ (by omega), Int.toNat_natCast]
      simp only [cond_true]
      by_cases he : xs.getD i 0 = ys.getD i 0
      · rw [show (xs.getD i 0 != ys.getD i 0) = false by rw [he]; simp, decide_eq_true he]; rfl
      · rw [show (xs.getD i 0 != ys.getD i 0) = true by simpa using he, decide_eq_false he]; rfl) (by
      show L4 _ = _
      rw [L4_eq]; unfold F4; simp) xs.length 0 (by omega)
    rw [eq_all hl] at h
    refine (show _ = _ from h).trans ?_
    cases decide (xs = ys) <;> rfl
  · have : ((xs.length : Int) != (ys.length : Int)) = true := by
      simp; omega
    rw [this, cond_true]
    have : xs ≠ ys := fun e => hl (by rw [e])
    simp [this]
end laws_eqIntS
/-! ### decimals -/
theorem itoa_len (n : Int) (h1 : -9223372036854775808 ≤ n) (h2 : n ≤ 9223372036854775807) : (Lib.itoa n).length ≤ 20 := by
  have h3 : ∀ (k u : Nat), u < 10 ^ (k + 1) → Lib.nDigits u ≤ k + 1 := by
    intro k
    induction k with
    | zero => intro u hu; rw [Lib.nDigits_small (by omega)]; omega
    | succ k ih =>
      intro u hu
      by_cases hs : u < 10
      · rw [Lib.nDigits_small hs]; omega
      · rw [Lib.nDigits_big hs]
        have := ih (u / 10) (by rw [Nat.pow_succ] at hu; omega)
        omega
  have key : ∀ u : Nat, u < 10 ^ 19 → (Lib.decDigits u).length ≤ 19 := fun u hu => by
    rw [Lib.decDigits_length]
    exact h3 18 u hu
  unfold Lib.itoa
  split
  · have := key n.natAbs (by omega)
    simp; omega
  · have := key n.toNat (by omega)
    omega
namespace spec_l40Dec
theorem dig (d : Nat) (h : d < 10) : strOf ([IntKind.u8.wrap (wI (48 + (d : Int)))] : List Int) = [UInt8.ofNat (48 + d)] := by
  have : ∀ d : Fin 10, strOf ([IntKind.u8.wrap (wI (48 + (d.val : Int)))] : List Int) = [UInt8.ofNat (48 + d.val)] := by decide +kernel
  exact this ⟨d, h⟩
theorem loop (G : PI → Option PO) : ∀ (k n : Nat) (acc : List UInt8), n < 10 ^ (k + 1) → n ≤ 9223372036854775807 → acc.length + k ≤ 1000 → L6 G ((n : Int), acc, ()) = some (Lib.decDigits n ++ acc, ())
  | k, n, acc, hn, hm, ha => by
    rw [L6_eq]; unfold F6
    by_cases h9 : n < 10
    · rw [decide_eq_false (show ¬ ((n : Int) > 9) by omega), cond_false, dig n h9, Lib.decDigits_one h9]
      rw [decide_eq_true (by simp; omega)]
      rfl
    · rw [decide_eq_true (show (n : Int) > 9 by omega), cond_true]
      have e1 : Int.tmod (n : Int) 10 = ((n % 10 : Nat) : Int) := rfl
      have e2 : wI (Int.tdiv (n : Int) 10) = ((n / 10 : Nat) : Int) := by
        rw [show Int.tdiv (n : Int) 10 = ((n / 10 : Nat) : Int) from rfl]
        exact wI_small (by omega) (by omega)
      rw [e1, e2, dig (n % 10) (by omega)]
      rw [decide_eq_true (by simp; omega), cond_true]
      match k, hn, ha with
      | 0, hn, _ => simp at hn; omega
      | k + 1, hn, ha =>
        rw [loop G k (n / 10) _ (by rw [Nat.pow_succ] at hn; omega) (by omega) (by simp; omega)]
        conv => rhs; rw [Lib.decDigits, dif_neg h9]
        simp
theorem pos (n : Int) (h0 : 0 ≤ n) (h2 : n ≤ 9223372036854775807) : impl (n, ()) = some (Lib.itoa n, ()) := by
  rw [impl_eq]; unfold F0
  rw [decide_eq_false (show ¬ n < -9223372036854775807 by omega), cond_false, decide_eq_false (show ¬ n < 0 by omega), cond_false]
  have := loop impl 19 n.toNat [] (by omega) (by omega) (by simp)
  rw [Int.toNat_of_nonneg h0] at this
  rw [this, Lib.itoa, if_neg (by omega), List.append_nil]
theorem law (n : Int) (h1 : -9223372036854775808 ≤ n) (h2 : n ≤ 9223372036854775807) : impl (n, ()) = some (Lib.itoa n, ()) := by
  by_cases h : n < 0
  · rw [impl_eq]; unfold F0
    by_cases hm : n < -9223372036854775807
    · rw [decide_eq_true hm, cond_true]
      have : n = -9223372036854775808 := by omega
      subst this
      have hd : Lib.decDigits 9223372036854775808 = [57, 50, 50, 51, 51, 55, 50, 48, 51, 54, 56, 53, 52, 55, 55, 53, 56, 48, 56] := by
        rw [Lib.decDigits_eq]; decide +kernel
      rw [Lib.itoa, if_pos (by omega), show (-9223372036854775808 : Int).natAbs = 9223372036854775808 from rfl, hd]
    · rw [decide_eq_false hm, cond_false, decide_eq_true h, cond_true]
      have e : wI (0 - n) = -n := by rw [wI_small (by omega) (by omega)]; omega
      rw [e, pos (-n) (by omega) (by omega), Option.bind_some]
      have hi : Lib.itoa (-n) = Lib.decDigits n.natAbs := by
        rw [Lib.itoa, if_neg (by omega)]
        congr 1
        omega
      have hl := itoa_len (-n) (by omega) (by omega)
      rw [decide_eq_true (show ([45] : List Nat).length + (Lib.itoa (-n)).length ≤ 140737488355328 by simp; omega), cond_true]
      rw [hi, Lib.itoa, if_pos h]
      rfl
  · exact pos n (by omega) h2
end spec_l40Dec
/-! ### numbers with a space between -/
def numsOk (xs : List Int) : Bool := xs.all fun x => in3 x (-9999) 9999
theorem all_range {α : Type} {xs : List α} {d : α} {p : α → Bool} : ((List.range' 0 xs.length).all fun i => p (xs.getD i d)) = xs.all p := by
  rw [Bool.eq_iff_iff, range_all, List.all_eq_true]
  constructor
  · intro h x hx
    obtain ⟨i, hi, rfl⟩ := List.getElem_of_mem hx
    have := h i hi
    rwa [getD_eq hi] at this
  · intro h i hi
    rw [getD_eq hi]
    exact h _ (List.getElem_mem hi)
namespace spec_l31Numbers
theorem law (xs : List Int) (hx : xs.length ≤ 1048576) : impl (xs, ()) = some (numsOk xs, ()) := by
  rw [impl_eq]; unfold F0
  have h := up_all (R := PO) (fun i => L2 (xs, (i : Int), ())) xs.length (fun i => in3 (xs.getD i 0) (-9999) 9999) (false, ()) (true, ()) (fun i hi => by
    show L2 _ = _
    rw [L2_eq]; unfold F2
    rw [lt_len, inb_true hi, wI_succ (by omega), Int.toNat_natCast]
    simp only [hi, decide_true, cond_true]
    rw [spec_l1In.law, Option.bind_some]
    cases in3 (xs.getD i 0) (-9999) 9999 <;> rfl) (by
    show L2 _ = _
    rw [L2_eq]; unfold F2; simp) xs.length 0 (by omega)
  rw [all_range (p := fun x => in3 x (-9999) 9999)] at h
  refine (show _ = _ from h).trans ?_
  unfold numsOk
  cases xs.all fun x => in3 x (-9999) 9999 <;> rfl
end spec_l31Numbers
def rowOfInts (xs : List Int) : List UInt8 := (xs.map fun x => 32 :: Lib.itoa x).flatten
theorem rowOfInts_len (xs : List Int) (h : ∀ x ∈ xs, -9223372036854775808 ≤ x ∧ x ≤ 9223372036854775807) : (rowOfInts xs).length ≤ 21 * xs.length := by
  induction xs with
  | nil => simp [rowOfInts]
  | cons x xs ih =>
    have h1 := itoa_len x (h x (by simp)).1 (h x (by simp)).2
    have h2 := ih fun y hy => h y (by simp [hy])
    simp only [rowOfInts, List.map_cons, List.flatten_cons, List.length_append, List.length_cons] at h2 ⊢
    omega
namespace spec_l31Row
theorem law (xs : List Int) (hx : xs.length ≤ 1048576) (hb : ∀ x ∈ xs, -9223372036854775808 ≤ x ∧ x ≤ 9223372036854775807) : impl (xs, ()) = some (rowOfInts xs, ()) := by
  rw [impl_eq]; unfold F0
  have key : ∀ d i (acc : List UInt8), i + d = xs.length → acc.length ≤ 21 * i → L3 (xs, acc, (i : Int), ()) = some (acc ++ rowOfInts (xs.drop i), ()) := by
    intro d
    induction d with
    | zero =>
      intro i acc hi ha
      have : i = xs.length := by omega
      subst this
      rw [L3_eq]; unfold F3
      simp [rowOfInts]
    | succ d ih =>
      intro i acc hi ha
      have hlt : i < xs.length := by omega
      have hm := hb _ (getD_mem (d := 0) hlt)
      have hl := itoa_len _ hm.1 hm.2
      rw [L3_eq]; unfold F3
      rw [lt_len, decide_eq_true hlt, cond_true, decide_eq_true (show acc.length + ([32] : List Nat).length ≤ 140737488355328 by simp; omega), cond_true, inb_true hlt, cond_true, Int.toNat_natCast, spec_l40Dec.law _ hm.1 hm.2, Option.bind_some]
      rw [decide_eq_true (by simp only [List.length_append, List.length_cons, List.length_nil]; omega), cond_true, wI_succ (by omega), ih (i + 1) _ (by omega) (by simp only [List.length_append, List.length_cons, List.length_nil]; omega)]
      rw [show rowOfInts (xs.drop i) = 32 :: Lib.itoa xs[i] ++ rowOfInts (xs.drop (i + 1)) by rw [List.drop_eq_getElem_cons hlt]; rfl, getD_eq hlt]
      simp
  have := key xs.length 0 [] (by omega) (by simp)
  simpa using this
end spec_l31Row
def listText (xs : List Int) : List UInt8 := if xs = [] ∨ 400 < xs.length ∨ numsOk xs = false then [45] else Lib.join (xs.map Lib.itoa) [32]
theorem row_join (x : Int) (xs : List Int) : (rowOfInts (x :: xs)).drop 1 = Lib.join ((x :: xs).map Lib.itoa) [32] := by
  rw [List.map_cons, Lib.join_cons]
  simp [rowOfInts, Lib.joinTail, Function.comp_def]
theorem numsOk_iff {xs : List Int} : numsOk xs = true ↔ ∀ x ∈ xs, -9999 ≤ x ∧ x ≤ 9999 := by
  unfold numsOk
  rw [List.all_eq_true]
  exact ⟨fun h x hx => in3_iff.1 (h x hx), fun h x hx => in3_iff.2 (h x hx)⟩
namespace spec_ListText
theorem law (xs : List Int) (hx : xs.length ≤ 1048576) : impl (xs, ()) = some (listText xs, ()) := by
  rw [impl_eq]; unfold F0
  cases xs with
  | nil => simp [listText]
  | cons x r =>
    rw [show (((x :: r).length : Int) == 0) = false by simp; omega, cond_false]
    by_cases h4 : 400 < (x :: r).length
    · rw [decide_eq_true (by omega), cond_true, listText, if_pos (.inr (.inl h4))]
    · rw [decide_eq_false (by omega), cond_false, spec_l31Numbers.law _ hx, Option.bind_some]
      cases hn : numsOk (x :: r) with
      | false => rw [listText, if_pos (.inr (.inr hn))]; rfl
      | true =>
        have hb := numsOk_iff.1 hn
        rw [show (!(true, ()).1) = false from rfl, cond_false, spec_l31Row.law _ hx (fun y hy => by have := hb y hy; omega), Option.bind_some]
        have hl : 1 ≤ (rowOfInts (x :: r)).length := by simp [rowOfInts]
        rw [show (decide ((1 : Int) ≤ ((rowOfInts (x :: r)).length : Int)) && decide (((rowOfInts (x :: r)).length : Int) ≤ ((rowOfInts (x :: r)).length : Int))) = true by simp; omega, cond_true]
        rw [Int.toNat_natCast, List.take_length, row_join, listText, if_neg (by simp [hn]; simpa using h4)]
end spec_ListText
namespace impl_ListText
theorem loop (xs : List Int) (hx : xs.length ≤ 400) : ∀ d i (acc : List (List UInt8)), i + d = xs.length → acc = (xs.take i).map Lib.itoa → (∀ j, j < i → in3 (xs.getD j 0) (-9999) 9999 = true) →
    L5 (xs, (xs.length : Int), (i : Int), acc, ()) = some (if numsOk xs then Lib.join (xs.map Lib.itoa) [32] else [45], ())
  | 0, i, acc, hi, ha, hok => by
    have : i = xs.length := by omega
    subst this
    rw [List.take_length] at ha
    subst ha
    have hn : numsOk xs = true := by
      unfold numsOk
      rw [← all_range (d := 0), range_all]
      exact hok
    have hb := numsOk_iff.1 hn
    rw [L5_eq]; unfold F5
    rw [decide_eq_false (by omega), cond_false, if_pos hn]
    have hlen : (Lib.join (xs.map Lib.itoa) [32]).length ≤ 140737488355328 := by
      cases xs with
      | nil => simp [Lib.join]
      | cons x r =>
        rw [← row_join]
        have := rowOfInts_len (x :: r) (fun y hy => by have := hb y hy; omega)
        rw [List.length_drop]
        omega
    have : lib_Join.impl (xs.map Lib.itoa, [32], ()) = some (Lib.join (xs.map Lib.itoa) [32], ()) := by
      show joinI _ = _
      unfold joinI
      rw [show (decide ((xs.map Lib.itoa).length ≤ 140737488355328) && decide ((Lib.join (xs.map Lib.itoa) [32]).length ≤ 140737488355328)) = true by simp only [Bool.and_eq_true, decide_eq_true_eq, List.length_map]; omega]
      rfl
    rw [this]
    rfl
  | d + 1, i, acc, hi, ha, hok => by
    have hlt : i < xs.length := by omega
    rw [L5_eq]; unfold F5
    rw [decide_eq_true (by omega), cond_true, inb_true hlt, cond_true, Int.toNat_natCast, impl_in.law, Option.bind_some]
    cases hc : in3 (xs.getD i 0) (-9999) 9999 with
    | false =>
      have hn : numsOk xs = false := by
        rw [Bool.eq_false_iff]
        intro h
        rw [numsOk, List.all_eq_true] at h
        rw [h _ (getD_mem hlt)] at hc
        cases hc
      rw [hn]
      rfl
    | true =>
      rw [show (!(true, ()).1) = false from rfl, cond_false]
      have hm := in3_iff.1 hc
      have : lib_Itoa.impl (xs.getD i 0, ()) = some (Lib.itoa (xs.getD i 0), ()) := by
        show itoaI _ = _
        unfold itoaI
        rw [show (decide (-9223372036854775808 ≤ xs.getD i 0) && decide (xs.getD i 0 ≤ 9223372036854775807)) = true by simp only [Bool.and_eq_true, decide_eq_true_eq]; omega]
        rfl
      rw [this, Option.bind_some]
      have hal : acc.length = i := by rw [ha]; simp; omega
      rw [decide_eq_true (by simp [hal]; omega), cond_true, wI_succ (by omega)]
      refine loop xs hx d (i + 1) _ (by omega) ?_ fun j hj => ?_
      · rw [ha, List.take_add_one, List.map_append, List.getElem?_eq_getElem hlt, getD_eq hlt]
        rfl
      · rcases Nat.lt_or_ge j i with h | h
        · exact hok j h
        · have : j = i := by omega
          subst this; exact hc
theorem law (xs : List Int) (hx : xs.length ≤ 1048576) : impl (xs, ()) = some (listText xs, ()) := by
  rw [impl_eq]; unfold F0
  rw [impl_in.law, Option.bind_some]
  cases hc : in3 (xs.length : Int) 1 400 with
  | false =>
    rw [listText, if_pos]
    · rfl
    · by_cases h0 : xs = []
      · exact .inl h0
      · right; left
        have : 0 < xs.length := List.length_pos_iff.2 h0
        rcases Nat.lt_or_ge 400 xs.length with h | h
        · exact h
        · rw [in3_iff.2 (by omega)] at hc; cases hc
  | true =>
    have hm := in3_iff.1 hc
    rw [show (!(true, ()).1) = false from rfl, cond_false]
    have := loop xs (by omega) xs.length 0 [] (by omega) rfl (fun j hj => by omega)
    refine this.trans ?_
    unfold listText
    by_cases hn : numsOk xs = true
    · rw [if_pos hn, if_neg]
      rintro (h | h | h)
      · subst h; simp at hm
      · omega
      · rw [hn] at h; cases h
    · rw [if_neg hn, if_pos (.inr (.inr (by simpa using hn)))]
end impl_ListText
namespace laws_FnExactListText
theorem law (xs : List Int) : impl (xs, ()) = some (true, ()) := by
  rw [impl_eq]; unfold F0
  by_cases hbig : (xs.length : Int) > 1048576
  · rw [decide_eq_true hbig]; rfl
  · have hl : xs.length ≤ 1048576 := by omega
    rw [decide_eq_false hbig, cond_false]
    simp only [laws_toIntS.law _ hl, Option.bind_some, spec_ListText.law _ hl, impl_ListText.law _ hl, laws_eqIntS.law _ _ hl, decide_true, BEq.rfl, Bool.not_true, cond_false]
end laws_FnExactListText
end Go.Proofs.YtgagmcbeobkfoaaDoorB
