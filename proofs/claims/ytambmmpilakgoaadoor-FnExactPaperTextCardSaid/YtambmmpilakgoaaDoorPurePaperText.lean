/- The plain law: what the functions compute, in plain Lean. -/
import Derived.Test.YtambmmpilakgoaaDoorKFnExactPaperText
import Derived.Test.YtambmmpilakgoaaDoorP0
set_option linter.unusedVariables false
set_option linter.unusedSimpArgs false
set_option maxRecDepth 10000
namespace Go.Proofs.YtambmmpilakgoaaDoorB
open Go
namespace spec_l1In
theorem law (x a b : Int) : impl (x, a, b, ()) = some (in3 x a b, ()) := by
  rw [impl_eq]; unfold F0
  rw [cond_ret]
  congr 2
  rw [Bool.eq_iff_iff, in3_iff]
  simp only [cond_iff, decide_eq_true_eq, Bool.false_eq_true, and_false, or_false]
end spec_l1In
namespace impl_in
theorem law (x a b : Int) : impl (x, a, b, ()) = some (in3 x a b, ()) := by
  rw [impl_eq]; unfold F0
  rw [cond_ret]
  congr 2
  rw [Bool.eq_iff_iff, in3_iff]
  simp only [cond_iff, decide_eq_true_eq, Bool.false_eq_true, and_false, or_false]
end impl_in
/-! ### lists of ints and of strings: copies, eq -/
namespace laws_toIntS
theorem law (xs : List Int) (hx : xs.length ≤ 1048576) : impl (xs, ()) = some (xs, ()) := by
  rw [impl_eq]; unfold F0
  have : (decide (0 ≤ (xs.length : Int)) && decide ((xs.length : Int) ≤ (xs.length : Int)) && decide ((xs.length : Int) * 8 ≤ 140737488355328)) = true := by
    simp; omega
  rw [this, cond_true]
  have h := up_copy (R := PO) xs 0 id (fun i r => L3 (xs, (i : Int), r, ())) (fun r => (r, ())) (fun i r hi hr => by
    show L3 _ = _
    rw [L3_eq]; unfold F3
    rw [lt_len, inb_true hi, inb_true (by omega), wI_succ (by omega), Int.toNat_natCast]
    simp only [hi, decide_true, cond_true, id]) (fun r hr => by
    show L3 _ = _
    rw [L3_eq]; unfold F3
    simp) (List.replicate xs.length 0) (by simp)
  simpa using h
end laws_toIntS
namespace laws_eqIntS
theorem law (xs ys : List Int) (hx : xs.length ≤ 1048576) : impl (xs, ys, ()) = some (decide (xs = ys), ()) := by
  rw [impl_eq]; unfold F0
  by_cases hl : xs.length = ys.length
  · have : ((xs.length : Int) != (ys.length : Int)) = false := by simp [hl]
    rw [this, cond_false]
    have h := up_all (R := PO) (fun i => L4 (xs, ys, (i : Int), ())) xs.length (fun i => decide (xs.getD i 0 = ys.getD i 0)) (false, ()) (true, ()) (fun i hi => by
      show L4 _ = _
      rw [L4_eq]; unfold F4
      rw [lt_len]
      simp only [hi, decide_true, cond_true]
      rw [L6_eq]; unfold F6
      rw [inb_true hi, inb_true (by omega), wI_succ (by omega), Int.toNat_natCast]
      simp only [cond_true]
      by_cases he : xs.getD i 0 = ys.getD i 0
      · rw [show (xs.getD i 0 != ys.getD i 0) = false by rw [he]; simp, decide_eq_true he]; rfl
      · rw [show (xs.getD i 0 != ys.getD i 0) = true by simpa using he, decide_eq_false he]; rfl) (by
      show L4 _ = _
      rw [L4_eq]; unfold F4; simp) xs.length 0 (by omega)
    rw [eq_all hl] at h
    refine (show _ = _ from h).trans ?_
    cases decide (xs = ys) <;> rfl
  · have : ((xs.length : Int) != (ys.length : Int)) = true := by
      simp; omega
    rw [this, cond_true]
    have : xs ≠ ys := fun e => hl (by rw [e])
    simp [this]
end laws_eqIntS
/-! ### loops over a list -/
theorem drop_cons {α : Type} {xs : List α} {i : Nat} (d : α) (h : i < xs.length) : xs.drop i = xs.getD i d :: xs.drop (i + 1) := by
  rw [List.drop_eq_getElem_cons h, getD_eq h]
/-- a loop that goes up along a list, and what it computes along what is left -/
theorem up_list {α S R : Type} (xs : List α) (d : α) (I : Nat → S → Prop) (L : Nat → S → Option R) (g : Nat → List α → S → Option R)
    (hn : ∀ s, I xs.length s → L xs.length s = g xs.length [] s)
    (hc : ∀ i s, i < xs.length → I i s → (∀ s', I (i + 1) s' → L (i + 1) s' = g (i + 1) (xs.drop (i + 1)) s') → L i s = g i (xs.getD i d :: xs.drop (i + 1)) s) :
    ∀ s, I 0 s → L 0 s = g 0 xs s := by
  have key : ∀ k i s, i + k = xs.length → I i s → L i s = g i (xs.drop i) s := by
    intro k
    induction k with
    | zero =>
      intro i s hi hI
      have : i = xs.length := by omega
      subst this
      rw [List.drop_length]
      exact hn s hI
    | succ k ih =>
      intro i s hi hI
      rw [drop_cons d (by omega)]
      exact hc i s (by omega) hI fun s' hI' => ih (i + 1) s' (by omega) hI'
  intro s hI
  have := key xs.length 0 s (by omega) hI
  rwa [List.drop_zero] at this
theorem inb_eq (i : Int) (n : Nat) : inb i n = (decide (0 ≤ i) && decide (i < n)) := rfl
theorem cast_lt (i n : Nat) : decide ((i : Int) < (n : Int)) = decide (i < n) := by simp
theorem up_list0 {α R : Type} (xs : List α) (d : α) (L : Nat → Option R) (g : Nat → List α → Option R) (hn : L xs.length = g xs.length [])
    (hc : ∀ i, i < xs.length → L (i + 1) = g (i + 1) (xs.drop (i + 1)) → L i = g i (xs.getD i d :: xs.drop (i + 1))) : L 0 = g 0 xs :=
  up_list (S := Unit) xs d (fun _ _ => True) (fun i _ => L i) (fun i r _ => g i r) (fun _ _ => hn) (fun i _ hi _ ih => hc i hi (ih () trivial)) () trivial
theorem decide_cons {α : Type} [DecidableEq α] (a b : α) (x y : List α) : decide (a :: x = b :: y) = (decide (a = b) && decide (x = y)) := by
  rw [Bool.eq_iff_iff]; simp
theorem bne_dec {α : Type} [DecidableEq α] (a b : α) : (a != b) = !decide (a = b) := by
  by_cases h : a = b <;> simp [h]
theorem isEmpty_len {α : Type} (xs : List α) : ((xs.length : Int) == 0) = xs.isEmpty := by cases xs <;> simp <;> omega
theorem pos_len {α : Type} (xs : List α) : decide ((xs.length : Int) > 0) = !xs.isEmpty := by cases xs <;> simp <;> omega
theorem take_snoc {α : Type} {xs : List α} {i : Nat} (d : α) (h : i < xs.length) : xs.take (i + 1) = xs.take i ++ [xs.getD i d] := by
  rw [List.take_add_one, List.getElem?_eq_getElem h, getD_eq h]; rfl
theorem lit_wf {n : Int} (h : (Lit.int .i64 n).wf = true) : -9223372036854775808 ≤ n ∧ n ≤ 9223372036854775807 := by
  simp only [Lit.wf, Bool.and_eq_true, decide_eq_true_eq] at h
  exact ⟨h.1, h.2⟩
/-! ### lists of lists: their size -/
def szL {α : Type} (xs : List (List α)) : Nat := (xs.map List.length).sum + xs.length
theorem szL_mem {α : Type} {xs : List (List α)} {x : List α} (h : x ∈ xs) : x.length + 1 ≤ szL xs := by
  unfold szL
  induction xs with
  | nil => cases h
  | cons y r ih =>
    simp only [List.map_cons, List.sum_cons, List.length_cons]
    rcases List.mem_cons.1 h with rfl | h
    · omega
    · have := ih h; omega
theorem szL_cons {α : Type} (x : List α) (xs : List (List α)) : szL (x :: xs) = x.length + 1 + szL xs := by
  unfold szL; simp only [List.map_cons, List.sum_cons, List.length_cons]; omega
theorem maxLen_eq : maxLen = 9223372036854775807 := by unfold maxLen; rfl
/-- what is left of a measure -/
def less (l : Int) (n : Nat) : Int := if l - n < 0 then -1 else l - n
/-! ### lists of lists of ints: size, copy, eq -/
namespace laws_szIntS
theorem law (xs : List Int) (l : Int) (h0 : 0 ≤ l) (hl : l ≤ 1048576) (hx : xs.length ≤ maxLen) : impl (xs, l, ()) = some (less l xs.length, ()) := by
  have hM := maxLen_eq
  rw [impl_eq]; unfold F0 less
  simp (disch := omega) only [wI_small]
  grind
end laws_szIntS
namespace laws_szIntSS
theorem law (xs : List (List Int)) (l : Int) (h0 : 0 ≤ l) (hl : l ≤ 1048576) (hx : xs.length ≤ maxLen) (hm : ∀ x ∈ xs, x.length ≤ maxLen) : impl (xs, l, ()) = some (less l (szL xs), ()) := by
  have hM := maxLen_eq
  rw [impl_eq]; unfold F0
  rw [wI_small (by omega) (by omega)]
  have key := up_list (S := Int) xs [] (fun _ l => 0 ≤ l ∧ l ≤ 1048576) (fun i l => L5 (xs, l, (i : Int), ())) (fun i r l => some (less l (r.map List.length).sum, ())) (by
    intro s hs
    rw [L5_eq]; unfold F5 less; simp (disch := omega) only [inb_nat, cast_lt, Int.toNat_natCast, wI_succ]; simp; omega) (by
    intro i s hi hs ih
    have h1 := hm _ (getD_mem (d := []) hi)
    rw [L5_eq]; unfold F5; simp (disch := omega) only [inb_nat, cast_lt, Int.toNat_natCast, wI_succ]
    simp only [List.map_cons, List.sum_cons]
    rw [laws_szIntS.law _ _ hs.1 hs.2 h1]
    unfold less at *
    by_cases h : s - ((xs.getD i []).length : Int) < 0
    · grind
    · have := ih (s - ((xs.getD i []).length : Int)) (by omega)
      grind)
  unfold less szL at *
  by_cases h : (l : Int) - (xs.length : Int) < 0
  · grind
  · have h2 := key ((l : Int) - (xs.length : Int)) (by omega)
    have h3 : L5 (xs, (l : Int) - (xs.length : Int), 0, ()) = _ := h2
    grind
end laws_szIntSS
namespace laws_toIntSS
theorem law (xs : List (List Int)) (hx : szL xs ≤ 1048576) : impl (xs, ()) = some (xs, ()) := by
  have hl : xs.length ≤ 1048576 := by unfold szL at hx; omega
  rw [impl_eq]; unfold F0
  have : (decide (0 ≤ (xs.length : Int)) && decide ((xs.length : Int) ≤ (xs.length : Int)) && decide ((xs.length : Int) * 24 ≤ 140737488355328)) = true := by
    simp; omega
  rw [this, cond_true]
  have h := up_copy (R := PO) xs [] id (fun i r => L3 (xs, (i : Int), r, ())) (fun r => (r, ())) (fun i r hi hr => by
    have hm := szL_mem (getD_mem (d := []) hi)
    show L3 _ = _
    rw [L3_eq]; unfold F3; simp (disch := omega) only [inb_nat, cast_lt, Int.toNat_natCast, wI_succ]; rw [laws_toIntS.law _ (by omega)]; simp [hi, hr]) (fun r hr => by
    show L3 _ = _
    rw [L3_eq]; unfold F3
    simp) (List.replicate xs.length []) (by simp)
  simpa using h
end laws_toIntSS
namespace laws_eqIntSS
theorem law (xs ys : List (List Int)) (hx : szL xs ≤ 1048576) : impl (xs, ys, ()) = some (decide (xs = ys), ()) := by
  have hxl : xs.length ≤ 1048576 := by unfold szL at hx; omega
  rw [impl_eq]; unfold F0
  by_cases hl : xs.length = ys.length
  · rw [show ((xs.length : Int) != (ys.length : Int)) = false by simp [hl], cond_false]
    have h := up_list0 xs [] (fun i => L4 (xs, ys, (i : Int), ())) (fun i r => some (decide (r = ys.drop i), ())) (by
      rw [L4_eq]; unfold F4; simp (disch := omega) only [inb_nat, cast_lt, Int.toNat_natCast, wI_succ]; simp [hl]) (by
      intro i hi ih
      have hj : i < ys.length := by omega
      have hm := szL_mem (getD_mem (d := []) hi)
      rw [L4_eq]; unfold F4; simp (disch := omega) only [inb_nat, cast_lt, Int.toNat_natCast, wI_succ]; rw [L6_eq]; unfold F6; simp (disch := omega) only [inb_nat, cast_lt, Int.toNat_natCast, wI_succ]
      rw [drop_cons [] hj, decide_cons, laws_eqIntS.law _ _ (by omega)]
      grind)
    simpa using h
  · rw [show ((xs.length : Int) != (ys.length : Int)) = true by simp; omega, cond_true]
    have : xs ≠ ys := fun e => hl (by rw [e])
    simp [this]
end laws_eqIntSS
/-! ### certificates: size, copy, eq -/
abbrev Paper' := Int × List Int × Int × List (List Int) × List Int
def szPap (p : Paper') : Nat := p.2.1.length + szL p.2.2.2.1 + p.2.2.2.2.length
namespace laws_szTrace
theorem law (t : List (List Int) × List Int) (l : Int) (h0 : 0 ≤ l) (hl : l ≤ 1048576) (h1 : t.1.length ≤ maxLen) (hm : ∀ x ∈ t.1, x.length ≤ maxLen) (h2 : t.2.length ≤ maxLen) : impl (t, l, ()) = some (less l (szL t.1 + t.2.length), ()) := by
  rw [impl_eq]; unfold F0
  rw [laws_szIntSS.law _ _ h0 hl h1 hm, Option.bind_some]
  by_cases h : less l (szL t.1) < 0
  · unfold less at *; grind
  · have : 0 ≤ less l (szL t.1) ∧ less l (szL t.1) ≤ 1048576 := by unfold less at *; grind
    simp only [laws_szIntS.law _ _ this.1 this.2 h2]
    unfold less at *; grind
end laws_szTrace
namespace laws_szPaper
theorem law (p : Paper') (l : Int) (h0 : 0 ≤ l) (hl : l ≤ 1048576) (h1 : p.2.1.length ≤ maxLen) (h2 : p.2.2.2.1.length ≤ maxLen) (hm : ∀ x ∈ p.2.2.2.1, x.length ≤ maxLen) (h3 : p.2.2.2.2.length ≤ maxLen) : impl (p, l, ()) = some (less l (szPap p), ()) := by
  rw [impl_eq]; unfold F0 szPap
  rw [laws_szIntS.law _ _ h0 hl h1, Option.bind_some]
  by_cases h : less l p.2.1.length < 0
  · unfold less at *; grind
  · have : 0 ≤ less l p.2.1.length ∧ less l p.2.1.length ≤ 1048576 := by unfold less at *; grind
    simp only [laws_szTrace.law p.2.2.2 _ this.1 this.2 h2 hm h3]
    unfold less at *; grind
end laws_szPaper
namespace laws_toTrace
theorem law (t : List (List Int) × List Int) (h1 : szL t.1 ≤ 1048576) (h2 : t.2.length ≤ 1048576) : impl (t, ()) = some (t.1, t.2, ()) := by
  rw [impl_eq]; unfold F0
  rw [laws_toIntSS.law _ h1, laws_toIntS.law _ h2]; rfl
end laws_toTrace
namespace laws_toPaper
theorem law (p : Paper') (h : szPap p ≤ 1048576) : impl (p, ()) = some (p.1, p.2.2.1, p.2.1, p.2.2.2.1, p.2.2.2.2, ()) := by
  unfold szPap at h
  rw [impl_eq]; unfold F0
  rw [laws_toIntS.law _ (by omega), laws_toTrace.law p.2.2.2 (by omega) (by omega)]; rfl
end laws_toPaper
namespace laws_eqTrace
theorem law (s t : List (List Int) × List Int) (h1 : szL s.1 ≤ 1048576) (h2 : s.2.length ≤ 1048576) : impl (s, t, ()) = some (decide (s = t), ()) := by
  rw [impl_eq]; unfold F0
  rw [laws_eqIntSS.law _ _ h1, laws_eqIntS.law _ _ h2]
  obtain ⟨a, b⟩ := s
  obtain ⟨c, d⟩ := t
  simp only [Option.bind_some, Prod.mk.injEq, Bool.decide_and, bne_dec]
  cases decide (a = c) <;> cases decide (b = d) <;> rfl
end laws_eqTrace
namespace laws_eqPaper
theorem law (p q : Paper') (h : szPap p ≤ 1048576) : impl (p, q, ()) = some (decide (p = q), ()) := by
  unfold szPap at h
  rw [impl_eq]; unfold F0
  rw [laws_eqIntS.law _ _ (by omega), laws_eqTrace.law _ _ (by omega) (by omega)]
  obtain ⟨a, b, c, d, e⟩ := p
  obtain ⟨a', b', c', d', e'⟩ := q
  simp only [Option.bind_some, Prod.mk.injEq, Bool.decide_and, bne_dec]
  cases decide (a = a') <;> cases decide (b = b') <;> cases decide (c = c') <;> cases decide (d = d') <;> cases decide (e = e') <;> rfl
end laws_eqPaper
/-! ### decimals -/
theorem itoa_len (n : Int) (h1 : -9223372036854775808 ≤ n) (h2 : n ≤ 9223372036854775807) : (Lib.itoa n).length ≤ 20 := by
  have h3 : ∀ (k u : Nat), u < 10 ^ (k + 1) → Lib.nDigits u ≤ k + 1 := by
    intro k
    induction k with
    | zero => intro u hu; rw [Lib.nDigits_small (by omega)]; omega
    | succ k ih =>
      intro u hu
      by_cases hs : u < 10
      · rw [Lib.nDigits_small hs]; omega
      · rw [Lib.nDigits_big hs]
        have := ih (u / 10) (by rw [Nat.pow_succ] at hu; omega)
        omega
  have key : ∀ u : Nat, u < 10 ^ 19 → (Lib.decDigits u).length ≤ 19 := fun u hu => by
    rw [Lib.decDigits_length]
    exact h3 18 u hu
  unfold Lib.itoa
  split
  · have := key n.natAbs (by omega)
    simp; omega
  · have := key n.toNat (by omega)
    omega
namespace spec_l40Dec
theorem dig (d : Nat) (h : d < 10) : strOf ([IntKind.u8.wrap (wI (48 + (d : Int)))] : List Int) = [UInt8.ofNat (48 + d)] := by
  have : ∀ d : Fin 10, strOf ([IntKind.u8.wrap (wI (48 + (d.val : Int)))] : List Int) = [UInt8.ofNat (48 + d.val)] := by decide +kernel
  exact this ⟨d, h⟩
theorem loop (G : PI → Option PO) : ∀ (k n : Nat) (acc : List UInt8), n < 10 ^ (k + 1) → n ≤ 9223372036854775807 → acc.length + k ≤ 1000 → L6 G ((n : Int), acc, ()) = some (Lib.decDigits n ++ acc, ())
  | k, n, acc, hn, hm, ha => by
    rw [L6_eq]; unfold F6
    by_cases h9 : n < 10
    · rw [decide_eq_false (show ¬ ((n : Int) > 9) by omega), cond_false, dig n h9, Lib.decDigits_one h9]
      rw [decide_eq_true (by simp; omega)]
      rfl
    · rw [decide_eq_true (show (n : Int) > 9 by omega), cond_true]
      have e1 : Int.tmod (n : Int) 10 = ((n % 10 : Nat) : Int) := rfl
      have e2 : wI (Int.tdiv (n : Int) 10) = ((n / 10 : Nat) : Int) := by
        rw [show Int.tdiv (n : Int) 10 = ((n / 10 : Nat) : Int) from rfl]
        exact wI_small (by omega) (by omega)
      rw [e1, e2, dig (n % 10) (by omega)]
      rw [decide_eq_true (by simp; omega), cond_true]
      match k, hn, ha with
      | 0, hn, _ => simp at hn; omega
      | k + 1, hn, ha =>
        rw [loop G k (n / 10) _ (by rw [Nat.pow_succ] at hn; omega) (by omega) (by simp; omega)]
        conv => rhs; rw [Lib.decDigits, dif_neg h9]
        simp
theorem pos (n : Int) (h0 : 0 ≤ n) (h2 : n ≤ 9223372036854775807) : impl (n, ()) = some (Lib.itoa n, ()) := by
  rw [impl_eq]; unfold F0
  rw [decide_eq_false (show ¬ n < -9223372036854775807 by omega), cond_false, decide_eq_false (show ¬ n < 0 by omega), cond_false]
  have := loop impl 19 n.toNat [] (by omega) (by omega) (by simp)
  rw [Int.toNat_of_nonneg h0] at this
  rw [this, Lib.itoa, if_neg (by omega), List.append_nil]
theorem law (n : Int) (h1 : -9223372036854775808 ≤ n) (h2 : n ≤ 9223372036854775807) : impl (n, ()) = some (Lib.itoa n, ()) := by
  by_cases h : n < 0
  · rw [impl_eq]; unfold F0
    by_cases hm : n < -9223372036854775807
    · rw [decide_eq_true hm, cond_true]
      have : n = -9223372036854775808 := by omega
      subst this
      have hd : Lib.decDigits 9223372036854775808 = [57, 50, 50, 51, 51, 55, 50, 48, 51, 54, 56, 53, 52, 55, 55, 53, 56, 48, 56] := by
        rw [Lib.decDigits_eq]; decide +kernel
      rw [Lib.itoa, if_pos (by omega), show (-9223372036854775808 : Int).natAbs = 9223372036854775808 from rfl, hd]
    · rw [decide_eq_false hm, cond_false, decide_eq_true h, cond_true]
      have e : wI (0 - n) = -n := by rw [wI_small (by omega) (by omega)]; omega
      rw [e, pos (-n) (by omega) (by omega), Option.bind_some]
      have hi : Lib.itoa (-n) = Lib.decDigits n.natAbs := by
        rw [Lib.itoa, if_neg (by omega)]
        congr 1
        omega
      have hl := itoa_len (-n) (by omega) (by omega)
      rw [decide_eq_true (by simp; omega), cond_true]
      rw [hi, Lib.itoa, if_pos h]
      rfl
  · exact pos n (by omega) h2
end spec_l40Dec
/-! ### numbers with a space between -/
def numsOk (xs : List Int) : Bool := xs.all fun x => in3 x (-9999) 9999
theorem all_range {α : Type} {xs : List α} {d : α} {p : α → Bool} : ((List.range' 0 xs.length).all fun i => p (xs.getD i d)) = xs.all p := by
  rw [Bool.eq_iff_iff, range_all, List.all_eq_true]
  constructor
  · intro h x hx
    obtain ⟨i, hi, rfl⟩ := List.getElem_of_mem hx
    have := h i hi
    rwa [getD_eq hi] at this
  · intro h i hi
    rw [getD_eq hi]
    exact h _ (List.getElem_mem hi)
namespace spec_l31Numbers
theorem law (xs : List Int) (hx : xs.length ≤ 1048576) : impl (xs, ()) = some (numsOk xs, ()) := by
  rw [impl_eq]; unfold F0
  have h := up_all (R := PO) (fun i => L2 (xs, (i : Int), ())) xs.length (fun i => in3 (xs.getD i 0) (-9999) 9999) (false, ()) (true, ()) (fun i hi => by
    show L2 _ = _
    rw [L2_eq]; unfold F2
    rw [lt_len, inb_true hi, wI_succ (by omega), Int.toNat_natCast]
    simp only [hi, decide_true, cond_true]
    rw [spec_l1In.law, Option.bind_some]
    cases in3 (xs.getD i 0) (-9999) 9999 <;> rfl) (by
    show L2 _ = _
    rw [L2_eq]; unfold F2; simp) xs.length 0 (by omega)
  rw [all_range (p := fun x => in3 x (-9999) 9999)] at h
  refine (show _ = _ from h).trans ?_
  unfold numsOk
  cases xs.all fun x => in3 x (-9999) 9999 <;> rfl
end spec_l31Numbers
theorem numsOk_iff {xs : List Int} : numsOk xs = true ↔ ∀ x ∈ xs, -9999 ≤ x ∧ x ≤ 9999 := by
  unfold numsOk
  rw [List.all_eq_true]
  exact ⟨fun h x hx => in3_iff.1 (h x hx), fun h x hx => in3_iff.2 (h x hx)⟩
def rowOfInts (xs : List Int) : List UInt8 := (xs.map fun x => 32 :: Lib.itoa x).flatten
theorem rowOfInts_len (xs : List Int) (h : ∀ x ∈ xs, -9223372036854775808 ≤ x ∧ x ≤ 9223372036854775807) : (rowOfInts xs).length ≤ 21 * xs.length := by
  induction xs with
  | nil => simp [rowOfInts]
  | cons x xs ih =>
    have h1 := itoa_len x (h x (by simp)).1 (h x (by simp)).2
    have h2 := ih fun y hy => h y (by simp [hy])
    simp only [rowOfInts, List.map_cons, List.flatten_cons, List.length_append, List.length_cons] at h2 ⊢
    omega
namespace spec_l31Row
theorem law (xs : List Int) (hx : xs.length ≤ 1048576) (hb : ∀ x ∈ xs, -9223372036854775808 ≤ x ∧ x ≤ 9223372036854775807) : impl (xs, ()) = some (rowOfInts xs, ()) := by
  rw [impl_eq]; unfold F0
  have key : ∀ d i (acc : List UInt8), i + d = xs.length → acc.length ≤ 21 * i → L3 (xs, acc, (i : Int), ()) = some (acc ++ rowOfInts (xs.drop i), ()) := by
    intro d
    induction d with
    | zero =>
      intro i acc hi ha
      have : i = xs.length := by omega
      subst this
      rw [L3_eq]; unfold F3
      simp [rowOfInts]
    | succ d ih =>
      intro i acc hi ha
      have hlt : i < xs.length := by omega
      have hm := hb _ (getD_mem (d := 0) hlt)
      have hl := itoa_len _ hm.1 hm.2
      rw [L3_eq]; unfold F3
      rw [lt_len, decide_eq_true hlt, cond_true, decide_eq_true (show acc.length + ([32] : List UInt8).length ≤ 140737488355328 by simp; omega), cond_true, inb_true hlt, cond_true, Int.toNat_natCast, spec_l40Dec.law _ hm.1 hm.2, Option.bind_some]
      rw [decide_eq_true (by simp only [List.length_append, List.length_cons, List.length_nil]; omega), cond_true, wI_succ (by omega), ih (i + 1) _ (by omega) (by simp only [List.length_append, List.length_cons, List.length_nil]; omega)]
      rw [show rowOfInts (xs.drop i) = 32 :: Lib.itoa xs[i] ++ rowOfInts (xs.drop (i + 1)) by rw [List.drop_eq_getElem_cons hlt]; rfl, getD_eq hlt]
      simp
  have := key xs.length 0 [] (by omega) (by simp)
  simpa using this
end spec_l31Row
theorem row_join (x : Int) (xs : List Int) : (rowOfInts (x :: xs)).drop 1 = Lib.join ((x :: xs).map Lib.itoa) [32] := by
  rw [List.map_cons, Lib.join_cons]
  simp [rowOfInts, Lib.joinTail, Function.comp_def]
theorem itoa_law (n : Int) (h1 : -9223372036854775808 ≤ n) (h2 : n ≤ 9223372036854775807) : lib_Itoa.impl (n, ()) = some (Lib.itoa n, ()) := by
  show itoaI _ = _
  unfold itoaI
  rw [show (decide (-9223372036854775808 ≤ n) && decide (n ≤ 9223372036854775807)) = true by simp [h1, h2]]
  rfl
/-! ### a certificate's text -/
def stepsText : List (List Int) → List Int → List UInt8
  | x :: xs, k :: ks => [32, 62, 32] ++ Lib.itoa k ++ [32, 58] ++ rowOfInts x ++ stepsText xs ks
  | _, _ => []
def stOk (xs : List (List Int)) : Bool := xs.all fun x => !x.isEmpty && numsOk x
def cap (s : List UInt8) : List UInt8 := if 4000 < s.length then [] else s
def bareP (p : Paper') : Bool :=
  bif p.1 == 1 then p.2.2.1 == 0 && (p.2.2.2.1.isEmpty && p.2.2.2.2.isEmpty) else bif p.1 == 2 then p.2.1.isEmpty && (p.2.2.2.1.isEmpty && p.2.2.2.2.isEmpty) else bif p.1 == 3 then p.2.2.1 == 0 && p.2.1.isEmpty else false
def formP (p : Paper') : Bool :=
  bareP p && (bif p.1 == 1 then numsOk p.2.1 else bif p.1 == 2 then in3 p.2.2.1 (-9999) 9999 else numsOk p.2.2.2.2 && (stOk p.2.2.2.1 && decide (p.2.2.2.1.length = p.2.2.2.2.length + 1)))
def bodyP (p : Paper') : List UInt8 :=
  bif p.1 == 1 then [115, 101, 116] ++ rowOfInts p.2.1 else bif p.1 == 2 then [115, 116, 101, 112, 115, 32] ++ Lib.itoa p.2.2.1 else [114, 117, 110] ++ rowOfInts (p.2.2.2.1.getD 0 []) ++ stepsText (p.2.2.2.1.drop 1) p.2.2.2.2
def paperText (p : Paper') : List UInt8 := bif formP p then cap (bodyP p) else []
/-- numbers that an int holds -/
def i64s (xs : List Int) : Prop := ∀ x ∈ xs, -9223372036854775808 ≤ x ∧ x ≤ 9223372036854775807
structure PapOk (p : Paper') : Prop where
  set : i64s p.2.1
  steps : -9223372036854775808 ≤ p.2.2.1 ∧ p.2.2.1 ≤ 9223372036854775807
  states : ∀ x ∈ p.2.2.2.1, i64s x
  rules : i64s p.2.2.2.2
theorem numsOk_cons (x : Int) (xs : List Int) : numsOk (x :: xs) = (in3 x (-9999) 9999 && numsOk xs) := rfl
namespace spec_l31Bare
theorem law (p : Paper') (hk : in3 p.1 1 3 = true) : impl (p, ()) = some (bareP p, ()) := by
  obtain ⟨k, set, steps, states, rules⟩ := p
  have hk := in3_iff.1 hk
  rw [impl_eq]; unfold F0 bareP
  simp only [L3_eq, F3, isEmpty_len, pos_len]
  have : k = 1 ∨ k = 2 ∨ k = 3 := by simp only at hk; omega
  rcases this with rfl | rfl | rfl <;> grind
end spec_l31Bare
namespace spec_l31Form
theorem law (p : Paper') (h : szPap p ≤ 1048576) : impl (p, ()) = some (formP p, ()) := by
  obtain ⟨k, set, steps, states, rules⟩ := p
  unfold szPap at h
  simp only at h
  have hs : states.length ≤ 1048576 := by unfold szL at h; omega
  rw [impl_eq]; unfold F0 formP
  rw [spec_l1In.law, Option.bind_some]
  cases hk : in3 k 1 3 with
  | false =>
    have : bareP (k, set, steps, states, rules) = false := by
      unfold bareP
      simp only
      unfold in3 at hk
      grind
    rw [this]; simp
  | true =>
    rw [spec_l31Bare.law _ hk, Option.bind_some]
    cases hb : bareP (k, set, steps, states, rules) with
    | false => simp
    | true =>
      simp only [spec_l31Numbers.law set (by omega), spec_l31Numbers.law rules (by omega), spec_l31Numbers.law [steps] (by simp), Option.bind_some, L3_eq, F3]
      have key := up_list0 states [] (fun i => L6 ((i : Int), k, set, steps, states, rules, ())) (fun i r => some (stOk r && decide (states.length = rules.length + 1), ())) (by
        rw [L6_eq]; unfold F6; simp (disch := omega) only [inb_nat, cast_lt, Int.toNat_natCast, wI_succ]
        rw [decide_eq_false (Nat.lt_irrefl _), cond_false]
        have : ((states.length : Int) == ((rules.length + 1 : Nat) : Int)) = decide (states.length = rules.length + 1) := by rw [Bool.eq_iff_iff]; simp; omega
        rw [this]; rfl) (by
        intro i hi ih
        have hm := szL_mem (getD_mem (d := []) hi)
        rw [L6_eq]; unfold F6; simp (disch := omega) only [inb_nat, cast_lt, Int.toNat_natCast, wI_succ]
        rw [spec_l31Numbers.law _ (by omega), isEmpty_len]
        have e : stOk (states.getD i [] :: states.drop (i + 1)) = (!(states.getD i []).isEmpty && numsOk (states.getD i []) && stOk (states.drop (i + 1))) := rfl
        rw [e, ih, decide_eq_true hi, cond_true, cond_true, Option.bind_some]
        cases (states.getD i []).isEmpty <;> cases numsOk (states.getD i []) <;> rfl)
      have key' : L6 (0, k, set, steps, states, rules, ()) = _ := key
      rw [key']
      have e1 : numsOk [steps] = in3 steps (-9999) 9999 := by simp [numsOk]
      have hk' := in3_iff.1 hk
      unfold bareP at hb
      have e3 : numsOk [] = true := rfl
      have e4 : in3 0 (-9999) 9999 = true := rfl
      have : k = 1 ∨ k = 2 ∨ k = 3 := by omega
      rcases this with rfl | rfl | rfl
      · simp only [show ((1 : Int) == 1) = true from rfl, cond_true, Bool.and_eq_true, beq_iff_eq, List.isEmpty_iff] at hb
        obtain ⟨rfl, rfl, rfl⟩ := hb
        rw [e1, e3, e4]
        cases numsOk set <;> rfl
      · simp only [show ((2 : Int) == 1) = false from rfl, show ((2 : Int) == 2) = true from rfl, cond_false, cond_true, Bool.and_eq_true, beq_iff_eq, List.isEmpty_iff] at hb
        obtain ⟨rfl, rfl, rfl⟩ := hb
        rw [e1, e3]
        cases in3 steps (-9999) 9999 <;> rfl
      · simp only [show ((3 : Int) == 1) = false from rfl, show ((3 : Int) == 2) = false from rfl, show ((3 : Int) == 3) = true from rfl, cond_false, cond_true, Bool.and_eq_true, beq_iff_eq, List.isEmpty_iff] at hb
        obtain ⟨rfl, rfl⟩ := hb
        rw [e1, e3, e4]
        cases numsOk rules <;> cases stOk states <;> cases decide (states.length = rules.length + 1) <;> rfl
end spec_l31Form
theorem rowOfInts_cons (x : Int) (xs : List Int) : rowOfInts (x :: xs) = [32] ++ Lib.itoa x ++ rowOfInts xs := by simp [rowOfInts]
theorem stepsText_len : ∀ (xs : List (List Int)) (ks : List Int), (∀ x ∈ xs, i64s x) → i64s ks → (stepsText xs ks).length ≤ 30 * ks.length + 21 * szL xs
  | x :: xs, k :: ks, h1, h2 => by
    have h3 := stepsText_len xs ks (fun y hy => h1 y (by simp [hy])) (fun y hy => h2 y (by simp [hy]))
    have h4 := itoa_len k (h2 k (by simp)).1 (h2 k (by simp)).2
    have h5 := rowOfInts_len x (h1 x (by simp))
    rw [szL_cons]
    simp only [stepsText, List.length_append, List.length_cons, List.length_nil]
    omega
  | [], ks, _, _ => by simp [stepsText]
  | _ :: _, [], _, _ => by simp [stepsText]
theorem cap_eq (s : List UInt8) : (bif decide ((s.length : Int) > 4000) then some (([] : List UInt8), ()) else some (s, ())) = some (cap s, ()) := by
  unfold cap
  by_cases h : 4000 < s.length
  · rw [if_pos h, decide_eq_true (by omega)]; rfl
  · rw [if_neg h, decide_eq_false (by omega)]; rfl
theorem szL_getD {xs : List (List Int)} (i : Nat) : (xs.getD i []).length ≤ szL xs := by
  rcases Nat.lt_or_ge i xs.length with hi | hi
  · have := szL_mem (getD_mem (d := []) hi); omega
  · rw [List.getD_eq_getElem?_getD, List.getElem?_eq_none hi]; simp
theorem i64s_getD {xs : List (List Int)} (h : ∀ x ∈ xs, i64s x) (i : Nat) : i64s (xs.getD i []) := by
  rcases Nat.lt_or_ge i xs.length with hi | hi
  · exact h _ (getD_mem hi)
  · rw [List.getD_eq_getElem?_getD, List.getElem?_eq_none hi]; intro x hx; cases hx
namespace spec_PaperText
theorem law (p : Paper') (h : szPap p ≤ 1048576) (hp : PapOk p) : impl (p, ()) = some (paperText p, ()) := by
  obtain ⟨k, set, steps, states, rules⟩ := p
  obtain ⟨q1, q2, q3, q4⟩ := hp
  rw [impl_eq]; unfold F0 paperText
  rw [spec_l31Form.law _ h, Option.bind_some]
  unfold szPap at h
  simp only at h q1 q2 q3 q4
  cases hf : formP (k, set, steps, states, rules) with
  | false => rfl
  | true =>
    have hk : k = 1 ∨ k = 2 ∨ k = 3 := by
      unfold formP bareP at hf
      rw [Bool.and_eq_true] at hf
      have := hf.1
      simp only at this
      by_cases h1 : k = 1
      · exact .inl h1
      · by_cases h2 : k = 2
        · exact .inr (.inl h2)
        · by_cases h3 : k = 3
          · exact .inr (.inr h3)
          · rw [show (k == 1) = false by simpa using h1, show (k == 2) = false by simpa using h2, show (k == 3) = false by simpa using h3] at this
            cases this
    rw [cond_true, Bool.not_true, cond_false]
    unfold bodyP
    rcases hk with rfl | rfl | rfl
    · have h1 := rowOfInts_len set q1
      simp only [show ((1 : Int) == 1) = true from rfl, cond_true]
      rw [spec_l31Row.law _ (by omega) q1, Option.bind_some, decide_eq_true (by simp only [List.length_append, List.length_cons, List.length_nil]; omega), cond_true]
      exact cap_eq _
    · have h1 := itoa_len steps q2.1 q2.2
      simp only [show ((2 : Int) == 1) = false from rfl, show ((2 : Int) == 2) = true from rfl, cond_true, cond_false]
      rw [spec_l40Dec.law _ q2.1 q2.2, Option.bind_some, decide_eq_true (by simp only [List.length_append, List.length_cons, List.length_nil]; omega), cond_true]
      exact cap_eq _
    · simp only [show ((3 : Int) == 1) = false from rfl, show ((3 : Int) == 2) = false from rfl, cond_false]
      unfold formP bareP at hf
      simp only [show ((3 : Int) == 1) = false from rfl, show ((3 : Int) == 2) = false from rfl, show ((3 : Int) == 3) = true from rfl, cond_false, cond_true, Bool.and_eq_true, decide_eq_true_eq] at hf
      have hl := hf.2.2.2
      have hs := szL_getD (xs := states) 0
      have h1 := rowOfInts_len _ (i64s_getD q3 0)
      have hsl : states.length ≤ szL states := by unfold szL; omega
      rw [inb_int (i := 0) (n := states.length) (by omega) (by omega), cond_true, spec_l31Row.law _ (by omega) (i64s_getD q3 0), Option.bind_some, decide_eq_true (by simp only [List.length_append, List.length_cons, List.length_nil]; omega), cond_true]
      have key := up_list (S := List UInt8) rules 0 (fun i s => s.length + 30 * (rules.length - i) + 21 * szL (states.drop (i + 1)) ≤ 1000000000) (fun i s => L10 (s, (i : Int), 3, set, steps, states, rules, ())) (fun i r s => some (cap (s ++ stepsText (states.drop (i + 1)) r), ())) (by
        intro s hs
        rw [L10_eq]; unfold F10; simp (disch := omega) only [inb_nat, cast_lt, Int.toNat_natCast, wI_succ]
        rw [decide_eq_false (Nat.lt_irrefl _), cond_false, cap_eq]
        have : stepsText (states.drop (rules.length + 1)) [] = [] := by cases states.drop (rules.length + 1) <;> rfl
        rw [this, List.append_nil]) (by
        intro i s hi hs ih
        have hj : i + 1 < states.length := by omega
        have e1 := drop_cons [] hj
        have hm := szL_getD (xs := states) (i + 1)
        have h2 := rowOfInts_len _ (i64s_getD q3 (i + 1))
        have h3 := q4 _ (getD_mem (d := 0) hi)
        have h4 := itoa_len _ h3.1 h3.2
        rw [e1, szL_cons] at hs
        rw [L10_eq]; unfold F10; simp (disch := omega) only [inb_nat, cast_lt, Int.toNat_natCast, wI_succ]
        rw [decide_eq_true hi, cond_true, L12_eq]; unfold F12; simp (disch := omega) only [inb_nat, cast_lt, Int.toNat_natCast, wI_succ]
        rw [spec_l40Dec.law _ h3.1 h3.2, spec_l31Row.law _ (by omega) (i64s_getD q3 (i + 1)), e1]
        have := ih (s ++ [32, 62, 32] ++ Lib.itoa (rules.getD i 0) ++ [32, 58] ++ rowOfInts (states.getD (i + 1) [])) (by simp only [List.length_append, List.length_cons, List.length_nil]; omega)
        simp only [stepsText]
        rw [show s ++ ([32, 62, 32] ++ Lib.itoa (rules.getD i 0) ++ [32, 58] ++ rowOfInts (states.getD (i + 1) []) ++ stepsText (states.drop (i + 1 + 1)) (rules.drop (i + 1))) = s ++ [32, 62, 32] ++ Lib.itoa (rules.getD i 0) ++ [32, 58] ++ rowOfInts (states.getD (i + 1) []) ++ stepsText (states.drop (i + 1 + 1)) (rules.drop (i + 1)) by simp [List.append_assoc], ← this]
        simp (disch := omega) only [decide_eq_true, decide_eq_false, cond_true, cond_false, Option.bind_some, Option.bind_none, List.length_append, List.length_cons, List.length_nil])
      exact key _ (by
        have : szL (states.drop 1) ≤ szL states := by
          cases states with
          | nil => simp
          | cons a b => rw [szL_cons]; simp
        simp only [List.length_append, List.length_cons, List.length_nil]; simp only [Nat.zero_add]; omega)
end spec_PaperText
namespace impl_noWay
theorem law (t : List (List Int) × List Int) : impl (t, ()) = some (t.1.isEmpty && t.2.isEmpty, ()) := by
  rw [impl_eq]; unfold F0
  rw [isEmpty_len, isEmpty_len]
  cases t.1.isEmpty <;> rfl
end impl_noWay
namespace impl_paperOk
theorem law (p : Paper') : impl (p, ()) = some (bareP p, ()) := by
  rw [impl_eq]; unfold F0 bareP
  simp only [impl_noWay.law p.2.2.2, Option.bind_some, isEmpty_len]
  cases p.1 == 1 <;> cases p.1 == 2 <;> cases p.1 == 3 <;> cases p.2.2.1 == 0 <;> cases p.2.1.isEmpty <;> rfl
end impl_paperOk
namespace impl_PaperText_1
theorem law (xs : List Int) (ok : Bool) (s : List UInt8) (hx : i64s xs) (hl : xs.length ≤ 1048576) (hs : s.length ≤ 1000000000) : impl (xs, ok, s, ()) = some (ok && numsOk xs, s ++ rowOfInts xs, ()) := by
  rw [impl_eq]; unfold F0
  refine up_list (S := Bool × List UInt8) xs 0 (fun i q => q.2.length ≤ 1000000000 + 21 * i) (fun i q => L1 (xs, (xs.length : Int), (i : Int), q.1, q.2, ())) (fun i r q => some (q.1 && numsOk r, q.2 ++ rowOfInts r, ())) ?_ ?_ (ok, s) (by simpa using hs)
  · intro q hq
    rw [L1_eq]; unfold F1; simp (disch := omega) only [inb_nat, cast_lt, Int.toNat_natCast, wI_succ]
    rw [decide_eq_false (Nat.lt_irrefl _), cond_false]
    simp [numsOk, rowOfInts]
  · intro i q hi hq ih
    obtain ⟨ok, s⟩ := q
    simp only at hq
    have h3 := hx _ (getD_mem (d := 0) hi)
    have h4 := itoa_len _ h3.1 h3.2
    rw [L1_eq]; unfold F1; simp (disch := omega) only [inb_nat, cast_lt, Int.toNat_natCast, wI_succ]
    rw [decide_eq_true hi, cond_true, cond_true, impl_in.law, itoa_law _ h3.1 h3.2, rowOfInts_cons, numsOk_cons]
    simp only [Option.bind_some]
    have e : ∀ b : Bool, L1 (xs, (xs.length : Int), ((i + 1 : Nat) : Int), b, s ++ ([32] ++ Lib.itoa (xs.getD i 0)), ()) = some (b && numsOk (xs.drop (i + 1)), s ++ ([32] ++ Lib.itoa (xs.getD i 0) ++ rowOfInts (xs.drop (i + 1))), ()) := by
      intro b
      have := ih (b, s ++ ([32] ++ Lib.itoa (xs.getD i 0))) (by simp only [List.length_append, List.length_cons, List.length_nil]; omega)
      simp only at this
      rw [this, List.append_assoc s]
    rw [decide_eq_true (by simp only [List.length_append, List.length_cons, List.length_nil]; omega), cond_true, decide_eq_true (by simp only [List.length_append, List.length_cons, List.length_nil]; omega), cond_true, e, e]
    cases ok <;> cases in3 (xs.getD i 0) (-9999) 9999 <;> rfl
end impl_PaperText_1
namespace impl_PaperText
theorem fin (ok : Bool) (s : List UInt8) : L26 (ok, s, ()) = some (bif ok then cap s else [], ()) := by
  rw [L26_eq]; unfold F26
  cases ok with
  | false => rfl
  | true => exact cap_eq s
theorem law (p : Paper') (h : szPap p ≤ 1048576) (hp : PapOk p) : impl (p, ()) = some (paperText p, ()) := by
  obtain ⟨k, set, steps, states, rules⟩ := p
  obtain ⟨q1, q2, q3, q4⟩ := hp
  rw [impl_eq]; unfold F0 paperText
  rw [impl_paperOk.law, Option.bind_some]
  unfold szPap at h
  simp only at h q1 q2 q3 q4
  unfold formP
  cases hb : bareP (k, set, steps, states, rules) with
  | false => rfl
  | true =>
    have hk : k = 1 ∨ k = 2 ∨ k = 3 := by
      unfold bareP at hb
      simp only at hb
      by_cases h1 : k = 1
      · exact .inl h1
      · by_cases h2 : k = 2
        · exact .inr (.inl h2)
        · by_cases h3 : k = 3
          · exact .inr (.inr h3)
          · rw [show (k == 1) = false by simpa using h1, show (k == 2) = false by simpa using h2, show (k == 3) = false by simpa using h3] at hb
            cases hb
    rw [Bool.not_true, cond_false]
    unfold bodyP
    rcases hk with rfl | rfl | rfl
    · simp only [show ((1 : Int) == 1) = true from rfl, cond_true, Bool.true_and, List.nil_append]
      rw [impl_PaperText_1.law _ _ _ q1 (by omega) (by simp), Option.bind_some, fin]
      simp (disch := omega) only [decide_eq_true, decide_eq_false, cond_true, cond_false, Option.bind_some, Option.bind_none, List.length_append, List.length_cons, List.length_nil]
      rw [Bool.true_and]
    · simp only [show ((2 : Int) == 1) = false from rfl, show ((2 : Int) == 2) = true from rfl, cond_true, cond_false, Bool.true_and, List.nil_append]
      rw [impl_PaperText_1.law [steps] _ _ (fun x hx => by rw [List.mem_singleton] at hx; subst hx; exact q2) (by simp) (by simp), Option.bind_some, fin]
      simp (disch := omega) only [decide_eq_true, decide_eq_false, cond_true, cond_false, Option.bind_some, Option.bind_none, List.length_append, List.length_cons, List.length_nil]
      have : numsOk [steps] = in3 steps (-9999) 9999 := by simp [numsOk]
      rw [Bool.true_and, this]
      simp [rowOfInts]
    · simp only [show ((3 : Int) == 1) = false from rfl, show ((3 : Int) == 2) = false from rfl, cond_false, Bool.true_and, List.nil_append]
      have hsl : states.length ≤ szL states := by unfold szL; omega
      rw [wI_small (n := (rules.length : Int) + 1) (by omega) (by omega)]
      by_cases hl : states.length = rules.length + 1
      rotate_left
      · rw [show ((states.length : Int) != (rules.length : Int) + 1) = true by simp; omega, cond_true, decide_eq_false hl]
        simp
      rw [show ((states.length : Int) != (rules.length : Int) + 1) = false by simp; omega, cond_false, decide_eq_true hl, Bool.and_true]
      have key := up_list (S := Bool × List UInt8) states [] (fun i q => q.2.length + 30 * (states.length - i) + 21 * szL (states.drop i) ≤ 500000000) (fun i q => L11 (states, (states.length : Int), (i : Int), 3, set, steps, states, rules, q.1, q.2, ()))
        (fun i r q => some (bif q.1 && (stOk r && numsOk (rules.drop (i - 1))) then cap (q.2 ++ (if i = 0 then rowOfInts (r.getD 0 []) ++ stepsText (r.drop 1) rules else stepsText r (rules.drop (i - 1)))) else [], ())) (by
        intro q hq
        rw [L11_eq]; unfold F11; simp (disch := omega) only [inb_nat, cast_lt, Int.toNat_natCast, wI_succ]
        rw [decide_eq_false (Nat.lt_irrefl _), cond_false, fin]
        have e1 : rules.drop (states.length - 1) = [] := List.drop_eq_nil_of_le (by omega)
        have e2 : ¬ states.length = 0 := by omega
        rw [e1, if_neg e2]
        simp [stOk, numsOk, stepsText]) (by
        intro i q hi hq ih
        obtain ⟨ok, s⟩ := q
        have e1 := drop_cons [] hi
        have hm := szL_getD (xs := states) i
        have h2 := rowOfInts_len _ (i64s_getD q3 i)
        have ex : stOk (states.getD i [] :: states.drop (i + 1)) = (!(states.getD i []).isEmpty && numsOk (states.getD i []) && stOk (states.drop (i + 1))) := rfl
        rw [e1, szL_cons] at hq
        simp only at hq
        have h17 : ∀ (ok : Bool) (s : List UInt8), s.length + 21 * (states.getD i []).length + 30 * (states.length - (i + 1)) + 21 * szL (states.drop (i + 1)) ≤ 500000000 →
            L17 L11 (states.getD i [], states, (states.length : Int), (i : Int), 3, set, steps, states, rules, ok, s, ()) = some (bif (ok && (!(states.getD i []).isEmpty && numsOk (states.getD i []))) && (stOk (states.drop (i + 1)) && numsOk (rules.drop i)) then cap (s ++ rowOfInts (states.getD i []) ++ stepsText (states.drop (i + 1)) (rules.drop i)) else [], ()) := by
          intro ok s hs
          rw [L17_eq]; unfold F17; simp (disch := omega) only [inb_nat, cast_lt, Int.toNat_natCast, wI_succ]
          simp only [impl_PaperText_1.law _ _ _ (i64s_getD q3 i) (show (states.getD i []).length ≤ 1048576 by omega) (show s.length ≤ 1000000000 by omega), Option.bind_some, pos_len]
          have := fun b => ih (b, s ++ rowOfInts (states.getD i [])) (by simp only [List.length_append, List.length_cons, List.length_nil]; omega)
          simp only [if_neg (Nat.succ_ne_zero i), Nat.add_sub_cancel] at this
          rw [this, this]
          cases ok <;> rfl
        rw [L11_eq]; unfold F11; simp (disch := omega) only [inb_nat, cast_lt, Int.toNat_natCast, wI_succ]
        rw [decide_eq_true hi, cond_true, cond_true, ex]
        by_cases hi0 : i = 0
        · subst hi0
          rw [decide_eq_false (by omega), cond_false, h17 _ _ (by omega), if_pos rfl]
          have : (states.getD 0 [] :: states.drop (0 + 1)).getD 0 [] = states.getD 0 [] := rfl
          rw [this, show (0 : Nat) - 1 = 0 from rfl, List.drop_zero, List.append_assoc]
          simp only [Nat.zero_add, List.drop_succ_cons, List.drop_zero]
          simp only [Bool.and_assoc, List.append_assoc]
        · have hr : i - 1 < rules.length := by omega
          have e3 := drop_cons 0 hr
          rw [show i - 1 + 1 = i by omega] at e3
          have h3 := q4 _ (getD_mem (d := 0) hr)
          have h4 := itoa_len _ h3.1 h3.2
          rw [decide_eq_true (show (i : Int) > 0 by omega), cond_true, wI_small (n := (i : Int) - 1) (by omega) (by omega), show ((i : Int) - 1).toNat = i - 1 by omega]
          have e4 : (rules.take i).drop (i - 1) = [rules.getD (i - 1) 0] := by
            have : rules.take i = rules.take (i - 1) ++ [rules.getD (i - 1) 0] := by
              rw [← take_snoc 0 hr, show i - 1 + 1 = i by omega]
            rw [this, List.drop_append_of_le_length (by simp; omega), List.drop_take, Nat.sub_self]
            rfl
          rw [e4, show (decide (0 ≤ (i : Int) - 1) && decide ((i : Int) - 1 ≤ (i : Int)) && decide ((i : Int) ≤ (rules.length : Int))) = true by simp; omega]
          rw [impl_PaperText_1.law [rules.getD (i - 1) 0] _ _ (fun x hx => by rw [List.mem_singleton] at hx; subst hx; exact h3) (by simp) (by simp only [List.length_append, List.length_cons, List.length_nil]; omega)]
          have e5 : rowOfInts [rules.getD (i - 1) 0] = [32] ++ Lib.itoa (rules.getD (i - 1) 0) := by simp [rowOfInts]
          have e6 : numsOk [rules.getD (i - 1) 0] = in3 (rules.getD (i - 1) 0) (-9999) 9999 := by simp [numsOk]
          rw [e5, e6]
          have h18 := h17 (ok && in3 (rules.getD (i - 1) 0) (-9999) 9999) (s ++ [32, 62] ++ ([32] ++ Lib.itoa (rules.getD (i - 1) 0)) ++ [32, 58]) (by simp only [List.length_append, List.length_cons, List.length_nil]; omega)
          rw [decide_eq_true (by simp only [List.length_append, List.length_cons, List.length_nil]; omega), cond_true, cond_true, Option.bind_some, decide_eq_true (by simp only [List.length_append, List.length_cons, List.length_nil]; omega), cond_true, h18, if_neg hi0, e3, numsOk_cons]
          simp only [stepsText]
          have ea : s ++ [32, 62] ++ ([32] ++ Lib.itoa (rules.getD (i - 1) 0)) ++ [32, 58] ++ rowOfInts (states.getD i []) ++ stepsText (states.drop (i + 1)) (rules.drop i) = s ++ ([32, 62, 32] ++ Lib.itoa (rules.getD (i - 1) 0) ++ [32, 58] ++ rowOfInts (states.getD i []) ++ stepsText (states.drop (i + 1)) (rules.drop i)) := by simp
          rw [ea]
          congr 2
          cases ok <;> cases in3 (rules.getD (i - 1) 0) (-9999) 9999 <;> cases (states.getD i []).isEmpty <;> cases numsOk (states.getD i []) <;> cases stOk (states.drop (i + 1)) <;> rfl)
      have k0 := key (true, [114, 117, 110]) (by simp only [List.drop_zero]; simp only [List.length_append, List.length_cons, List.length_nil]; omega)
      have k0' : L11 (states, (states.length : Int), 0, 3, set, steps, states, rules, true, [114, 117, 110], ()) = _ := k0
      rw [decide_eq_true (by simp), cond_true, k0', if_pos rfl, show (0 : Nat) - 1 = 0 from rfl, List.drop_zero, Bool.true_and, Bool.and_comm (stOk states), List.append_assoc]
end impl_PaperText
namespace laws_FnExactPaperText
theorem law (p : Paper') (hw : (Ty.prod (.int .i64) (.prod (.sl (.int .i64)) (.prod (.int .i64) (.prod (.sl (.sl (.int .i64))) (.last (.sl (.int .i64))))))).wf p) : impl (p, ()) = some (true, ()) := by
  obtain ⟨w1, ⟨w2, w2'⟩, w3, ⟨w4, w4'⟩, w5, w5'⟩ := hw
  have h : PapOk p := ⟨fun x hx => lit_wf (w2' x hx), lit_wf w3, fun x hx y hy => lit_wf ((w4' x hx).2 y hy), fun x hx => lit_wf (w5' x hx)⟩
  have hm : ∀ x ∈ p.2.2.2.1, x.length ≤ maxLen := fun x hx => (w4' x hx).1
  rw [impl_eq]; unfold F0
  rw [laws_szPaper.law _ _ (by omega) (by omega) w2 w4 hm w5, Option.bind_some]
  by_cases hs : szPap p ≤ 1048576
  rotate_left
  · have : less 1048576 (szPap p) < 0 := by unfold less; split <;> omega
    rw [decide_eq_true this]; rfl
  have : ¬ less 1048576 (szPap p) < 0 := by unfold less; split <;> omega
  rw [decide_eq_false this, cond_false, laws_toPaper.law _ hs]
  obtain ⟨k, set, steps, states, rules⟩ := p
  simp only [Option.bind_some, spec_PaperText.law _ hs h, impl_PaperText.law _ hs h, L10_eq, F10, laws_toPaper.law _ hs, laws_eqPaper.law _ _ hs]
  simp
end laws_FnExactPaperText
end Go.Proofs.YtambmmpilakgoaaDoorB
