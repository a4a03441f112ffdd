/- The plain law: what the functions compute, in plain Lean. -/
import Derived.Test.YtgagmcbeobkfoaaKFnExactPushed
import Derived.Test.YtgagmcbeobkfoaaP0
set_option linter.unusedVariables false
set_option maxRecDepth 10000
namespace Go.Proofs.YtgagmcbeobkfoaaB
open Go
/-! ### lists of Time: eq, mark, held, size, copy -/
namespace laws_szTimeS
theorem law (xs : List I4) (l : Int) (h0 : 0 ≤ l) (hl : l ≤ 1048576) (hx : xs.length ≤ maxLen) : impl (xs, l, ()) = some (if l - xs.length < 0 then -1 else l - xs.length, ()) := by
  have : wI (l - xs.length) = l - xs.length := wI_small (by simp [maxLen] at hx; omega) (by omega)
  rw [impl_eq]; unfold F0
  rw [this]
  by_cases h : l - (xs.length : Int) < 0 <;> simp [h]
end laws_szTimeS
namespace laws_toTime
theorem law (x : I4) : impl (x, ()) = some (x, ()) := rfl
end laws_toTime
namespace laws_toTimeS
theorem law (xs : List I4) (hx : xs.length ≤ 1048576) : impl (xs, ()) = some (xs, ()) := by
  rw [impl_eq]; unfold F0
  have : (decide (0 ≤ (xs.length : Int)) && decide ((xs.length : Int) ≤ (xs.length : Int)) && decide ((xs.length : Int) * 32 ≤ 140737488355328)) = true := by
    simp; omega
  rw [this, cond_true]
  have h := up_copy (R := PO) xs (0, 0, 0, 0) id (fun i r => L3 (xs, (i : Int), r, ())) (fun r => (r, ())) (fun i r hi hr => by
    show L3 _ = _
    rw [L3_eq]; unfold F3
    rw [lt_len, inb_true hi, laws_toTime.law, inb_true (by omega), wI_succ (by omega), Option.bind_some, Int.toNat_natCast]
    simp only [hi, decide_true, cond_true, id]) (fun r hr => by
    show L3 _ = _
    rw [L3_eq]; unfold F3
    simp) (List.replicate xs.length (0, 0, 0, 0)) (by simp)
  simpa using h
end laws_toTimeS
namespace laws_eqTime
theorem law (x y : I4) : impl (x, y, ()) = some (decide (x = y), ()) := by
  obtain ⟨a, b, c, d⟩ := x
  obtain ⟨a', b', c', d'⟩ := y
  rw [impl_eq]; unfold F0
  simp only [cond_ret]
  congr 2
  rw [Bool.eq_iff_iff]
  simp only [cond_iff, bne_iff_ne, decide_eq_true_eq, Prod.mk.injEq, ne_eq, Bool.false_eq_true, and_false, and_true, false_or]
  omega
end laws_eqTime
namespace laws_eqTimeS
theorem law (xs ys : List I4) (hx : xs.length ≤ 1048576) : impl (xs, ys, ()) = some (decide (xs = ys), ()) := by
  rw [impl_eq]; unfold F0
  by_cases hl : xs.length = ys.length
  · have : ((xs.length : Int) != (ys.length : Int)) = false := by simp [hl]
    rw [this, cond_false]
    have h := up_all (R := PO) (fun i => L4 (xs, ys, (i : Int), ())) xs.length (fun i => decide (xs.getD i (0, 0, 0, 0) = ys.getD i (0, 0, 0, 0))) (false, ()) (true, ()) (fun i hi => by
      show L4 _ = _
      rw [L4_eq]; unfold F4
      rw [lt_len]
      simp only [hi, decide_true, cond_true]
      rw [L6_eq]; unfold F6
      rw [inb_true hi, inb_true (by omega), laws_eqTime.law, wI_succ (by omega), Option.bind_some, Int.toNat_natCast]
      simp only [cond_true]
      cases decide (xs.getD i (0, 0, 0, 0) = ys.getD i (0, 0, 0, 0)) <;> rfl) (by
      show L4 _ = _
      rw [L4_eq]; unfold F4; simp) xs.length 0 (by omega)
    rw [eq_all hl] at h
    refine (show _ = _ from h).trans ?_
    cases decide (xs = ys) <;> rfl
  · have : ((xs.length : Int) != (ys.length : Int)) = true := by
      simp; omega
    rw [this, cond_true, decide_eq_false (fun e => hl (by rw [e]))]
end laws_eqTimeS
namespace laws_markTimeS
theorem law (xs : List I4) (k : Nat) (hx : xs.length ≤ 1048576 * 32) (hk : k ≤ 1048576 * 1024) : impl ((k : Int), xs, ()) = some ((k : Int) + 4 * xs.length, marks k 0 xs.length, ()) := by
  rw [impl_eq]; unfold F0
  have key : ∀ d i (r : List I4), i + d = xs.length → r.length = xs.length → r.take i = marks k 0 i → L2 ((k : Int) + 4 * i, (i : Int), r, ()) = some ((k : Int) + 4 * xs.length, marks k 0 xs.length, ()) := by
    intro d
    induction d with
    | zero =>
      intro i r hi hr ht
      have : i = xs.length := by omega
      subst this
      rw [L2_eq]; unfold F2
      rw [List.take_of_length_le (by omega)] at ht
      simp [hr, ht]
    | succ d ih =>
      intro i r hi hr ht
      have hlt : i < r.length := by omega
      rw [L2_eq]; unfold F2
      simp only [List.length_set, lt_len, inb_true hlt, hlt, decide_true, cond_true, Int.toNat_natCast, List.set_set]
      rw [wI_small (n := (k : Int) + 4 * i + 1) (by omega) (by omega), wI_small (n := (k : Int) + 4 * i + 1 + 1) (by omega) (by omega), wI_small (n := (k : Int) + 4 * i + 1 + 1 + 1) (by omega) (by omega), wI_small (n := (k : Int) + 4 * i + 1 + 1 + 1 + 1) (by omega) (by omega), wI_succ (by omega)]
      have e1 : (k : Int) + 4 * i + 1 + 1 + 1 + 1 = (k : Int) + 4 * ((i + 1 : Nat) : Int) := by omega
      rw [e1]
      have hg : ∀ v : I4, (r.set i v).getD i (0, 0, 0, 0) = v := fun v => by rw [List.getD_eq_getElem?_getD]; simp [hlt]
      simp only [hg]
      refine ih (i + 1) _ (by omega) (by simp [hr]) ?_
      rw [marks_succ, ← ht]
      apply List.ext_getElem?
      intro j
      rcases Nat.lt_trichotomy j i with h | h | h
      · rw [List.getElem?_append_left (by simp; omega), List.getElem?_take_of_lt (by omega), List.getElem?_take_of_lt h, List.getElem?_set_ne (by omega)]
      · subst h
        rw [List.getElem?_append_right (by simp; omega)]
        have : min j r.length = j := by omega
        simp [List.getElem?_take_of_lt, hlt, this, mark4]
        omega
      · rw [List.getElem?_eq_none (by simp; omega), List.getElem?_eq_none (by simp; omega)]
  have := key xs.length 0 xs (by omega) rfl (by simp [marks])
  simpa using this
end laws_markTimeS
namespace laws_heldTimeS
theorem law (k n : Nat) (hn : n ≤ 1048576 * 32) (hk : k ≤ 1048576 * 1024) : impl (marks k 0 n, (k : Int), ()) = some ((k : Int) + 4 * n, ()) := by
  rw [impl_eq]; unfold F0
  have key : ∀ d i, i + d = n → L2 (marks k 0 n, (k : Int) + 4 * i, (i : Int), ()) = some ((k : Int) + 4 * n, ()) := by
    intro d
    induction d with
    | zero =>
      intro i hi
      have : i = n := by omega
      subst this
      rw [L2_eq]; unfold F2
      simp
    | succ d ih =>
      intro i hi
      have hlt : i < (marks k 0 n).length := by simp; omega
      rw [L2_eq]; unfold F2
      simp only [lt_len, inb_true hlt, hlt, decide_true, cond_true, Int.toNat_natCast]
      rw [wI_small (n := (k : Int) + 4 * i + 1) (by omega) (by omega), wI_small (n := (k : Int) + 4 * i + 1 + 1) (by omega) (by omega), wI_small (n := (k : Int) + 4 * i + 1 + 1 + 1) (by omega) (by omega), wI_small (n := (k : Int) + 4 * i + 1 + 1 + 1 + 1) (by omega) (by omega), wI_succ (by omega)]
      have e1 : (k : Int) + 4 * i + 1 + 1 + 1 + 1 = (k : Int) + 4 * ((i + 1 : Nat) : Int) := by omega
      rw [e1, marks_get (by simpa using hlt)]
      have e2 : mark4 k (0 + i) = ((k : Int) + 4 * i, (k : Int) + 4 * i + 1, (k : Int) + 4 * i + 1 + 1, (k : Int) + 4 * i + 1 + 1 + 1) := by simp [mark4]; omega
      rw [e2]
      simp only [bne_self_eq_false, cond_false]
      exact ih (i + 1) (by omega)
  have := key n 0 (by omega)
  simpa using this
end laws_heldTimeS
/-! ### The plain law of Pushed -/
namespace spec_l1In
theorem law (x a b : Int) : impl (x, a, b, ()) = some (in3 x a b, ()) := by
  rw [impl_eq]; unfold F0
  rw [cond_ret]
  congr 2
  rw [Bool.eq_iff_iff, in3_iff]
  simp only [cond_iff, decide_eq_true_eq, Bool.false_eq_true, and_false, or_false]
end spec_l1In
namespace impl_in
theorem law (x a b : Int) : impl (x, a, b, ()) = some (in3 x a b, ()) := by
  rw [impl_eq]; unfold F0
  rw [cond_ret]
  congr 2
  rw [Bool.eq_iff_iff, in3_iff]
  simp only [cond_iff, decide_eq_true_eq, Bool.false_eq_true, and_false, or_false]
end impl_in
namespace spec_l20One
theorem law (x : Int) : impl (x, ()) = some (x == 2 || x == 5, ()) := by
  rw [impl_eq]; unfold F0
  cases h : x == 2 <;> simp
end spec_l20One

/-- a step of a formula of time -/
def TimeStep (t : I4) (i facts : Int) : Prop :=
  (t.1 = 0 ∧ t.2.1 = 0 ∧ t.2.2.1 = 0 ∧ t.2.2.2 = 0) ∨ (t.1 = 1 ∧ 0 ≤ t.2.1 ∧ t.2.1 ≤ facts - 1 ∧ t.2.2.1 = 0 ∧ t.2.2.2 = 0) ∨
  (2 ≤ t.1 ∧ t.1 ≤ 7 ∧ t.2.1 = 0 ∧ 0 ≤ t.2.2.1 ∧ t.2.2.1 ≤ i - 1 ∧ 0 ≤ t.2.2.2 ∧ t.2.2.2 ≤ i - 1 ∧ (t.1 = 2 ∨ t.1 = 5 → t.2.2.2 = t.2.2.1))
instance (t : I4) (i facts : Int) : Decidable (TimeStep t i facts) := by unfold TimeStep; infer_instance
def timesOK (xs : List I4) (facts : Int) : Bool := in3 facts 0 4 && (in3 xs.length 1 24 && (List.range' 0 xs.length).all fun i => decide (TimeStep (xs.getD i (0, 0, 0, 0)) i facts))

namespace spec_l20Step
theorem law (t : I4) (i facts : Int) (hi : 0 ≤ i ∧ i ≤ 1048576) (hf : 0 ≤ facts ∧ facts ≤ 1048576) : impl (t, i, facts, ()) = some (decide (TimeStep t i facts), ()) := by
  obtain ⟨op, n, a, b⟩ := t
  rw [impl_eq]; unfold F0
  simp only [spec_l1In.law, spec_l20One.law, Option.bind_some, wI_small (n := i - 1) (by omega) (by omega), wI_small (n := facts - 1) (by omega) (by omega), cond_ret]
  congr 2
  rw [Bool.eq_iff_iff]
  rw [decide_eq_true_eq]
  simp only [TimeStep, cond_iff, not_iff, in3_iff, beq_iff_eq, bne_iff_ne, ne_eq, Bool.or_eq_true, Bool.false_eq_true, and_true, and_false, or_false, false_or, Decidable.not_not]
  omega
end spec_l20Step
namespace spec_TimesValid
theorem law (xs : List I4) (facts : Int) : impl (xs, facts, ()) = some (timesOK xs facts, ()) := by
  rw [impl_eq]; unfold F0
  simp only [spec_l1In.law, Option.bind_some]
  unfold timesOK
  cases h1 : in3 facts 0 4 with
  | false => rfl
  | true => cases h2 : in3 xs.length 1 24 with
    | false => rfl
    | true =>
      rw [in3_iff] at h1 h2
      have h := up_all (R := PO) (fun i => L4 (xs, facts, (i : Int), ())) xs.length (fun i => decide (TimeStep (xs.getD i (0, 0, 0, 0)) i facts)) (false, ()) (true, ()) (fun i hi => by
        show L4 _ = _
        rw [L4_eq]; unfold F4
        rw [lt_len, inb_true hi, Int.toNat_natCast, spec_l20Step.law _ _ _ (by omega) (by omega), wI_succ (by omega), Option.bind_some]
        simp only [hi, decide_true, cond_true]
        cases decide (TimeStep (xs.getD i (0, 0, 0, 0)) i facts) <;> rfl) (by
        show L4 _ = _
        rw [L4_eq]; unfold F4; simp) xs.length 0 (by omega)
      simp only [Bool.not_true, cond_false, Bool.true_and]
      refine (show _ = _ from h).trans ?_
      cases (List.range' 0 xs.length).all _ <;> rfl
end spec_TimesValid
namespace impl_TimesValid
theorem law (xs : List I4) (facts : Int) : impl (xs, facts, ()) = some (timesOK xs facts, ()) := by
  rw [impl_eq]; unfold F0
  simp only [impl_in.law, Option.bind_some]
  unfold timesOK
  cases h1 : in3 facts 0 4 with
  | false => rfl
  | true => cases h2 : in3 xs.length 1 24 with
    | false => rfl
    | true =>
      rw [in3_iff] at h1 h2
      have h := up_all (R := PO) (fun i => L4 (facts, xs, (xs.length : Int), (i : Int), ())) xs.length (fun i => decide (TimeStep (xs.getD i (0, 0, 0, 0)) i facts)) (false, ()) (true, ()) (fun i hi => by
        show L4 _ = _
        rw [L4_eq]; unfold F4
        rw [lt_len, inb_true hi, wI_succ (by omega), Int.toNat_natCast, wI_small (n := (i : Int) - 1) (by omega) (by omega), wI_small (n := facts - 1) (by omega) (by omega)]
        simp only [hi, decide_true, cond_true, impl_in.law, Option.bind_some]
        generalize xs.getD i (0, 0, 0, 0) = t
        obtain ⟨op, n, a, b⟩ := t
        generalize L4 (facts, xs, (xs.length : Int), ((i + 1 : Nat) : Int), ()) = z
        by_cases g : TimeStep (op, n, a, b) i facts
        · simp only [decide_eq_true g, cond_true]
          unfold TimeStep at g
          simp only at g
          rcases g with g | g | g
          · simp [g]
          · have : in3 n 0 (facts - 1) = true := in3_iff.2 ⟨g.2.1, g.2.2.1⟩
            simp [g.1, g.2.2.2, this]
          · have e1 : in3 op 0 7 = true := in3_iff.2 ⟨by omega, by omega⟩
            have e2 : in3 a 0 (i - 1) = true := in3_iff.2 ⟨by omega, by omega⟩
            have e3 : in3 b 0 (i - 1) = true := in3_iff.2 ⟨by omega, by omega⟩
            have e4 : (op == 0) = false := by simp; omega
            have e5 : (op == 1) = false := by simp; omega
            have e6 : (n == 0) = true := by simp; omega
            simp only [e1, e2, e3, e4, e5, e6, cond_true, cond_false]
            cases e7 : a == b with
            | true => rfl
            | false =>
              have e7' : ¬ a = b := by simpa using e7
              have e8 : (op != 2) = true := by simp; omega
              have e9 : (op != 5) = true := by simp; omega
              simp only [e8, e9, cond_true, cond_false, Bool.not_true]
        · rw [decide_eq_false g, cond_false]
          unfold TimeStep at g
          simp only at g
          cases e4 : op == 0 with
          | true =>
            have e4' : op = 0 := by simpa using e4
            cases e : ((true && ((n == 0) && ((a == 0) && (b == 0))))) with
            | false => rfl
            | true =>
              simp only [Bool.and_eq_true, beq_iff_eq] at e
              omega
          | false =>
            have e4' : ¬ op = 0 := by simpa using e4
            rw [cond_false]
            cases e5 : op == 1 with
            | true =>
              have e5' : op = 1 := by simpa using e5
              rw [cond_true]
              cases e1 : in3 n 0 (facts - 1) with
              | false => rfl
              | true =>
                rw [in3_iff] at e1
                rw [cond_true]
                cases e2 : a == 0 with
                | false => rfl
                | true =>
                  have e2' : a = 0 := by simpa using e2
                  cases e3 : b == 0 with
                  | false => rfl
                  | true =>
                    have e3' : b = 0 := by simpa using e3
                    omega
            | false =>
              have e5' : ¬ op = 1 := by simpa using e5
              rw [cond_false]
              cases e1 : in3 op 0 7 with
              | false => rfl
              | true => cases e2 : n == 0 with
                | false => rfl
                | true => cases e3 : in3 a 0 (i - 1) with
                  | false => rfl
                  | true => cases e6 : in3 b 0 (i - 1) with
                    | false => rfl
                    | true =>
                      rw [in3_iff] at e1 e3 e6
                      have e2' : n = 0 := by simpa using e2
                      have e7 : (a == b) = false := by simp; omega
                      have e8 : op = 2 ∨ op = 5 := by omega
                      rw [e7]
                      rcases e8 with rfl | rfl <;> rfl) (by
        show L4 _ = _
        rw [L4_eq]; unfold F4; simp) xs.length 0 (by omega)
      simp only [Bool.not_true, cond_false, Bool.true_and]
      refine (show _ = _ from h).trans ?_
      cases (List.range' 0 xs.length).all _ <;> rfl
end impl_TimesValid

/-! what is put -/
def atI (out : List I4) (t : I4) : Nat := out.findIdx fun x => decide (x = t)
def put (out : List I4) (t : I4) : List I4 × Nat := (if atI out t < out.length then out else out ++ [t], atI out t)
theorem atI_here {out : List I4} {t : I4} {i : Nat} (hi : i < out.length) (h : out.getD i (0, 0, 0, 0) = t) (hb : ∀ j, j < i → out.getD j (0, 0, 0, 0) ≠ t) : atI out t = i := by
  unfold atI
  rw [List.findIdx_eq hi]
  rw [getD_eq hi] at h
  refine ⟨by simp [h], fun j hj => ?_⟩
  have := hb j hj
  rw [getD_eq (by omega)] at this
  simp [this]
theorem atI_not {out : List I4} {t : I4} (hb : ∀ j, j < out.length → out.getD j (0, 0, 0, 0) ≠ t) : atI out t = out.length := by
  unfold atI
  rw [List.findIdx_eq_length]
  intro x hx
  obtain ⟨j, hj, rfl⟩ := List.getElem_of_mem hx
  have := hb j hj
  rw [getD_eq hj] at this
  simp [this]
theorem atI_le (out : List I4) (t : I4) : atI out t ≤ out.length := List.findIdx_le_length
theorem atI_get {out : List I4} {t : I4} (h : atI out t < out.length) : out.getD (atI out t) (0, 0, 0, 0) = t := by
  rw [getD_eq h]
  unfold atI at h ⊢
  have := List.findIdx_getElem (xs := out) (p := fun x => decide (x = t)) (w := h)
  simpa using this
theorem beq4 {x y : I4} : ((x.1 == y.1) && ((x.2.1 == y.2.1) && ((x.2.2.1 == y.2.2.1) && (x.2.2.2 == y.2.2.2)))) = decide (x = y) := by
  obtain ⟨a, b, c, d⟩ := x
  obtain ⟨a', b', c', d'⟩ := y
  rw [Bool.eq_iff_iff]
  simp

namespace spec_l20Put
theorem law (t : I4) (out : List I4) (hl : (out.length + 1) * 32 ≤ 140737488355328) : impl (t, out, ()) = some (((put out t).2 : Int), (put out t).1, ()) := by
  rw [impl_eq]; unfold F0
  have key : ∀ d i, i + d = out.length → (∀ j, j < i → out.getD j (0, 0, 0, 0) ≠ t) → L2 ((i : Int), out, t.1, t.2.1, t.2.2.1, t.2.2.2, ()) = some (((put out t).2 : Int), (put out t).1, ()) := by
    intro d
    induction d with
    | zero =>
      intro i hi hb
      have : i = out.length := by omega
      subst this
      have h0 := atI_not hb
      rw [L2_eq]; unfold F2
      simp [put, h0, hl]
    | succ d ih =>
      intro i hi hb
      have hlt : i < out.length := by omega
      rw [L2_eq]; unfold F2
      rw [lt_len]
      simp only [hlt, decide_true, cond_true]
      rw [L4_eq]; unfold F4
      rw [inb_true hlt, cond_true, Int.toNat_natCast, beq4 (y := (t.1, t.2.1, t.2.2.1, t.2.2.2)), wI_succ (by omega)]
      by_cases h : out.getD i (0, 0, 0, 0) = t
      · rw [decide_eq_true (show _ = _ from h), cond_true]
        have := atI_here hlt h hb
        simp [put, this, hlt]
      · rw [decide_eq_false (show ¬ _ = _ from h), cond_false]
        refine ih (i + 1) (by omega) fun j hj => ?_
        rcases Nat.lt_or_ge j i with h1 | h1
        · exact hb j h1
        · have : j = i := by omega
          rw [this]; exact h
  exact key out.length 0 (by omega) fun j hj => by omega
end spec_l20Put
namespace slices_Index_of
theorem law (t : I4) (out : List I4) (hl : (out.length + 1) * 32 ≤ 140737488355328) : impl (out, t, ()) = some (if atI out t < out.length then (atI out t : Int) else -1, ()) := by
  rw [impl_eq]; unfold F0
  have key : ∀ d i, i + d = out.length → (∀ j, j < i → out.getD j (0, 0, 0, 0) ≠ t) → L2 (out, (out.length : Int), (i : Int), t.1, t.2.1, t.2.2.1, t.2.2.2, ()) = some (if atI out t < out.length then (atI out t : Int) else -1, ()) := by
    intro d
    induction d with
    | zero =>
      intro i hi hb
      have : i = out.length := by omega
      subst this
      have h0 := atI_not hb
      rw [L2_eq]; unfold F2
      simp [h0]
    | succ d ih =>
      intro i hi hb
      have hlt : i < out.length := by omega
      rw [L2_eq]; unfold F2
      rw [lt_len]
      simp only [hlt, decide_true, cond_true]
      rw [L4_eq]; unfold F4
      rw [inb_true hlt, cond_true, Int.toNat_natCast, beq4 (x := (t.1, t.2.1, t.2.2.1, t.2.2.2)), wI_succ (by omega)]
      by_cases h : t = out.getD i (0, 0, 0, 0)
      · rw [decide_eq_true (show _ = _ from h), cond_true]
        have := atI_here hlt h.symm hb
        simp [this, hlt]
      · rw [decide_eq_false (show ¬ _ = _ from h), cond_false]
        refine ih (i + 1) (by omega) fun j hj => ?_
        rcases Nat.lt_or_ge j i with h1 | h1
        · exact hb j h1
        · have : j = i := by omega
          rw [this]; exact fun e => h e.symm
  exact key out.length 0 (by omega) fun j hj => by omega
end slices_Index_of
namespace impl_pushing_put
theorem law (t : I4) (xs out : List I4) (hl : (out.length + 1) * 32 ≤ 140737488355328) : impl (t, xs, out, ()) = some (((put out t).2 : Int), xs, (put out t).1, ()) := by
  rw [impl_eq]; unfold F0
  rw [L1_eq]; unfold F1
  rw [slices_Index_of.law _ _ hl, Option.bind_some]
  by_cases h : atI out t < out.length
  · simp [h, put]
  · have := atI_le out t
    have e : atI out t = out.length := by omega
    simp only [h, if_false]
    rw [show decide ((-1 : Int) ≥ 0) = false by rfl, cond_false, L4_eq]; unfold F4
    simp [put, e, hl]
    exact wI_small (by omega) (by omega)
end impl_pushing_put
theorem put_len (out : List I4) (t : I4) : out.length ≤ (put out t).1.length ∧ (put out t).1.length ≤ out.length + 1 ∧ (put out t).2 < (put out t).1.length := by
  unfold put
  have := atI_le out t
  by_cases h : atI out t < out.length
  · simp [h]
  · simp [h]; omega

def turned (op : Int) : Int := if op = 3 then 4 else if op = 4 then 3 else if op = 6 then 7 else if op = 7 then 6 else op
/-- a step with all that it is made of, put behind what there is -/
def push (xs : List I4) : Nat → Nat → Bool → List I4 → List I4 × Nat
  | 0, _, _, out => (out, 0)
  | f + 1, i, neg, out =>
    let t := xs.getD i (0, 0, 0, 0)
    if t.1 = 2 then push xs f t.2.2.1.toNat (!neg) out
    else if t.1 ≤ 1 then (if neg then put (put out t).1 (2, 0, (put out t).2, (put out t).2) else put out t)
    else
      let one := push xs f t.2.2.1.toNat neg out
      let op := if neg then turned t.1 else t.1
      if t.1 = 5 then put one.1 (op, 0, one.2, one.2)
      else let two := push xs f t.2.2.2.toNat neg one.1
        put two.1 (op, 0, one.2, two.2)

/-- the steps are in order -/
def Steps (xs : List I4) : Prop := ∀ i, i < xs.length → ∃ facts, TimeStep (xs.getD i (0, 0, 0, 0)) i facts

theorem push_len {xs : List I4} (hv : Steps xs) : ∀ f i neg out, i < f → i < xs.length → out.length ≤ (push xs f i neg out).1.length ∧ (push xs f i neg out).1.length ≤ out.length + 3 ^ (i + 1) ∧ (push xs f i neg out).2 < (push xs f i neg out).1.length
  | 0, i, neg, out, hf, hi => by omega
  | f + 1, i, neg, out, hf, hi => by
    obtain ⟨facts, hs⟩ := hv i hi
    unfold push
    simp only
    generalize xs.getD i (0, 0, 0, 0) = t at hs
    obtain ⟨op, n, a, b⟩ := t
    unfold TimeStep at hs
    simp only at hs ⊢
    have h3 : 3 ^ (i + 1) = 3 ^ i + 3 ^ i + 3 ^ i := by rw [Nat.pow_succ]; omega
    have h0 : 0 < 3 ^ i := Nat.pow_pos (by omega)
    have hp : ∀ c : Nat, c < i → 3 ^ (c + 1) ≤ 3 ^ i := fun c hc => Nat.pow_le_pow_right (by omega) (by omega)
    by_cases h2 : op = 2
    · rw [if_pos h2]
      have := push_len hv f a.toNat (!neg) out (by omega) (by omega)
      have := hp a.toNat (by omega)
      omega
    · rw [if_neg h2]
      by_cases h1 : op ≤ 1
      · rw [if_pos h1]
        have e1 := put_len out (op, n, a, b)
        by_cases hn : neg
        · rw [if_pos hn]
          have e2 := put_len (put out (op, n, a, b)).1 (2, 0, ((put out (op, n, a, b)).2 : Int), ((put out (op, n, a, b)).2 : Int))
          omega
        · rw [if_neg hn]; omega
      · rw [if_neg h1]
        have e1 := push_len hv f a.toNat neg out (by omega) (by omega)
        have g1 := hp a.toNat (by omega)
        by_cases h5 : op = 5
        · rw [if_pos h5]
          have e2 := put_len (push xs f a.toNat neg out).1 (if neg then turned op else op, 0, ((push xs f a.toNat neg out).2 : Int), ((push xs f a.toNat neg out).2 : Int))
          omega
        · rw [if_neg h5]
          have e2 := push_len hv f b.toNat neg (push xs f a.toNat neg out).1 (by omega) (by omega)
          have g2 := hp b.toNat (by omega)
          have e3 := put_len (push xs f b.toNat neg (push xs f a.toNat neg out).1).1 (if neg then turned op else op, 0, ((push xs f a.toNat neg out).2 : Int), ((push xs f b.toNat neg (push xs f a.toNat neg out).1).2 : Int))
          omega

namespace spec_l20Turned
theorem law (op : Int) (h : 2 ≤ op ∧ op ≤ 7 ∧ op ≠ 2) : impl (op, ()) = some (turned op, ()) := by
  have : op = 3 ∨ op = 4 ∨ op = 5 ∨ op = 6 ∨ op = 7 := by omega
  rw [impl_eq]
  rcases this with rfl | rfl | rfl | rfl | rfl <;> rfl
end spec_l20Turned
theorem turned_five {op : Int} (h : 2 ≤ op ∧ op ≤ 7) : (turned op == 5) = (op == 5) := by
  have : op = 2 ∨ op = 3 ∨ op = 4 ∨ op = 5 ∨ op = 6 ∨ op = 7 := by omega
  rcases this with rfl | rfl | rfl | rfl | rfl | rfl <;> rfl
def big24 : Nat := 3 ^ 24
theorem big24_le {n : Nat} (h : n ≤ big24) : (n + 1) * 32 ≤ 140737488355328 := by unfold big24 at h; omega

namespace spec_l20Push
theorem law {xs : List I4} (hv : Steps xs) : ∀ f i neg out, i < f → i < xs.length → out.length + 3 ^ (i + 1) ≤ big24 → impl (xs, (i : Int), neg, out, ()) = some (((push xs f i neg out).2 : Int), (push xs f i neg out).1, ())
  | 0, i, neg, out, hf, hi, hb => by omega
  | f + 1, i, neg, out, hf, hi, hb => by
    obtain ⟨facts, hs⟩ := hv i hi
    rw [impl_eq]; unfold F0 push
    rw [inb_true hi, Int.toNat_natCast, cond_true]
    simp only
    generalize xs.getD i (0, 0, 0, 0) = t at hs
    obtain ⟨op, n, a, b⟩ := t
    unfold TimeStep at hs
    simp only at hs ⊢
    have h3 : 3 ^ (i + 1) = 3 ^ i + 3 ^ i + 3 ^ i := by rw [Nat.pow_succ]; omega
    have h0 : 0 < 3 ^ i := Nat.pow_pos (by omega)
    have hp : ∀ c : Nat, c < i → 3 ^ (c + 1) ≤ 3 ^ i := fun c hc => Nat.pow_le_pow_right (by omega) (by omega)
    by_cases h2 : op = 2
    · have ea : a = (a.toNat : Int) := by omega
      have := hp a.toNat (by omega)
      rw [if_pos h2, show (op == 2) = true by simpa using h2, cond_true, ea, law hv f a.toNat (!neg) out (by omega) (by omega) (by omega)]
      rw [Option.bind_some, ← ea]
    · rw [if_neg h2, show (op == 2) = false by simpa using h2, cond_false]
      by_cases h1 : op ≤ 1
      · rw [if_pos h1, decide_eq_true h1, cond_true]
        have e1 := put_len out (op, n, a, b)
        rw [spec_l20Put.law _ out (big24_le (by omega)), Option.bind_some]
        cases neg with
        | true =>
          simp only [cond_true, if_true]
          rw [spec_l20Put.law _ (put out (op, n, a, b)).1 (big24_le (by omega)), Option.bind_some]
        | false => rfl
      · rw [if_neg h1, decide_eq_false h1, cond_false]
        have ea : a = (a.toNat : Int) := by omega
        have eb : b = (b.toNat : Int) := by omega
        have g1 := hp a.toNat (by omega)
        have g2 := hp b.toNat (by omega)
        have e1 := push_len hv f a.toNat neg out (by omega) (by omega)
        have e2 := push_len hv f b.toNat neg (push xs f a.toNat neg out).1 (by omega) (by omega)
        have l1 := law hv f a.toNat neg out (by omega) (by omega) (by omega)
        have l2 := law hv f b.toNat neg (push xs f a.toNat neg out).1 (by omega) (by omega) (by omega)
        rw [← ea] at l1
        rw [← eb] at l2
        have fin : ∀ op' : Int, (op' == 5) = (op == 5) → L12 impl (xs, neg, op', out, op, n, a, b, ()) = some
            (((if op = 5 then put (push xs f a.toNat neg out).1 (op', 0, ((push xs f a.toNat neg out).2 : Int), ((push xs f a.toNat neg out).2 : Int)) else
              put (push xs f b.toNat neg (push xs f a.toNat neg out).1).1 (op', 0, ((push xs f a.toNat neg out).2 : Int), ((push xs f b.toNat neg (push xs f a.toNat neg out).1).2 : Int))).2 : Int),
             (if op = 5 then put (push xs f a.toNat neg out).1 (op', 0, ((push xs f a.toNat neg out).2 : Int), ((push xs f a.toNat neg out).2 : Int)) else
              put (push xs f b.toNat neg (push xs f a.toNat neg out).1).1 (op', 0, ((push xs f a.toNat neg out).2 : Int), ((push xs f b.toNat neg (push xs f a.toNat neg out).1).2 : Int))).1, ()) := by
          intro op' hop
          rw [L12_eq]; unfold F12
          rw [l1, Option.bind_some, hop]
          by_cases h5 : op = 5
          · rw [if_pos h5, show (op == 5) = true by simpa using h5, cond_true, spec_l20Put.law _ (push xs f a.toNat neg out).1 (big24_le (by omega)), Option.bind_some]
          · rw [if_neg h5, show (op == 5) = false by simpa using h5, cond_false, l2, Option.bind_some, spec_l20Put.law _ (push xs f b.toNat neg (push xs f a.toNat neg out).1).1 (big24_le (by omega)), Option.bind_some]
        cases neg with
        | true =>
          simp only [cond_true, if_true]
          rw [spec_l20Turned.law op (by omega), Option.bind_some]
          exact fin _ (turned_five (by omega))
        | false =>
          simp only [cond_false, Bool.false_eq_true, if_false]
          exact fin _ rfl
end spec_l20Push

namespace impl_pushing_of
theorem law {xs : List I4} (hv : Steps xs) : ∀ f i neg out, i < f → i < xs.length → out.length + 3 ^ (i + 1) ≤ big24 → ∃ o n, impl ((i : Int), neg, xs, out, ()) = some (n, xs, o, ()) ∧
    ((push xs f i neg out).1.length ≤ 24 → o = (push xs f i neg out).1 ∧ n = ((push xs f i neg out).2 : Int)) ∧ (24 < (push xs f i neg out).1.length → 24 < o.length) ∧ o.length ≤ out.length + 3 ^ (i + 1)
  | 0, i, neg, out, hf, hi, hb => by omega
  | f + 1, i, neg, out, hf, hi, hb => by
    have hlen := push_len hv (f + 1) i neg out hf hi
    obtain ⟨facts, hs⟩ := hv i hi
    rw [impl_eq]; unfold F0
    by_cases hbig : 24 < out.length
    · rw [decide_eq_true (by omega), cond_true]
      exact ⟨out, 0, rfl, fun h => by omega, fun _ => hbig, by omega⟩
    · rw [decide_eq_false (by omega), cond_false]
      clear hlen
      unfold push
      rw [inb_true hi, Int.toNat_natCast, cond_true]
      simp only
      generalize xs.getD i (0, 0, 0, 0) = t at hs
      obtain ⟨op, n, a, b⟩ := t
      unfold TimeStep at hs
      simp only at hs ⊢
      have h3 : 3 ^ (i + 1) = 3 ^ i + 3 ^ i + 3 ^ i := by rw [Nat.pow_succ]; omega
      have h0 : 0 < 3 ^ i := Nat.pow_pos (by omega)
      have hp : ∀ c : Nat, c < i → 3 ^ (c + 1) ≤ 3 ^ i := fun c hc => Nat.pow_le_pow_right (by omega) (by omega)
      by_cases h2 : op = 2
      · have ea : a = (a.toNat : Int) := by omega
        have := hp a.toNat (by omega)
        obtain ⟨o, m, e1, e2, e3, e4⟩ := law hv f a.toNat (!neg) out (by omega) (by omega) (by omega)
        rw [if_pos h2, show (op == 2) = true by simpa using h2, cond_true]
        rw [← ea] at e1
        rw [e1]
        exact ⟨o, m, rfl, e2, e3, by omega⟩
      · rw [if_neg h2, show (op == 2) = false by simpa using h2, cond_false]
        by_cases h1 : op ≤ 1
        · rw [if_pos h1]
          have q1 := put_len out (op, n, a, b)
          have q2 := put_len (put out (op, n, a, b)).1 (2, 0, ((put out (op, n, a, b)).2 : Int), ((put out (op, n, a, b)).2 : Int))
          have l1 := impl_pushing_put.law (op, n, a, b) xs out (big24_le (by omega))
          have l2 := impl_pushing_put.law (2, 0, ((put out (op, n, a, b)).2 : Int), ((put out (op, n, a, b)).2 : Int)) xs (put out (op, n, a, b)).1 (big24_le (by omega))
          have h01 : op = 0 ∨ op = 1 := by omega
          refine ⟨(if neg then put (put out (op, n, a, b)).1 (2, 0, ((put out (op, n, a, b)).2 : Int), ((put out (op, n, a, b)).2 : Int)) else put out (op, n, a, b)).1, ((if neg then put (put out (op, n, a, b)).1 (2, 0, ((put out (op, n, a, b)).2 : Int), ((put out (op, n, a, b)).2 : Int)) else put out (op, n, a, b)).2 : Nat), ?_, fun _ => ⟨rfl, rfl⟩, fun h => h, ?_⟩
          · have hone : ∀ y, y = (bif neg then Option.bind (impl_pushing_put.impl ((2, 0, ((put out (op, n, a, b)).2 : Int), ((put out (op, n, a, b)).2 : Int)), xs, (put out (op, n, a, b)).1, ())) fun y2 => some (y2.1, y2.2.1, y2.2.2.1, ()) else some (((put out (op, n, a, b)).2 : Int), xs, (put out (op, n, a, b)).1, ())) → y = (some ((((if neg then put (put out (op, n, a, b)).1 (2, 0, ((put out (op, n, a, b)).2 : Int), ((put out (op, n, a, b)).2 : Int)) else put out (op, n, a, b)).2 : Nat) : Int), xs, (if neg then put (put out (op, n, a, b)).1 (2, 0, ((put out (op, n, a, b)).2 : Int), ((put out (op, n, a, b)).2 : Int)) else put out (op, n, a, b)).1, ()) : Option PO) := by
              rintro y rfl
              cases neg with
              | true => rw [cond_true, l2]; rfl
              | false => rfl
            apply hone
            rcases h01 with rfl | rfl
            · rw [show ((0 : Int) == 0) = true by rfl, cond_true, l1, Option.bind_some]
            · rw [show ((1 : Int) == 0) = false by rfl, cond_false, show ((1 : Int) == 1) = true by rfl, cond_true, l1, Option.bind_some]
          · cases neg <;> simp only [if_true, Bool.false_eq_true, if_false] <;> omega
        · rw [if_neg h1, show (op == 0) = false by simp; omega, cond_false, show (op == 1) = false by simp; omega, cond_false]
          have ea : a = (a.toNat : Int) := by omega
          have eb : b = (b.toNat : Int) := by omega
          have g1 := hp a.toNat (by omega)
          have g2 := hp b.toNat (by omega)
          have q1 := push_len hv f a.toNat neg out (by omega) (by omega)
          have q2 := push_len hv f b.toNat neg (push xs f a.toNat neg out).1 (by omega) (by omega)
          obtain ⟨o1, m1, r1, r2, r3, r4⟩ := law hv f a.toNat neg out (by omega) (by omega) (by omega)
          obtain ⟨o2, m2, s1, s2, s3, s4⟩ := law hv f b.toNat neg o1 (by omega) (by omega) (by omega)
          rw [← ea] at r1
          rw [← eb] at s1
          have l17 : ∀ (x y : Int) (o : List I4), o.length ≤ big24 → L17 impl (neg, x, y, xs, op, n, a, b, o, ()) = some (((put o (if neg then turned op else op, 0, x, y)).2 : Int), xs, (put o (if neg then turned op else op, 0, x, y)).1, ()) := by
            intro x y o ho
            rw [L17_eq]; unfold F17
            cases neg with
            | true =>
              have : mapGet (.int .i64) (.int .i64) (mapPut (.int .i64) (.int .i64) (mapPut (.int .i64) (.int .i64) (mapPut (.int .i64) (.int .i64) (mapPut (.int .i64) (.int .i64) (mapPut (.int .i64) (.int .i64) [] (3 : Int) (4 : Int)) (4 : Int) (3 : Int)) (6 : Int) (7 : Int)) (7 : Int) (6 : Int)) (5 : Int) (5 : Int)) op = turned op := by
                have : op = 3 ∨ op = 4 ∨ op = 5 ∨ op = 6 ∨ op = 7 := by omega
                rcases this with rfl | rfl | rfl | rfl | rfl <;> rfl
              rw [this, cond_true, impl_pushing_put.law _ _ _ (big24_le ho)]
              rfl
            | false =>
              rw [cond_false, impl_pushing_put.law _ _ _ (big24_le ho)]
              rfl
          rw [L13_eq]; unfold F13
          rw [r1, Option.bind_some]
          by_cases h5 : op = 5
          · rw [if_pos h5, show (op != 5) = false by simpa using h5, cond_false]
            simp only
            rw [l17 _ _ _ (by omega)]
            refine ⟨_, _, rfl, fun h => ?_, fun h => ?_, ?_⟩
            · have z := put_len (push xs f a.toNat neg out).1 (if neg then turned op else op, 0, ((push xs f a.toNat neg out).2 : Int), ((push xs f a.toNat neg out).2 : Int))
              obtain ⟨z1, z2⟩ := r2 (by omega)
              rw [z1, z2]
              exact ⟨rfl, rfl⟩
            · have z := put_len o1 (if neg then turned op else op, 0, m1, m1)
              rcases Nat.lt_or_ge 24 (push xs f a.toNat neg out).1.length with c | c
              · have := r3 c
                omega
              · obtain ⟨z1, z2⟩ := r2 c
                rw [z1, z2]; exact h
            · have z := put_len o1 (if neg then turned op else op, 0, m1, m1)
              omega
          · rw [if_neg h5, show (op != 5) = true by simpa using h5, cond_true]
            simp only
            rw [s1, Option.bind_some]
            simp only
            rw [l17 _ _ _ (by omega)]
            have z := put_len (push xs f b.toNat neg (push xs f a.toNat neg out).1).1 (if neg then turned op else op, 0, ((push xs f a.toNat neg out).2 : Int), ((push xs f b.toNat neg (push xs f a.toNat neg out).1).2 : Int))
            have z' := put_len o2 (if neg then turned op else op, 0, m1, m2)
            have mono : o1.length ≤ o2.length ∨ 24 < o1.length := by
              rcases Nat.lt_or_ge 24 o1.length with c | c
              · exact .inr c
              · refine .inl ?_
                have y1 := push_len hv f b.toNat neg o1 (by omega) (by omega)
                rcases Nat.lt_or_ge 24 (push xs f b.toNat neg o1).1.length with c2 | c2
                · have := s3 c2; omega
                · rw [(s2 c2).1]; omega
            refine ⟨_, _, rfl, fun h => ?_, fun h => ?_, by omega⟩
            · obtain ⟨z1, z2⟩ := r2 (by omega)
              rw [z1] at s2
              obtain ⟨z3, z4⟩ := s2 (by omega)
              rw [z2, z3, z4]
              exact ⟨rfl, rfl⟩
            · rcases Nat.lt_or_ge 24 (push xs f a.toNat neg out).1.length with c | c
              · have c2 := r3 c
                have y1 := push_len hv f b.toNat neg o1 (by omega) (by omega)
                have := s3 (by omega)
                omega
              · obtain ⟨z1, z2⟩ := r2 c
                rw [z1] at s2 s3
                rcases Nat.lt_or_ge 24 (push xs f b.toNat neg (push xs f a.toNat neg out).1).1.length with c2 | c2
                · have := s3 c2
                  omega
                · obtain ⟨z3, z4⟩ := s2 c2
                  rw [z2, z3, z4]; exact h
end impl_pushing_of

/-! the last step that is put is the last of all -/
def Closed (out : List I4) : Prop := ∀ j, j < out.length → 2 ≤ (out.getD j (0, 0, 0, 0)).1 → (out.getD j (0, 0, 0, 0)).2.2.1 < j ∧ (out.getD j (0, 0, 0, 0)).2.2.2 < j
theorem put_closed {out : List I4} {t : I4} (h : Closed out) (ht : 2 ≤ t.1 → t.2.2.1 < out.length ∧ t.2.2.2 < out.length) : Closed (put out t).1 := by
  unfold put
  by_cases hi : atI out t < out.length
  · simpa [hi] using h
  · rw [if_neg hi]
    intro j hj h2
    simp only [List.length_append, List.length_cons, List.length_nil] at hj
    rcases Nat.lt_or_ge j out.length with c | c
    · have e : (out ++ [t]).getD j (0, 0, 0, 0) = out.getD j (0, 0, 0, 0) := by simp [List.getD_eq_getElem?_getD, List.getElem?_append_left c]
      rw [e] at h2 ⊢
      exact h j c h2
    · have : j = out.length := by omega
      subst this
      have e : (out ++ [t]).getD out.length (0, 0, 0, 0) = t := by simp [List.getD_eq_getElem?_getD]
      rw [e] at h2 ⊢
      exact ht h2
/-- a step on steps of which one is the last of all is new -/
theorem put_new {out : List I4} {t : I4} (h : Closed out) (h2 : 2 ≤ t.1) (ht : t.2.2.1 + 1 = out.length ∨ t.2.2.2 + 1 = out.length) : (put out t).2 + 1 = (put out t).1.length ∧ out.length < (put out t).1.length := by
  have hn : ¬ atI out t < out.length := by
    intro hi
    have e := atI_get hi
    have := h _ hi (by rw [e]; exact h2)
    rw [e] at this
    omega
  have := atI_le out t
  unfold put
  rw [if_neg hn]
  simp; omega
theorem put_last (out : List I4) (t : I4) : (put out t).1 = out ∨ (put out t).2 + 1 = (put out t).1.length := by
  unfold put
  have := atI_le out t
  by_cases hi : atI out t < out.length
  · exact .inl (if_pos hi)
  · exact .inr (by rw [if_neg hi]; simp; omega)

theorem push_last {xs : List I4} (hv : Steps xs) : ∀ f i neg out, i < f → i < xs.length → Closed out → Closed (push xs f i neg out).1 ∧ ((push xs f i neg out).1 = out ∨ (push xs f i neg out).2 + 1 = (push xs f i neg out).1.length)
  | 0, i, neg, out, hf, hi, hc => by omega
  | f + 1, i, neg, out, hf, hi, hc => by
    obtain ⟨facts, hs⟩ := hv i hi
    unfold push
    simp only
    generalize xs.getD i (0, 0, 0, 0) = t at hs
    obtain ⟨op, n, a, b⟩ := t
    unfold TimeStep at hs
    simp only at hs ⊢
    by_cases h2 : op = 2
    · rw [if_pos h2]
      exact push_last hv f a.toNat (!neg) out (by omega) (by omega) hc
    · rw [if_neg h2]
      by_cases h1 : op ≤ 1
      · rw [if_pos h1]
        have c1 := put_closed (t := (op, n, a, b)) hc (fun h => absurd (show (2 : Int) ≤ op from h) (by omega))
        have q1 := put_len out (op, n, a, b)
        have p1 := put_last out (op, n, a, b)
        by_cases hn : neg
        · rw [if_pos hn]
          refine ⟨put_closed c1 (fun _ => ⟨by simp only; omega, by simp only; omega⟩), ?_⟩
          rcases p1 with p1 | p1
          · rw [p1]; exact put_last _ _
          · exact .inr (put_new c1 (by simp) (.inl (by simp only; omega))).1
        · rw [if_neg hn]; exact ⟨c1, p1⟩
      · rw [if_neg h1]
        have hop : (2 : Int) ≤ if neg then turned op else op := by
          split
          · unfold turned
            split
            · omega
            · split
              · omega
              · split
                · omega
                · split <;> omega
          · omega
        obtain ⟨c1, p1⟩ := push_last hv f a.toNat neg out (by omega) (by omega) hc
        have q1 := push_len hv f a.toNat neg out (by omega) (by omega)
        by_cases h5 : op = 5
        · rw [if_pos h5]
          refine ⟨put_closed c1 (fun _ => ⟨by simp only; omega, by simp only; omega⟩), ?_⟩
          rcases p1 with p1 | p1
          · rw [p1]; exact put_last _ _
          · exact .inr (put_new c1 hop (.inl (by simp only; omega))).1
        · rw [if_neg h5]
          obtain ⟨c2, p2⟩ := push_last hv f b.toNat neg (push xs f a.toNat neg out).1 (by omega) (by omega) c1
          have q2 := push_len hv f b.toNat neg (push xs f a.toNat neg out).1 (by omega) (by omega)
          refine ⟨put_closed c2 (fun _ => ⟨by simp only; omega, by simp only; omega⟩), ?_⟩
          rcases p2 with p2 | p2
          · rw [p2]
            rcases p1 with p1 | p1
            · rw [p1]; exact put_last _ _
            · refine .inr (put_new c1 hop (.inl ?_)).1
              simp only; omega
          · exact .inr (put_new c2 hop (.inr (by simp only; omega))).1

theorem steps_of {xs : List I4} {facts : Int} (h : timesOK xs facts = true) : Steps xs ∧ 1 ≤ xs.length ∧ xs.length ≤ 24 := by
  unfold timesOK at h
  simp only [Bool.and_eq_true, in3_iff, range_all, decide_eq_true_eq] at h
  exact ⟨fun i hi => ⟨facts, h.2.2 i hi⟩, by omega, by omega⟩
/-- what is pushed -/
def pushed (xs : List I4) (facts : Int) : List I4 :=
  if timesOK xs facts = true then (if 24 < (push xs xs.length (xs.length - 1) false []).1.length then [] else (push xs xs.length (xs.length - 1) false []).1) else []
theorem push_all {xs : List I4} {facts : Int} (h : timesOK xs facts = true) : (push xs xs.length (xs.length - 1) false []).2 + 1 = (push xs xs.length (xs.length - 1) false []).1.length := by
  obtain ⟨hs, h1, h2⟩ := steps_of h
  have e1 := push_last hs xs.length (xs.length - 1) false [] (by omega) (by omega) (fun j hj => absurd hj (by simp))
  have e2 := push_len hs xs.length (xs.length - 1) false [] (by omega) (by omega)
  rcases e1.2 with e | e
  · rw [e] at e2; simp at e2
  · exact e
theorem push_big {xs : List I4} {facts : Int} (h : timesOK xs facts = true) : 0 + 3 ^ (xs.length - 1 + 1) ≤ big24 := by
  obtain ⟨hs, h1, h2⟩ := steps_of h
  unfold big24
  have : 3 ^ (xs.length - 1 + 1) ≤ 3 ^ 24 := Nat.pow_le_pow_right (by omega) (by omega)
  omega

namespace spec_Pushed
theorem law (xs : List I4) (facts : Int) : impl (xs, facts, ()) = some (pushed xs facts, ()) := by
  rw [impl_eq]; unfold F0
  rw [spec_TimesValid.law, Option.bind_some]
  unfold pushed
  cases h : timesOK xs facts with
  | false => rfl
  | true =>
    obtain ⟨hs, h1, h2⟩ := steps_of h
    have e := push_all h
    have b := push_len hs xs.length (xs.length - 1) false [] (by omega) (by omega)
    have big := push_big h
    have big' : 3 ^ 24 ≤ 1000000000000 := by decide
    unfold big24 at big
    simp only [List.length_nil] at b
    simp only [Bool.not_true, cond_false, if_true]
    rw [wI_small (n := (xs.length : Int) - 1) (by omega) (by omega), show (xs.length : Int) - 1 = ((xs.length - 1 : Nat) : Int) by omega, spec_l20Push.law hs xs.length (xs.length - 1) false [] (by omega) (by omega) (push_big h), Option.bind_some]
    simp only
    rw [wI_small (by omega) (by omega)]
    by_cases hbig : 24 < (push xs xs.length (xs.length - 1) false []).1.length
    · rw [if_pos hbig, decide_eq_true (by omega), cond_true]
    · rw [if_neg hbig, decide_eq_false (by omega), cond_false]
      rw [decide_eq_true (by omega), decide_eq_true (by omega)]
      simp only [Bool.and_self, cond_true, List.drop_zero, Nat.sub_zero]
      rw [List.take_of_length_le (by omega)]
end spec_Pushed
namespace impl_clone_of
theorem law (xs : List I4) (hx : xs.length ≤ 1048576) : impl (xs, ()) = some (xs, ()) := by
  rw [impl_eq]; unfold F0
  by_cases h : xs = []
  · subst h; rfl
  · have : 0 < xs.length := List.length_pos_iff.2 h
    rw [show ((xs.length : Int) == 0) = false by simp [h], cond_false]
    rw [decide_eq_true (by omega), decide_eq_true (by omega), decide_eq_true (by omega)]
    simp
end impl_clone_of
namespace impl_Pushed
theorem law (xs : List I4) (facts : Int) : impl (xs, facts, ()) = some (pushed xs facts, ()) := by
  rw [impl_eq]; unfold F0
  rw [impl_TimesValid.law, Option.bind_some]
  unfold pushed
  cases h : timesOK xs facts with
  | false => rfl
  | true =>
    obtain ⟨hs, h1, h2⟩ := steps_of h
    have e := push_all h
    simp only [Bool.not_true, cond_false, if_true]
    obtain ⟨o, n, l1, l2, l3, l4⟩ := impl_pushing_of.law hs xs.length (xs.length - 1) false [] (by omega) (by omega) (push_big h)
    rw [wI_small (n := (xs.length : Int) - 1) (by omega) (by omega), show (xs.length : Int) - 1 = ((xs.length - 1 : Nat) : Int) by omega, l1, Option.bind_some]
    simp only
    by_cases hbig : 24 < (push xs xs.length (xs.length - 1) false []).1.length
    · have := l3 hbig
      rw [if_pos hbig, decide_eq_true (by omega), cond_true]
    · obtain ⟨z1, z2⟩ := l2 (by omega)
      rw [if_neg hbig, z1, z2, decide_eq_false (by omega), cond_false, wI_small (by omega) (by omega)]
      rw [decide_eq_true (by omega), decide_eq_true (by omega)]
      simp only [Bool.and_self, cond_true, List.drop_zero, Nat.sub_zero]
      rw [List.take_of_length_le (by omega), impl_clone_of.law _ (by omega)]
      rfl
end impl_Pushed
theorem pushed_len (xs : List I4) (facts : Int) : (pushed xs facts).length ≤ 24 := by
  unfold pushed
  split
  · split
    · simp
    · omega
  · simp
namespace laws_FnExactPushed
theorem law (xs : List I4) (facts : Int) (hx : xs.length ≤ maxLen) : impl (xs, facts, ()) = some (true, ()) := by
  rw [impl_eq]; unfold F0
  rw [laws_szTimeS.law _ _ (by omega) (by omega) hx, Option.bind_some]
  by_cases hbig : (1048576 : Int) - xs.length < 0
  · rw [if_pos hbig]; rfl
  · rw [if_neg hbig]
    have hl : xs.length ≤ 1048576 := by omega
    have hp := pushed_len xs facts
    rw [show decide ((1048576 - (xs.length : Int), ()).1 < 0) = false from decide_eq_false hbig, cond_false]
    have m1 := laws_markTimeS.law xs 1 (by omega) (by omega)
    have m2 := laws_markTimeS.law (pushed xs facts) 1 (by omega) (by omega)
    have m3 := laws_heldTimeS.law 1 (pushed xs facts).length (by omega) (by omega)
    rw [show ((1 : Nat) : Int) = 1 from rfl] at m1 m2 m3
    simp only [laws_toTimeS.law _ hl, Option.bind_some, spec_Pushed.law, impl_Pushed.law, laws_eqTimeS.law _ _ (show (pushed xs facts).length ≤ 1048576 by omega), laws_eqTimeS.law _ _ hl, decide_true, Bool.not_true, cond_false, m1, m2, m3]
    rw [decide_eq_false (by omega), decide_eq_false (by omega)]
    simp
end laws_FnExactPushed
end Go.Proofs.YtgagmcbeobkfoaaB
