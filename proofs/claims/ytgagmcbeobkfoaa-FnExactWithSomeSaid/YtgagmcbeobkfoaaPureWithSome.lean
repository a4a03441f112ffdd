/- The plain law: what the functions compute, in plain Lean. -/
import Derived.Test.YtgagmcbeobkfoaaKFnExactWithSome
import Derived.Test.YtgagmcbeobkfoaaP0
set_option linter.unusedVariables false
set_option maxRecDepth 10000
namespace Go.Proofs.YtgagmcbeobkfoaaB
open Go
namespace spec_l1In
theorem law (x a b : Int) : impl (x, a, b, ()) = some (in3 x a b, ()) := by
  rw [impl_eq]; unfold F0
  rw [cond_ret]
  congr 2
  rw [Bool.eq_iff_iff, in3_iff]
  simp only [cond_iff, decide_eq_true_eq, Bool.false_eq_true, and_false, or_false]
end spec_l1In
namespace impl_in
theorem law (x a b : Int) : impl (x, a, b, ()) = some (in3 x a b, ()) := by
  rw [impl_eq]; unfold F0
  rw [cond_ret]
  congr 2
  rw [Bool.eq_iff_iff, in3_iff]
  simp only [cond_iff, decide_eq_true_eq, Bool.false_eq_true, and_false, or_false]
end impl_in
/-! ### lists of Tree: eq, mark, held, size, copy -/
namespace laws_szTreeS
theorem law (xs : List I4) (l : Int) (h0 : 0 ≤ l) (hl : l ≤ 1048576) (hx : xs.length ≤ maxLen) : impl (xs, l, ()) = some (if l - xs.length < 0 then -1 else l - xs.length, ()) := by
  have : wI (l - xs.length) = l - xs.length := wI_small (by simp [maxLen] at hx; omega) (by omega)
  rw [impl_eq]; unfold F0
  rw [this]
  by_cases h : l - (xs.length : Int) < 0 <;> simp [h]
end laws_szTreeS
namespace laws_toTree
theorem law (x : I4) : impl (x, ()) = some (x, ()) := rfl
end laws_toTree
namespace laws_toTreeS
theorem law (xs : List I4) (hx : xs.length ≤ 1048576) : impl (xs, ()) = some (xs, ()) := by
  rw [impl_eq]; unfold F0
  have : (decide (0 ≤ (xs.length : Int)) && decide ((xs.length : Int) ≤ (xs.length : Int)) && decide ((xs.length : Int) * 32 ≤ 140737488355328)) = true := by
    simp; omega
  rw [this, cond_true]
  have h := up_copy (R := PO) xs (0, 0, 0, 0) id (fun i r => L3 (xs, (i : Int), r, ())) (fun r => (r, ())) (fun i r hi hr => by
    show L3 _ = _
    rw [L3_eq]; unfold F3
    rw [lt_len, inb_true hi, laws_toTree.law, inb_true (by omega), wI_succ (by omega), Option.bind_some, Int.toNat_natCast]
    simp only [hi, decide_true, cond_true, id]) (fun r hr => by
    show L3 _ = _
    rw [L3_eq]; unfold F3
    simp) (List.replicate xs.length (0, 0, 0, 0)) (by simp)
  simpa using h
end laws_toTreeS
namespace laws_eqTree
theorem law (x y : I4) : impl (x, y, ()) = some (decide (x = y), ()) := by
  obtain ⟨a, b, c, d⟩ := x
  obtain ⟨a', b', c', d'⟩ := y
  rw [impl_eq]; unfold F0
  simp only [cond_ret]
  congr 2
  rw [Bool.eq_iff_iff]
  simp only [cond_iff, bne_iff_ne, decide_eq_true_eq, Prod.mk.injEq, ne_eq, Bool.false_eq_true, and_false, and_true, false_or]
  omega
end laws_eqTree
namespace laws_eqTreeS
theorem law (xs ys : List I4) (hx : xs.length ≤ 1048576) : impl (xs, ys, ()) = some (decide (xs = ys), ()) := by
  rw [impl_eq]; unfold F0
  by_cases hl : xs.length = ys.length
  · have : ((xs.length : Int) != (ys.length : Int)) = false := by simp [hl]
    rw [this, cond_false]
    have h := up_all (R := PO) (fun i => L4 (xs, ys, (i : Int), ())) xs.length (fun i => decide (xs.getD i (0, 0, 0, 0) = ys.getD i (0, 0, 0, 0))) (false, ()) (true, ()) (fun i hi => by
      show L4 _ = _
      rw [L4_eq]; unfold F4
      rw [lt_len]
      simp only [hi, decide_true, cond_true]
      rw [L6_eq]; unfold F6
      rw [inb_true hi, inb_true (by omega), laws_eqTree.law, wI_succ (by omega), Option.bind_some, Int.toNat_natCast]
      simp only [cond_true]
      cases decide (xs.getD i (0, 0, 0, 0) = ys.getD i (0, 0, 0, 0)) <;> rfl) (by
      show L4 _ = _
      rw [L4_eq]; unfold F4; simp) xs.length 0 (by omega)
    rw [eq_all hl] at h
    refine (show _ = _ from h).trans ?_
    cases decide (xs = ys) <;> rfl
  · have : ((xs.length : Int) != (ys.length : Int)) = true := by
      simp; omega
    rw [this, cond_true, decide_eq_false (fun e => hl (by rw [e]))]
end laws_eqTreeS
namespace laws_markTreeS
theorem law (xs : List I4) (k : Nat) (hx : xs.length ≤ 1048576 * 32) (hk : k ≤ 1048576 * 1024) : impl ((k : Int), xs, ()) = some ((k : Int) + 4 * xs.length, marks k 0 xs.length, ()) := by
  rw [impl_eq]; unfold F0
  have key : ∀ d i (r : List I4), i + d = xs.length → r.length = xs.length → r.take i = marks k 0 i → L2 ((k : Int) + 4 * i, (i : Int), r, ()) = some ((k : Int) + 4 * xs.length, marks k 0 xs.length, ()) := by
    intro d
    induction d with
    | zero =>
      intro i r hi hr ht
      have : i = xs.length := by omega
      subst this
      rw [L2_eq]; unfold F2
      rw [List.take_of_length_le (by omega)] at ht
      simp [hr, ht]
    | succ d ih =>
      intro i r hi hr ht
      have hlt : i < r.length := by omega
      rw [L2_eq]; unfold F2
      simp only [List.length_set, lt_len, inb_true hlt, hlt, decide_true, cond_true, Int.toNat_natCast, List.set_set]
      rw [wI_small (n := (k : Int) + 4 * i + 1) (by omega) (by omega), wI_small (n := (k : Int) + 4 * i + 1 + 1) (by omega) (by omega), wI_small (n := (k : Int) + 4 * i + 1 + 1 + 1) (by omega) (by omega), wI_small (n := (k : Int) + 4 * i + 1 + 1 + 1 + 1) (by omega) (by omega), wI_succ (by omega)]
      have e1 : (k : Int) + 4 * i + 1 + 1 + 1 + 1 = (k : Int) + 4 * ((i + 1 : Nat) : Int) := by omega
      rw [e1]
      have hg : ∀ v : I4, (r.set i v).getD i (0, 0, 0, 0) = v := fun v => by rw [List.getD_eq_getElem?_getD]; simp [hlt]
      simp only [hg]
      refine ih (i + 1) _ (by omega) (by simp [hr]) ?_
      rw [marks_succ, ← ht]
      apply List.ext_getElem?
      intro j
      rcases Nat.lt_trichotomy j i with h | h | h
      · rw [List.getElem?_append_left (by simp; omega), List.getElem?_take_of_lt (by omega), List.getElem?_take_of_lt h, List.getElem?_set_ne (by omega)]
      · subst h
        rw [List.getElem?_append_right (by simp; omega)]
        have : min j r.length = j := by omega
        simp [List.getElem?_take_of_lt, hlt, this, mark4]
        omega
      · rw [List.getElem?_eq_none (by simp; omega), List.getElem?_eq_none (by simp; omega)]
  have := key xs.length 0 xs (by omega) rfl (by simp [marks])
  simpa using this
end laws_markTreeS
namespace laws_heldTreeS
theorem law (k n : Nat) (hn : n ≤ 1048576 * 32) (hk : k ≤ 1048576 * 1024) : impl (marks k 0 n, (k : Int), ()) = some ((k : Int) + 4 * n, ()) := by
  rw [impl_eq]; unfold F0
  have key : ∀ d i, i + d = n → L2 (marks k 0 n, (k : Int) + 4 * i, (i : Int), ()) = some ((k : Int) + 4 * n, ()) := by
    intro d
    induction d with
    | zero =>
      intro i hi
      have : i = n := by omega
      subst this
      rw [L2_eq]; unfold F2
      simp
    | succ d ih =>
      intro i hi
      have hlt : i < (marks k 0 n).length := by simp; omega
      rw [L2_eq]; unfold F2
      simp only [lt_len, inb_true hlt, hlt, decide_true, cond_true, Int.toNat_natCast]
      rw [wI_small (n := (k : Int) + 4 * i + 1) (by omega) (by omega), wI_small (n := (k : Int) + 4 * i + 1 + 1) (by omega) (by omega), wI_small (n := (k : Int) + 4 * i + 1 + 1 + 1) (by omega) (by omega), wI_small (n := (k : Int) + 4 * i + 1 + 1 + 1 + 1) (by omega) (by omega), wI_succ (by omega)]
      have e1 : (k : Int) + 4 * i + 1 + 1 + 1 + 1 = (k : Int) + 4 * ((i + 1 : Nat) : Int) := by omega
      rw [e1, marks_get (by simpa using hlt)]
      have e2 : mark4 k (0 + i) = ((k : Int) + 4 * i, (k : Int) + 4 * i + 1, (k : Int) + 4 * i + 1 + 1, (k : Int) + 4 * i + 1 + 1 + 1) := by simp [mark4]; omega
      rw [e2]
      simp only [bne_self_eq_false, cond_false]
      exact ih (i + 1) (by omega)
  have := key n 0 (by omega)
  simpa using this
end laws_heldTreeS
namespace spec_l24Put
theorem law (t : I4) (out : List I4) (hl : (out.length + 1) * 32 ≤ 140737488355328) : impl (t, out, ()) = some (((put out t).2 : Int), (put out t).1, ()) := by
  rw [impl_eq]; unfold F0
  have key : ∀ d i, i + d = out.length → (∀ j, j < i → out.getD j (0, 0, 0, 0) ≠ t) → L2 ((i : Int), out, t.1, t.2.1, t.2.2.1, t.2.2.2, ()) = some (((put out t).2 : Int), (put out t).1, ()) := by
    intro d
    induction d with
    | zero =>
      intro i hi hb
      have : i = out.length := by omega
      subst this
      have h0 := atI_not hb
      rw [L2_eq]; unfold F2
      simp [put, h0, hl]
    | succ d ih =>
      intro i hi hb
      have hlt : i < out.length := by omega
      rw [L2_eq]; unfold F2
      rw [lt_len]
      simp only [hlt, decide_true, cond_true]
      rw [L4_eq]; unfold F4
      rw [inb_true hlt, cond_true, Int.toNat_natCast, beq4 (y := (t.1, t.2.1, t.2.2.1, t.2.2.2)), wI_succ (by omega)]
      by_cases h : out.getD i (0, 0, 0, 0) = t
      · rw [decide_eq_true (show _ = _ from h), cond_true]
        have := atI_here hlt h hb
        simp [put, this, hlt]
      · rw [decide_eq_false (show ¬ _ = _ from h), cond_false]
        refine ih (i + 1) (by omega) fun j hj => ?_
        rcases Nat.lt_or_ge j i with h1 | h1
        · exact hb j h1
        · have : j = i := by omega
          rw [this]; exact h
  exact key out.length 0 (by omega) fun j hj => by omega
end spec_l24Put
namespace slices_Index_of
theorem law (t : I4) (out : List I4) (hl : (out.length + 1) * 32 ≤ 140737488355328) : impl (out, t, ()) = some (if atI out t < out.length then (atI out t : Int) else -1, ()) := by
  rw [impl_eq]; unfold F0
  have key : ∀ d i, i + d = out.length → (∀ j, j < i → out.getD j (0, 0, 0, 0) ≠ t) → L2 (out, (out.length : Int), (i : Int), t.1, t.2.1, t.2.2.1, t.2.2.2, ()) = some (if atI out t < out.length then (atI out t : Int) else -1, ()) := by
    intro d
    induction d with
    | zero =>
      intro i hi hb
      have : i = out.length := by omega
      subst this
      have h0 := atI_not hb
      rw [L2_eq]; unfold F2
      simp [h0]
    | succ d ih =>
      intro i hi hb
      have hlt : i < out.length := by omega
      rw [L2_eq]; unfold F2
      rw [lt_len]
      simp only [hlt, decide_true, cond_true]
      rw [L4_eq]; unfold F4
      rw [inb_true hlt, cond_true, Int.toNat_natCast, beq4 (x := (t.1, t.2.1, t.2.2.1, t.2.2.2)), wI_succ (by omega)]
      by_cases h : t = out.getD i (0, 0, 0, 0)
      · rw [decide_eq_true (show _ = _ from h), cond_true]
        have := atI_here hlt h.symm hb
        simp [this, hlt]
      · rw [decide_eq_false (show ¬ _ = _ from h), cond_false]
        refine ih (i + 1) (by omega) fun j hj => ?_
        rcases Nat.lt_or_ge j i with h1 | h1
        · exact hb j h1
        · have : j = i := by omega
          rw [this]; exact fun e => h e.symm
  exact key out.length 0 (by omega) fun j hj => by omega
end slices_Index_of
namespace impl_clone_of
theorem law (xs : List I4) (hx : xs.length ≤ 1048576) : impl (xs, ()) = some (xs, ()) := by
  rw [impl_eq]; unfold F0
  by_cases h : xs = []
  · subst h; rfl
  · have : 0 < xs.length := List.length_pos_iff.2 h
    rw [show ((xs.length : Int) == 0) = false by simp [h], cond_false]
    rw [decide_eq_true (by omega), decide_eq_true (by omega), decide_eq_true (by omega)]
    simp
end impl_clone_of
/-! ### The plain law of WithSome -/
def treeOne (op : Int) : Bool := op == 2 || op == 5 || op == 7 || op == 8 || op == 10
namespace spec_l24One
theorem law (x : Int) : impl (x, ()) = some (treeOne x, ()) := by
  rw [impl_eq]; unfold F0 treeOne
  cases x == 2 <;> cases x == 5 <;> cases x == 7 <;> cases x == 8 <;> rfl
end spec_l24One
/-- a step of a formula over trees -/
def TreeStep (t : I4) (i facts : Int) : Prop :=
  (t.1 = 0 ∧ t.2.1 = 0 ∧ t.2.2.1 = 0 ∧ t.2.2.2 = 0) ∨ (t.1 = 1 ∧ 0 ≤ t.2.1 ∧ t.2.1 ≤ facts - 1 ∧ t.2.2.1 = 0 ∧ t.2.2.2 = 0) ∨
  (2 ≤ t.1 ∧ t.1 ≤ 10 ∧ t.2.1 = 0 ∧ 0 ≤ t.2.2.1 ∧ t.2.2.1 ≤ i - 1 ∧ 0 ≤ t.2.2.2 ∧ t.2.2.2 ≤ i - 1 ∧ (t.1 = 2 ∨ t.1 = 5 ∨ t.1 = 7 ∨ t.1 = 8 ∨ t.1 = 10 → t.2.2.2 = t.2.2.1))
instance (t : I4) (i facts : Int) : Decidable (TreeStep t i facts) := by unfold TreeStep; infer_instance
def treesOK (xs : List I4) (facts : Int) : Bool := in3 facts 0 4 && (in3 xs.length 1 24 && (List.range' 0 xs.length).all fun i => decide (TreeStep (xs.getD i (0, 0, 0, 0)) i facts))

namespace spec_l24Step
theorem law (t : I4) (i facts : Int) (hi : 0 ≤ i ∧ i ≤ 1048576) (hf : 0 ≤ facts ∧ facts ≤ 1048576) : impl (t, i, facts, ()) = some (decide (TreeStep t i facts), ()) := by
  obtain ⟨op, n, a, b⟩ := t
  rw [impl_eq]; unfold F0
  simp only [spec_l1In.law, spec_l24One.law, Option.bind_some, wI_small (n := i - 1) (by omega) (by omega), wI_small (n := facts - 1) (by omega) (by omega), cond_ret]
  congr 2
  rw [Bool.eq_iff_iff]
  rw [decide_eq_true_eq]
  simp only [treeOne, TreeStep, cond_iff, not_iff, in3_iff, beq_iff_eq, bne_iff_ne, ne_eq, Bool.or_eq_true, Bool.false_eq_true, and_true, and_false, or_false, false_or, Decidable.not_not]
  omega
end spec_l24Step
namespace spec_TreesValid
theorem law (xs : List I4) (facts : Int) : impl (xs, facts, ()) = some (treesOK xs facts, ()) := by
  rw [impl_eq]; unfold F0
  simp only [spec_l1In.law, Option.bind_some]
  unfold treesOK
  cases h1 : in3 facts 0 4 with
  | false => rfl
  | true => cases h2 : in3 xs.length 1 24 with
    | false => rfl
    | true =>
      rw [in3_iff] at h1 h2
      have h := up_all (R := PO) (fun i => L4 (xs, facts, (i : Int), ())) xs.length (fun i => decide (TreeStep (xs.getD i (0, 0, 0, 0)) i facts)) (false, ()) (true, ()) (fun i hi => by
        show L4 _ = _
        rw [L4_eq]; unfold F4
        rw [lt_len, inb_true hi, Int.toNat_natCast, spec_l24Step.law _ _ _ (by omega) (by omega), wI_succ (by omega), Option.bind_some]
        simp only [hi, decide_true, cond_true]
        cases decide (TreeStep (xs.getD i (0, 0, 0, 0)) i facts) <;> rfl) (by
        show L4 _ = _
        rw [L4_eq]; unfold F4; simp) xs.length 0 (by omega)
      simp only [Bool.not_true, cond_false, Bool.true_and]
      refine (show _ = _ from h).trans ?_
      cases (List.range' 0 xs.length).all _ <;> rfl
end spec_TreesValid
namespace impl_treeParts
theorem law (x : Int) : impl (x, ()) = some (if x = 3 ∨ x = 4 ∨ x = 6 ∨ x = 9 then 2 else if x = 0 ∨ x = 1 then 0 else 1, ()) := by
  rw [impl_eq]; unfold F0
  by_cases h3 : x = 3
  · subst h3; rfl
  by_cases h4 : x = 4
  · subst h4; rfl
  by_cases h6 : x = 6
  · subst h6; rfl
  by_cases h9 : x = 9
  · subst h9; rfl
  by_cases h0 : x = 0
  · subst h0; rfl
  by_cases h1 : x = 1
  · subst h1; rfl
  rw [show (x == 3) = false by simpa using h3, show (x == 4) = false by simpa using h4, show (x == 6) = false by simpa using h6, show (x == 9) = false by simpa using h9, show (x == 0) = false by simpa using h0, show (x == 1) = false by simpa using h1]
  simp [h3, h4, h6, h9, h0, h1]
theorem two (x : Int) : impl (x, ()) = some (if x = 3 ∨ x = 4 ∨ x = 6 ∨ x = 9 then 2 else if x = 0 ∨ x = 1 then 0 else 1, ()) := law x
end impl_treeParts
namespace impl_TreesValid
theorem law (xs : List I4) (facts : Int) : impl (xs, facts, ()) = some (treesOK xs facts, ()) := by
  rw [impl_eq]; unfold F0
  simp only [impl_in.law, Option.bind_some]
  unfold treesOK
  cases h1 : in3 facts 0 4 with
  | false => rfl
  | true => cases h2 : in3 xs.length 1 24 with
    | false => rfl
    | true =>
      rw [in3_iff] at h1 h2
      have h := up_all (R := PO) (fun i => L4 (facts, xs, (xs.length : Int), (i : Int), ())) xs.length (fun i => decide (TreeStep (xs.getD i (0, 0, 0, 0)) i facts)) (false, ()) (true, ()) (fun i hi => by
        show L4 _ = _
        rw [L4_eq]; unfold F4
        rw [lt_len, inb_true hi, wI_succ (by omega), Int.toNat_natCast, wI_small (n := (i : Int) - 1) (by omega) (by omega), wI_small (n := facts - 1) (by omega) (by omega)]
        simp only [hi, decide_true, cond_true, impl_in.law, impl_treeParts.law, Option.bind_some]
        generalize xs.getD i (0, 0, 0, 0) = t
        obtain ⟨op, n, a, b⟩ := t
        generalize L4 (facts, xs, (xs.length : Int), ((i + 1 : Nat) : Int), ()) = z
        by_cases g : TreeStep (op, n, a, b) i facts
        · simp only [decide_eq_true g, cond_true]
          unfold TreeStep at g
          simp only at g
          rcases g with g | g | g
          · simp [g]
          · have : in3 n 0 (facts - 1) = true := in3_iff.2 ⟨g.2.1, g.2.2.1⟩
            simp [g.1, g.2.2.2, this]
          · have e1 : in3 op 0 10 = true := in3_iff.2 ⟨by omega, by omega⟩
            have e2 : in3 a 0 (i - 1) = true := in3_iff.2 ⟨by omega, by omega⟩
            have e3 : in3 b 0 (i - 1) = true := in3_iff.2 ⟨by omega, by omega⟩
            have e4 : (op == 0) = false := by simp; omega
            have e5 : (op == 1) = false := by simp; omega
            have e6 : (n == 0) = true := by simp; omega
            simp only [e1, e2, e3, e4, e5, e6, cond_true, cond_false]
            cases e7 : a == b with
            | true => rfl
            | false =>
              have e7' : ¬ a = b := by simpa using e7
              rw [if_pos (show op = 3 ∨ op = 4 ∨ op = 6 ∨ op = 9 by omega)]
              rfl
        · rw [decide_eq_false g, cond_false]
          unfold TreeStep at g
          simp only at g
          cases e4 : op == 0 with
          | true =>
            have e4' : op = 0 := by simpa using e4
            cases e : ((true && ((n == 0) && ((a == 0) && (b == 0))))) with
            | false => rfl
            | true =>
              simp only [Bool.and_eq_true, beq_iff_eq] at e
              omega
          | false =>
            have e4' : ¬ op = 0 := by simpa using e4
            rw [cond_false]
            cases e5 : op == 1 with
            | true =>
              have e5' : op = 1 := by simpa using e5
              rw [cond_true]
              cases e1 : in3 n 0 (facts - 1) with
              | false => rfl
              | true =>
                rw [in3_iff] at e1
                rw [cond_true]
                cases e2 : a == 0 with
                | false => rfl
                | true =>
                  have e2' : a = 0 := by simpa using e2
                  cases e3 : b == 0 with
                  | false => rfl
                  | true =>
                    have e3' : b = 0 := by simpa using e3
                    omega
            | false =>
              have e5' : ¬ op = 1 := by simpa using e5
              rw [cond_false]
              cases e1 : in3 op 0 10 with
              | false => rfl
              | true => cases e2 : n == 0 with
                | false => rfl
                | true => cases e3 : in3 a 0 (i - 1) with
                  | false => rfl
                  | true => cases e6 : in3 b 0 (i - 1) with
                    | false => rfl
                    | true =>
                      rw [in3_iff] at e1 e3 e6
                      have e2' : n = 0 := by simpa using e2
                      have e7 : (a == b) = false := by simp; omega
                      rw [e7, if_neg (show ¬ (op = 3 ∨ op = 4 ∨ op = 6 ∨ op = 9) by omega), if_neg (show ¬ (op = 0 ∨ op = 1) by omega)]
                      rfl) (by
        show L4 _ = _
        rw [L4_eq]; unfold F4; simp) xs.length 0 (by omega)
      simp only [Bool.not_true, cond_false, Bool.true_and]
      refine (show _ = _ from h).trans ?_
      cases (List.range' 0 xs.length).all _ <;> rfl
end impl_TreesValid
def room32 (n : Nat) : Prop := (n + 8) * 32 ≤ 140737488355328
namespace impl_planting_put
theorem law (op a b : Int) (xs out : List I4) (hl : (out.length + 1) * 32 ≤ 140737488355328) : impl (op, a, b, xs, out, ()) = some (((put out (op, 0, a, b)).2 : Int), xs, (put out (op, 0, a, b)).1, ()) := by
  rw [impl_eq]; unfold F0
  rw [L2_eq]; unfold F2
  rw [slices_Index_of.law _ _ hl, Option.bind_some]
  by_cases h : atI out (op, 0, a, b) < out.length
  · simp [h, put]
  · have := atI_le out (op, 0, a, b)
    have e : atI out (op, 0, a, b) = out.length := by omega
    simp only [h, if_false]
    rw [show decide ((-1 : Int) ≥ 0) = false by rfl, cond_false, L5_eq]; unfold F5
    simp [put, e, hl]
    exact wI_small (by omega) (by omega)
end impl_planting_put
namespace impl_planting_of_1
theorem law (a : Int) (xs out : List I4) (hl : (out.length + 1) * 32 ≤ 140737488355328) : impl (a, xs, out, ()) = some (((put out (2, 0, a, a)).2 : Int), xs, (put out (2, 0, a, a)).1, ()) := by
  rw [impl_eq]; unfold F0
  rw [impl_planting_put.law _ _ _ _ _ hl]; rfl
end impl_planting_of_1

/-- what comes behind the parts of a step -/
def ends (op : Int) (out : List I4) (a b : Int) : List I4 × Nat :=
  if op = 8 then
    let p2 := put out (2, 0, a, a)
    let p3 := put p2.1 (5, 0, p2.2, p2.2)
    put p3.1 (2, 0, p3.2, p3.2)
  else if op = 10 then
    let p2 := put out (2, 0, a, a)
    let p3 := put p2.1 (0, 0, 0, 0)
    let p4 := put p3.1 (6, 0, p3.2, p2.2)
    put p4.1 (2, 0, p4.2, p4.2)
  else if op = 9 then
    let p3 := put out (2, 0, a, a)
    let p4 := put p3.1 (2, 0, b, b)
    let p5 := put p4.1 (3, 0, p4.2, p3.2)
    let p6 := put p5.1 (6, 0, p4.2, p5.2)
    let p7 := put p6.1 (7, 0, p4.2, p4.2)
    let p8 := put p7.1 (4, 0, p6.2, p7.2)
    put p8.1 (2, 0, p8.2, p8.2)
  else put out (op, 0, a, b)
theorem ends_len (op : Int) (out : List I4) (a b : Int) : out.length ≤ (ends op out a b).1.length ∧ (ends op out a b).1.length ≤ out.length + 7 ∧ (ends op out a b).2 < (ends op out a b).1.length := by
  unfold ends
  split
  · dsimp only
    have h1 := put_len out (2, 0, a, a)
    have h2 := put_len (put out (2, 0, a, a)).1 (5, 0, ((put out (2, 0, a, a)).2 : Int), ((put out (2, 0, a, a)).2 : Int))
    generalize put out (2, 0, a, a) = p2 at *
    generalize put p2.1 (5, 0, (p2.2 : Int), (p2.2 : Int)) = p3 at *
    have h3 := put_len p3.1 (2, 0, (p3.2 : Int), (p3.2 : Int))
    omega
  · split
    · dsimp only
      have h1 := put_len out (2, 0, a, a)
      generalize put out (2, 0, a, a) = p2 at *
      have h2 := put_len p2.1 (0, 0, 0, 0)
      generalize put p2.1 (0, 0, 0, 0) = p3 at *
      have h3 := put_len p3.1 (6, 0, (p3.2 : Int), (p2.2 : Int))
      generalize put p3.1 (6, 0, (p3.2 : Int), (p2.2 : Int)) = p4 at *
      have h4 := put_len p4.1 (2, 0, (p4.2 : Int), (p4.2 : Int))
      omega
    · split
      · dsimp only
        have h3 := put_len out (2, 0, a, a)
        generalize put out (2, 0, a, a) = p3 at *
        have h4 := put_len p3.1 (2, 0, b, b)
        generalize put p3.1 (2, 0, b, b) = p4 at *
        have h5 := put_len p4.1 (3, 0, (p4.2 : Int), (p3.2 : Int))
        generalize put p4.1 (3, 0, (p4.2 : Int), (p3.2 : Int)) = p5 at *
        have h6 := put_len p5.1 (6, 0, (p4.2 : Int), (p5.2 : Int))
        generalize put p5.1 (6, 0, (p4.2 : Int), (p5.2 : Int)) = p6 at *
        have h7 := put_len p6.1 (7, 0, (p4.2 : Int), (p4.2 : Int))
        generalize put p6.1 (7, 0, (p4.2 : Int), (p4.2 : Int)) = p7 at *
        have h8 := put_len p7.1 (4, 0, (p6.2 : Int), (p7.2 : Int))
        generalize put p7.1 (4, 0, (p6.2 : Int), (p7.2 : Int)) = p8 at *
        have h9 := put_len p8.1 (2, 0, (p8.2 : Int), (p8.2 : Int))
        omega
      · have := put_len out (op, 0, a, b)
        omega
theorem ends_last {op : Int} {out s : List I4} {a b : Int} (hc : Closed out) (hop : 2 ≤ op) (ha : a < out.length) (hb : b < out.length) (hab : op = 8 ∨ op = 10 → b = a) (hs : out = s ∨ a + 1 = out.length ∨ b + 1 = out.length) :
    Closed (ends op out a b).1 ∧ ((ends op out a b).1 = s ∨ ((ends op out a b).2 : Int) + 1 = (ends op out a b).1.length) := by
  unfold ends
  split
  · dsimp only
    have e := hab (.inl ‹_›)
    subst e
    have h1 := put_len out (2, 0, b, b)
    have c1 := put_closed (t := (2, 0, b, b)) hc (fun _ => ⟨hb, hb⟩)
    have k1 := put_keep (t := (2, 0, b, b)) (s := s) hc (by simp) (by simpa using hs)
    generalize put out (2, 0, b, b) = p2 at *
    have h2 := put_len p2.1 (5, 0, (p2.2 : Int), (p2.2 : Int))
    have c2 := put_closed (t := (5, 0, (p2.2 : Int), (p2.2 : Int))) c1 (fun _ => ⟨by simp only; omega, by simp only; omega⟩)
    have k2 := put_keep (t := (5, 0, (p2.2 : Int), (p2.2 : Int))) (s := s) c1 (by simp) (by simpa using k1)
    generalize put p2.1 (5, 0, (p2.2 : Int), (p2.2 : Int)) = p3 at *
    exact ⟨put_closed c2 (fun _ => ⟨by simp only; omega, by simp only; omega⟩), put_keep c2 (by simp) (by simpa using k2)⟩
  · split
    · dsimp only
      have e := hab (.inr ‹_›)
      subst e
      have h1 := put_len out (2, 0, b, b)
      have c1 := put_closed (t := (2, 0, b, b)) hc (fun _ => ⟨hb, hb⟩)
      have k1 := put_keep (t := (2, 0, b, b)) (s := s) hc (by simp) (by simpa using hs)
      generalize put out (2, 0, b, b) = p2 at *
      have h2 := put_len p2.1 (0, 0, 0, 0)
      have c2 := put_closed (t := (0, 0, 0, 0)) c1 (fun h => absurd h (by simp))
      have k2 := put_two (t := (0, 0, 0, 0)) (s := s) (x := (p2.2 : Int)) c1 (k1.imp_right .inr)
      generalize put p2.1 (0, 0, 0, 0) = p3 at *
      have h3 := put_len p3.1 (6, 0, (p3.2 : Int), (p2.2 : Int))
      have c3 := put_closed (t := (6, 0, (p3.2 : Int), (p2.2 : Int))) c2 (fun _ => ⟨by simp only; omega, by simp only; omega⟩)
      have k3 := put_keep (t := (6, 0, (p3.2 : Int), (p2.2 : Int))) (s := s) c2 (by simp) k2
      generalize put p3.1 (6, 0, (p3.2 : Int), (p2.2 : Int)) = p4 at *
      exact ⟨put_closed c3 (fun _ => ⟨by simp only; omega, by simp only; omega⟩), put_keep c3 (by simp) (by simpa using k3)⟩
    · split
      · dsimp only
        have h3 := put_len out (2, 0, a, a)
        have c3 := put_closed (t := (2, 0, a, a)) hc (fun _ => ⟨ha, ha⟩)
        have k3 := put_two (t := (2, 0, a, a)) (s := s) (x := b) hc (by rcases hs with h | h | h; exact .inl h; exact .inr (.inl ⟨by simp, .inl h⟩); exact .inr (.inr h))
        generalize put out (2, 0, a, a) = p3 at *
        have h4 := put_len p3.1 (2, 0, b, b)
        have c4 := put_closed (t := (2, 0, b, b)) c3 (fun _ => ⟨by simp only; omega, by simp only; omega⟩)
        have k4 := put_two (t := (2, 0, b, b)) (s := s) (x := (p3.2 : Int)) c3 (by rcases k3 with h | h | h; exact .inl h; exact .inr (.inr h); exact .inr (.inl ⟨by simp, .inl h⟩))
        generalize put p3.1 (2, 0, b, b) = p4 at *
        have h5 := put_len p4.1 (3, 0, (p4.2 : Int), (p3.2 : Int))
        have c5 := put_closed (t := (3, 0, (p4.2 : Int), (p3.2 : Int))) c4 (fun _ => ⟨by simp only; omega, by simp only; omega⟩)
        have k5 := put_keep (t := (3, 0, (p4.2 : Int), (p3.2 : Int))) (s := s) c4 (by simp) k4
        generalize put p4.1 (3, 0, (p4.2 : Int), (p3.2 : Int)) = p5 at *
        have h6 := put_len p5.1 (6, 0, (p4.2 : Int), (p5.2 : Int))
        have c6 := put_closed (t := (6, 0, (p4.2 : Int), (p5.2 : Int))) c5 (fun _ => ⟨by simp only; omega, by simp only; omega⟩)
        have k6 := put_keep (t := (6, 0, (p4.2 : Int), (p5.2 : Int))) (s := s) c5 (by simp) (k5.imp_right .inr)
        generalize put p5.1 (6, 0, (p4.2 : Int), (p5.2 : Int)) = p6 at *
        have h7 := put_len p6.1 (7, 0, (p4.2 : Int), (p4.2 : Int))
        have c7 := put_closed (t := (7, 0, (p4.2 : Int), (p4.2 : Int))) c6 (fun _ => ⟨by simp only; omega, by simp only; omega⟩)
        have k7 := put_two (t := (7, 0, (p4.2 : Int), (p4.2 : Int))) (s := s) (x := (p6.2 : Int)) c6 (k6.imp_right .inr)
        generalize put p6.1 (7, 0, (p4.2 : Int), (p4.2 : Int)) = p7 at *
        have h8 := put_len p7.1 (4, 0, (p6.2 : Int), (p7.2 : Int))
        have c8 := put_closed (t := (4, 0, (p6.2 : Int), (p7.2 : Int))) c7 (fun _ => ⟨by simp only; omega, by simp only; omega⟩)
        have k8 := put_keep (t := (4, 0, (p6.2 : Int), (p7.2 : Int))) (s := s) c7 (by simp) (by rcases k7 with h | h | h; exact .inl h; exact .inr (.inr h); exact .inr (.inl h))
        generalize put p7.1 (4, 0, (p6.2 : Int), (p7.2 : Int)) = p8 at *
        exact ⟨put_closed c8 (fun _ => ⟨by simp only; omega, by simp only; omega⟩), put_keep c8 (by simp) (by simpa using k8)⟩
      · exact ⟨put_closed hc (fun _ => ⟨ha, hb⟩), put_keep hc hop hs⟩

def treeTwo (op : Int) : Prop := op = 3 ∨ op = 4 ∨ op = 6 ∨ op = 9
instance (op : Int) : Decidable (treeTwo op) := by unfold treeTwo; infer_instance
/-- a step with all that it is made of, put behind what there is -/
def plant (xs : List I4) : Nat → Nat → List I4 → List I4 × Nat
  | 0, _, out => (out, 0)
  | f + 1, i, out =>
    let t := xs.getD i (0, 0, 0, 0)
    if t.1 ≤ 1 then put out t
    else
      let one := plant xs f t.2.2.1.toNat out
      if treeTwo t.1 then
        let two := plant xs f t.2.2.2.toNat one.1
        ends t.1 two.1 one.2 two.2
      else ends t.1 one.1 one.2 one.2
def Trees (xs : List I4) : Prop := ∀ i, i < xs.length → ∃ facts, TreeStep (xs.getD i (0, 0, 0, 0)) i facts

theorem plant_len {xs : List I4} (hv : Trees xs) : ∀ f i out, i < f → i < xs.length → out.length ≤ (plant xs f i out).1.length ∧ (plant xs f i out).1.length + 7 ≤ out.length + 2 ^ (i + 3) ∧ (plant xs f i out).2 < (plant xs f i out).1.length
  | 0, i, out, hf, hi => by omega
  | f + 1, i, out, hf, hi => by
    obtain ⟨facts, hs⟩ := hv i hi
    unfold plant
    simp only
    generalize xs.getD i (0, 0, 0, 0) = t at hs
    obtain ⟨op, n, a, b⟩ := t
    unfold TreeStep at hs
    simp only at hs ⊢
    have h3 : 2 ^ (i + 3) = 2 ^ (i + 2) + 2 ^ (i + 2) := by rw [Nat.pow_succ]; omega
    have h0 : 2 ^ 2 ≤ 2 ^ (i + 2) := Nat.pow_le_pow_right (by omega) (by omega)
    have hp : ∀ c : Nat, c < i → 2 ^ (c + 3) ≤ 2 ^ (i + 2) := fun c hc => Nat.pow_le_pow_right (by omega) (by omega)
    by_cases h1 : op ≤ 1
    · rw [if_pos h1]
      have e1 := put_len out (op, n, a, b)
      omega
    · rw [if_neg h1]
      have e1 := plant_len hv f a.toNat out (by omega) (by omega)
      have g1 := hp a.toNat (by omega)
      have g2 := hp b.toNat (by omega)
      by_cases h2 : treeTwo op
      · rw [if_pos h2]
        have e2 := plant_len hv f b.toNat (plant xs f a.toNat out).1 (by omega) (by omega)
        have e3 := ends_len op (plant xs f b.toNat (plant xs f a.toNat out).1).1 ((plant xs f a.toNat out).2 : Int) ((plant xs f b.toNat (plant xs f a.toNat out).1).2 : Int)
        omega
      · rw [if_neg h2]
        have e3 := ends_len op (plant xs f a.toNat out).1 ((plant xs f a.toNat out).2 : Int) ((plant xs f a.toNat out).2 : Int)
        omega

theorem plant_last {xs : List I4} (hv : Trees xs) : ∀ f i out, i < f → i < xs.length → Closed out → Closed (plant xs f i out).1 ∧ ((plant xs f i out).1 = out ∨ ((plant xs f i out).2 : Int) + 1 = (plant xs f i out).1.length)
  | 0, i, out, hf, hi, hc => by omega
  | f + 1, i, out, hf, hi, hc => by
    obtain ⟨facts, hs⟩ := hv i hi
    unfold plant
    simp only
    generalize xs.getD i (0, 0, 0, 0) = t at hs
    obtain ⟨op, n, a, b⟩ := t
    unfold TreeStep at hs
    simp only at hs ⊢
    by_cases h1 : op ≤ 1
    · rw [if_pos h1]
      refine ⟨put_closed hc (fun h => absurd (show (2 : Int) ≤ op from h) (by omega)), ?_⟩
      rcases put_last out (op, n, a, b) with p | p
      · exact .inl p
      · exact .inr (by omega)
    · rw [if_neg h1]
      obtain ⟨c1, p1⟩ := plant_last hv f a.toNat out (by omega) (by omega) hc
      have q1 := plant_len hv f a.toNat out (by omega) (by omega)
      by_cases h2 : treeTwo op
      · rw [if_pos h2]
        obtain ⟨c2, p2⟩ := plant_last hv f b.toNat (plant xs f a.toNat out).1 (by omega) (by omega) c1
        have q2 := plant_len hv f b.toNat (plant xs f a.toNat out).1 (by omega) (by omega)
        refine ends_last c2 (by omega) (by omega) (by omega) (fun h => by unfold treeTwo at h2; omega) ?_
        rcases p2 with p2 | p2
        · rw [p2]; exact p1.imp_right .inl
        · exact .inr (.inr p2)
      · rw [if_neg h2]
        exact ends_last c1 (by omega) (by omega) (by omega) (fun _ => rfl) (p1.imp_right .inl)

def big30 : Nat := 2 ^ 30
theorem big30_le {n : Nat} (h : n ≤ big30) : (n + 1) * 32 ≤ 140737488355328 := by unfold big30 at h; omega

namespace spec_l24Some
/-- what comes behind the parts, as the reference does it -/
theorem tail {op a b : Int} {xs out : List I4} (hl : out.length + 8 ≤ big30) (h2 : 2 ≤ op ∧ op ≤ 10) : True := trivial
theorem law {xs : List I4} (hv : Trees xs) : ∀ f i out, i < f → i < xs.length → out.length + 2 ^ (i + 3) + 8 ≤ big30 → impl (xs, (i : Int), out, ()) = some (((plant xs f i out).2 : Int), (plant xs f i out).1, ())
  | 0, i, out, hf, hi, hb => by omega
  | f + 1, i, out, hf, hi, hb => by
    obtain ⟨facts, hs⟩ := hv i hi
    rw [impl_eq]; unfold F0 plant
    rw [inb_true hi, Int.toNat_natCast, cond_true]
    simp only
    generalize xs.getD i (0, 0, 0, 0) = t at hs
    obtain ⟨op, n, a, b⟩ := t
    unfold TreeStep at hs
    simp only at hs ⊢
    have h3 : 2 ^ (i + 3) = 2 ^ (i + 2) + 2 ^ (i + 2) := by rw [Nat.pow_succ]; omega
    have h0 : 2 ^ 2 ≤ 2 ^ (i + 2) := Nat.pow_le_pow_right (by omega) (by omega)
    have hp : ∀ c : Nat, c < i → 2 ^ (c + 3) ≤ 2 ^ (i + 2) := fun c hc => Nat.pow_le_pow_right (by omega) (by omega)
    by_cases h1 : op ≤ 1
    · rw [if_pos h1, decide_eq_true h1, cond_true, spec_l24Put.law _ out (big30_le (by omega))]; rfl
    · rw [if_neg h1, decide_eq_false h1, cond_false]
      have ea : a = (a.toNat : Int) := by omega
      have eb : b = (b.toNat : Int) := by omega
      have g1 := hp a.toNat (by omega)
      have g2 := hp b.toNat (by omega)
      have e1 := plant_len hv f a.toNat out (by omega) (by omega)
      have e2 := plant_len hv f b.toNat (plant xs f a.toNat out).1 (by omega) (by omega)
      have l1 := law hv f a.toNat out (by omega) (by omega) (by omega)
      have l2 := law hv f b.toNat (plant xs f a.toNat out).1 (by omega) (by omega) (by omega)
      rw [← ea] at l1
      rw [← eb] at l2
      rw [l1, Option.bind_some]
      generalize plant xs f a.toNat out = one at *
      generalize plant xs f b.toNat one.1 = two at *
      simp only
      by_cases h8 : op = 8
      · subst h8
        rw [if_neg (show ¬ treeTwo 8 by decide), show ((8 : Int) == 8) = true by rfl, cond_true]
        have q1 := put_len one.1 (2, 0, (one.2 : Int), (one.2 : Int))
        rw [spec_l24Put.law _ one.1 (big30_le (by omega)), Option.bind_some]
        generalize hp2 : put one.1 (2, 0, (one.2 : Int), (one.2 : Int)) = p2 at *
        simp only
        have q2 := put_len p2.1 (5, 0, (p2.2 : Int), (p2.2 : Int))
        rw [spec_l24Put.law _ p2.1 (big30_le (by omega)), Option.bind_some]
        generalize hp3 : put p2.1 (5, 0, (p2.2 : Int), (p2.2 : Int)) = p3 at *
        simp only
        rw [spec_l24Put.law _ p3.1 (big30_le (by omega)), Option.bind_some]
        simp only [ends, if_true, hp2, hp3]
      · rw [show (op == 8) = false by simpa using h8, cond_false]
        by_cases h10 : op = 10
        · subst h10
          rw [if_neg (show ¬ treeTwo 10 by decide), show ((10 : Int) == 10) = true by rfl, cond_true]
          have q1 := put_len one.1 (2, 0, (one.2 : Int), (one.2 : Int))
          rw [spec_l24Put.law _ one.1 (big30_le (by omega)), Option.bind_some]
          generalize hp2 : put one.1 (2, 0, (one.2 : Int), (one.2 : Int)) = p2 at *
          simp only
          have q2 := put_len p2.1 (0, 0, 0, 0)
          rw [spec_l24Put.law _ p2.1 (big30_le (by omega)), Option.bind_some]
          generalize hp3 : put p2.1 (0, 0, 0, 0) = p3 at *
          simp only
          have q3 := put_len p3.1 (6, 0, (p3.2 : Int), (p2.2 : Int))
          rw [spec_l24Put.law _ p3.1 (big30_le (by omega)), Option.bind_some]
          generalize hp4 : put p3.1 (6, 0, (p3.2 : Int), (p2.2 : Int)) = p4 at *
          simp only
          rw [spec_l24Put.law _ p4.1 (big30_le (by omega)), Option.bind_some]
          simp only [ends, if_true, hp2, hp3, hp4, show ¬ (10 : Int) = 8 by decide, if_false]
        · rw [show (op == 10) = false by simpa using h10, cond_false, spec_l24One.law, Option.bind_some]
          simp only
          by_cases h2 : treeTwo op
          · have h2' := h2
            unfold treeTwo at h2'
            rw [if_pos h2, show treeOne op = false by unfold treeOne; rcases h2' with rfl | rfl | rfl | rfl <;> rfl, cond_false, l2, Option.bind_some]
            simp only
            by_cases h9 : op = 9
            · subst h9
              rw [show ((9 : Int) != 9) = false by rfl, cond_false]
              have q3 := put_len two.1 (2, 0, (one.2 : Int), (one.2 : Int))
              rw [spec_l24Put.law _ two.1 (big30_le (by omega)), Option.bind_some]
              generalize hp3 : put two.1 (2, 0, (one.2 : Int), (one.2 : Int)) = p3 at *
              simp only
              have q4 := put_len p3.1 (2, 0, (two.2 : Int), (two.2 : Int))
              rw [spec_l24Put.law _ p3.1 (big30_le (by omega)), Option.bind_some]
              generalize hp4 : put p3.1 (2, 0, (two.2 : Int), (two.2 : Int)) = p4 at *
              simp only
              have q5 := put_len p4.1 (3, 0, (p4.2 : Int), (p3.2 : Int))
              rw [spec_l24Put.law _ p4.1 (big30_le (by omega)), Option.bind_some]
              generalize hp5 : put p4.1 (3, 0, (p4.2 : Int), (p3.2 : Int)) = p5 at *
              simp only
              have q6 := put_len p5.1 (6, 0, (p4.2 : Int), (p5.2 : Int))
              rw [spec_l24Put.law _ p5.1 (big30_le (by omega)), Option.bind_some]
              generalize hp6 : put p5.1 (6, 0, (p4.2 : Int), (p5.2 : Int)) = p6 at *
              simp only
              have q7 := put_len p6.1 (7, 0, (p4.2 : Int), (p4.2 : Int))
              rw [spec_l24Put.law _ p6.1 (big30_le (by omega)), Option.bind_some]
              generalize hp7 : put p6.1 (7, 0, (p4.2 : Int), (p4.2 : Int)) = p7 at *
              simp only
              have q8 := put_len p7.1 (4, 0, (p6.2 : Int), (p7.2 : Int))
              rw [spec_l24Put.law _ p7.1 (big30_le (by omega)), Option.bind_some]
              generalize hp8 : put p7.1 (4, 0, (p6.2 : Int), (p7.2 : Int)) = p8 at *
              simp only
              rw [spec_l24Put.law _ p8.1 (big30_le (by omega)), Option.bind_some]
              simp only [ends, if_true, hp3, hp4, hp5, hp6, hp7, hp8, show ¬ (9 : Int) = 8 by decide, show ¬ (9 : Int) = 10 by decide, if_false]
            · rw [show (op != 9) = true by simpa using h9, cond_true, spec_l24Put.law _ two.1 (big30_le (by omega)), Option.bind_some]
              simp only [ends, h8, h10, h9, if_false]
          · have h2' := h2
            unfold treeTwo at h2'
            rw [if_neg h2, show treeOne op = true by
              unfold treeOne
              have : op = 2 ∨ op = 5 ∨ op = 7 := by omega
              rcases this with rfl | rfl | rfl <;> rfl, cond_true, spec_l24Put.law _ one.1 (big30_le (by omega)), Option.bind_some]
            simp only [ends, h8, h10, show ¬ op = 9 by omega, if_false]
end spec_l24Some

namespace impl_planting_of
theorem tail {op n a0 b0 a b : Int} {xs out : List I4} (hl : out.length + 8 ≤ big30) : L14 impl (a, b, xs, op, n, a0, b0, out, ()) = some (((ends op out a b).2 : Int), xs, (ends op out a b).1, ()) := by
  rw [L14_eq]; unfold F14
  by_cases h8 : op = 8
  · subst h8
    rw [show ((8 : Int) == 8) = true by rfl, cond_true]
    have q1 := put_len out (2, 0, a, a)
    rw [impl_planting_of_1.law _ _ out (big30_le (by omega)), Option.bind_some]
    generalize hp2 : put out (2, 0, a, a) = p2 at *
    simp only
    have q2 := put_len p2.1 (5, 0, (p2.2 : Int), (p2.2 : Int))
    rw [impl_planting_put.law _ _ _ _ p2.1 (big30_le (by omega)), Option.bind_some]
    generalize hp3 : put p2.1 (5, 0, (p2.2 : Int), (p2.2 : Int)) = p3 at *
    simp only
    rw [impl_planting_of_1.law _ _ p3.1 (big30_le (by omega)), Option.bind_some]
    simp only [ends, if_true, hp2, hp3]
  · rw [show (op == 8) = false by simpa using h8, cond_false]
    by_cases h10 : op = 10
    · subst h10
      rw [show ((10 : Int) == 10) = true by rfl, cond_true]
      have q1 := put_len out (2, 0, a, a)
      rw [impl_planting_of_1.law _ _ out (big30_le (by omega)), Option.bind_some]
      generalize hp2 : put out (2, 0, a, a) = p2 at *
      simp only
      rw [L21_eq]; unfold F21
      have q2 := put_len p2.1 (0, 0, 0, 0)
      rw [impl_planting_put.law _ _ _ _ p2.1 (big30_le (by omega)), Option.bind_some]
      generalize hp3 : put p2.1 (0, 0, 0, 0) = p3 at *
      simp only
      have q3 := put_len p3.1 (6, 0, (p3.2 : Int), (p2.2 : Int))
      rw [impl_planting_put.law _ _ _ _ p3.1 (big30_le (by omega)), Option.bind_some]
      generalize hp4 : put p3.1 (6, 0, (p3.2 : Int), (p2.2 : Int)) = p4 at *
      simp only
      rw [impl_planting_of_1.law _ _ p4.1 (big30_le (by omega)), Option.bind_some]
      simp only [ends, if_true, hp2, hp3, hp4, show ¬ (10 : Int) = 8 by decide, if_false]
    · rw [show (op == 10) = false by simpa using h10, cond_false]
      by_cases h9 : op = 9
      · subst h9
        rw [show ((9 : Int) == 9) = true by rfl, cond_true]
        have q3 := put_len out (2, 0, a, a)
        rw [impl_planting_of_1.law _ _ out (big30_le (by omega)), Option.bind_some]
        generalize hp3 : put out (2, 0, a, a) = p3 at *
        simp only
        have q4 := put_len p3.1 (2, 0, b, b)
        rw [impl_planting_of_1.law _ _ p3.1 (big30_le (by omega)), Option.bind_some]
        generalize hp4 : put p3.1 (2, 0, b, b) = p4 at *
        simp only
        rw [L25_eq]; unfold F25
        have q5 := put_len p4.1 (3, 0, (p4.2 : Int), (p3.2 : Int))
        rw [impl_planting_put.law _ _ _ _ p4.1 (big30_le (by omega)), Option.bind_some]
        generalize hp5 : put p4.1 (3, 0, (p4.2 : Int), (p3.2 : Int)) = p5 at *
        simp only
        have q6 := put_len p5.1 (6, 0, (p4.2 : Int), (p5.2 : Int))
        rw [impl_planting_put.law _ _ _ _ p5.1 (big30_le (by omega)), Option.bind_some]
        generalize hp6 : put p5.1 (6, 0, (p4.2 : Int), (p5.2 : Int)) = p6 at *
        simp only
        rw [L26_eq]; unfold F26
        have q7 := put_len p6.1 (7, 0, (p4.2 : Int), (p4.2 : Int))
        rw [impl_planting_put.law _ _ _ _ p6.1 (big30_le (by omega)), Option.bind_some]
        generalize hp7 : put p6.1 (7, 0, (p4.2 : Int), (p4.2 : Int)) = p7 at *
        simp only
        have q8 := put_len p7.1 (4, 0, (p6.2 : Int), (p7.2 : Int))
        rw [impl_planting_put.law _ _ _ _ p7.1 (big30_le (by omega)), Option.bind_some]
        generalize hp8 : put p7.1 (4, 0, (p6.2 : Int), (p7.2 : Int)) = p8 at *
        simp only
        rw [impl_planting_of_1.law _ _ p8.1 (big30_le (by omega)), Option.bind_some]
        simp only [ends, if_true, hp3, hp4, hp5, hp6, hp7, hp8, show ¬ (9 : Int) = 8 by decide, show ¬ (9 : Int) = 10 by decide, if_false]
      · rw [show (op == 9) = false by simpa using h9, cond_false, impl_planting_put.law _ _ _ _ out (big30_le (by omega)), Option.bind_some]
        simp only [ends, h8, h10, h9, if_false]
theorem leaf {t : I4} {xs out : List I4} (hl : out.length + 8 ≤ big30) : L5 impl (xs, t.1, t.2.1, t.2.2.1, t.2.2.2, out, ()) = some (((put out t).2 : Int), xs, (put out t).1, ()) := by
  rw [L5_eq]; unfold F5
  rw [slices_Index_of.law _ _ (big30_le (by omega)), Option.bind_some]
  by_cases h : atI out (t.1, t.2.1, t.2.2.1, t.2.2.2) < out.length
  · simp [h, put]
  · have := atI_le out (t.1, t.2.1, t.2.2.1, t.2.2.2)
    have e : atI out (t.1, t.2.1, t.2.2.1, t.2.2.2) = out.length := by omega
    simp only [h, if_false]
    rw [show decide ((-1 : Int) ≥ 0) = false by rfl, cond_false, L8_eq]; unfold F8
    unfold big30 at hl
    have hl2 : (out.length + 1) * 32 ≤ 140737488355328 := by omega
    simp [put, e, hl2]
    exact wI_small (by omega) (by omega)
theorem law {xs : List I4} (hv : Trees xs) : ∀ f i out, i < f → i < xs.length → out.length + 2 ^ (i + 3) + 8 ≤ big30 → ∃ o n, impl ((i : Int), xs, out, ()) = some (n, xs, o, ()) ∧
    ((plant xs f i out).1.length ≤ 24 → o = (plant xs f i out).1 ∧ n = ((plant xs f i out).2 : Int)) ∧ (24 < (plant xs f i out).1.length → 24 < o.length) ∧ out.length ≤ o.length ∧ o.length + 7 ≤ out.length + 2 ^ (i + 3)
  | 0, i, out, hf, hi, hb => by omega
  | f + 1, i, out, hf, hi, hb => by
    have hlen := plant_len hv (f + 1) i out hf hi
    obtain ⟨facts, hs⟩ := hv i hi
    rw [impl_eq]; unfold F0
    have h0 : 2 ^ 2 ≤ 2 ^ (i + 2) := Nat.pow_le_pow_right (by omega) (by omega)
    have h3 : 2 ^ (i + 3) = 2 ^ (i + 2) + 2 ^ (i + 2) := by rw [Nat.pow_succ]; omega
    by_cases hbig : 24 < out.length
    · rw [decide_eq_true (by omega), cond_true]
      exact ⟨out, 0, rfl, fun h => by omega, fun _ => hbig, by omega, by omega⟩
    · rw [decide_eq_false (by omega), cond_false]
      clear hlen
      unfold plant
      rw [inb_true hi, Int.toNat_natCast, cond_true]
      simp only
      generalize xs.getD i (0, 0, 0, 0) = t at hs
      obtain ⟨op, n, a, b⟩ := t
      unfold TreeStep at hs
      simp only at hs ⊢
      have hp : ∀ c : Nat, c < i → 2 ^ (c + 3) ≤ 2 ^ (i + 2) := fun c hc => Nat.pow_le_pow_right (by omega) (by omega)
      by_cases h1 : op ≤ 1
      · rw [if_pos h1, decide_eq_true h1, cond_true]
        have e1 := put_len out (op, n, a, b)
        have := leaf (t := (op, n, a, b)) (xs := xs) (out := out) (by omega)
        simp only at this
        rw [this]
        exact ⟨_, _, rfl, fun _ => ⟨rfl, rfl⟩, fun h => h, e1.1, by omega⟩
      · rw [if_neg h1, decide_eq_false h1, cond_false]
        have ea : a = (a.toNat : Int) := by omega
        have eb : b = (b.toNat : Int) := by omega
        have g1 := hp a.toNat (by omega)
        have g2 := hp b.toNat (by omega)
        have q1 := plant_len hv f a.toNat out (by omega) (by omega)
        have q2 := plant_len hv f b.toNat (plant xs f a.toNat out).1 (by omega) (by omega)
        obtain ⟨o1, m1, r1, r2, r3, r4, r5⟩ := law hv f a.toNat out (by omega) (by omega) (by omega)
        obtain ⟨o2, m2, s1, s2, s3, s4, s5⟩ := law hv f b.toNat o1 (by omega) (by omega) (by omega)
        have q3 := plant_len hv f b.toNat o1 (by omega) (by omega)
        rw [← ea] at r1
        rw [← eb] at s1
        rw [r1, Option.bind_some, impl_treeParts.law, Option.bind_some]
        simp only
        by_cases h2 : treeTwo op
        · have h2' := h2
          unfold treeTwo at h2'
          rw [if_pos h2, if_pos h2', show ((2 : Int) == 2) = true by rfl, cond_true, s1, Option.bind_some]
          simp only
          rw [tail (by omega)]
          have z := ends_len op (plant xs f b.toNat (plant xs f a.toNat out).1).1 ((plant xs f a.toNat out).2 : Int) ((plant xs f b.toNat (plant xs f a.toNat out).1).2 : Int)
          have z' := ends_len op o2 m1 m2
          refine ⟨_, _, rfl, fun h => ?_, fun h => ?_, by omega, by omega⟩
          · obtain ⟨z1, z2⟩ := r2 (by omega)
            rw [z1] at s2
            obtain ⟨z3, z4⟩ := s2 (by omega)
            rw [z2, z3, z4]
            exact ⟨rfl, rfl⟩
          · rcases Nat.lt_or_ge 24 (plant xs f a.toNat out).1.length with c | c
            · have c2 := r3 c
              omega
            · obtain ⟨z1, z2⟩ := r2 c
              rw [z1] at s2 s3
              rcases Nat.lt_or_ge 24 (plant xs f b.toNat (plant xs f a.toNat out).1).1.length with c2 | c2
              · have := s3 c2
                omega
              · obtain ⟨z3, z4⟩ := s2 c2
                rw [z2, z3, z4]; exact h
        · have h2' := h2
          unfold treeTwo at h2'
          rw [if_neg h2, if_neg h2', if_neg (show ¬ (op = 0 ∨ op = 1) by omega), show ((1 : Int) == 2) = false by rfl, cond_false]
          rw [tail (by omega)]
          have z := ends_len op (plant xs f a.toNat out).1 ((plant xs f a.toNat out).2 : Int) ((plant xs f a.toNat out).2 : Int)
          have z' := ends_len op o1 m1 m1
          refine ⟨_, _, rfl, fun h => ?_, fun h => ?_, by omega, by omega⟩
          · obtain ⟨z1, z2⟩ := r2 (by omega)
            rw [z1, z2]
            exact ⟨rfl, rfl⟩
          · rcases Nat.lt_or_ge 24 (plant xs f a.toNat out).1.length with c | c
            · have := r3 c
              omega
            · obtain ⟨z1, z2⟩ := r2 c
              rw [z1, z2]; exact h
end impl_planting_of

theorem trees_of {xs : List I4} {facts : Int} (h : treesOK xs facts = true) : Trees xs ∧ 1 ≤ xs.length ∧ xs.length ≤ 24 := by
  unfold treesOK at h
  simp only [Bool.and_eq_true, in3_iff, range_all, decide_eq_true_eq] at h
  exact ⟨fun i hi => ⟨facts, h.2.2 i hi⟩, by omega, by omega⟩
def planted (xs : List I4) (facts : Int) : List I4 :=
  if treesOK xs facts = true then (if 24 < (plant xs xs.length (xs.length - 1) []).1.length then [] else (plant xs xs.length (xs.length - 1) []).1) else []
theorem plant_all {xs : List I4} {facts : Int} (h : treesOK xs facts = true) : (plant xs xs.length (xs.length - 1) []).2 + 1 = (plant xs xs.length (xs.length - 1) []).1.length := by
  obtain ⟨hs, h1, h2⟩ := trees_of h
  have e1 := plant_last hs xs.length (xs.length - 1) [] (by omega) (by omega) (fun j hj => absurd hj (by simp))
  have e2 := plant_len hs xs.length (xs.length - 1) [] (by omega) (by omega)
  rcases e1.2 with e | e
  · rw [e] at e2; simp at e2
  · omega
theorem plant_big {xs : List I4} {facts : Int} (h : treesOK xs facts = true) : ([] : List I4).length + 2 ^ (xs.length - 1 + 3) + 8 ≤ big30 := by
  obtain ⟨hs, h1, h2⟩ := trees_of h
  unfold big30
  have : 2 ^ (xs.length - 1 + 3) ≤ 2 ^ 26 := Nat.pow_le_pow_right (by omega) (by omega)
  simp only [List.length_nil]
  omega

namespace spec_WithSome
theorem law (xs : List I4) (facts : Int) : impl (xs, facts, ()) = some (planted xs facts, ()) := by
  rw [impl_eq]; unfold F0
  rw [spec_TreesValid.law, Option.bind_some]
  unfold planted
  cases h : treesOK xs facts with
  | false => rfl
  | true =>
    obtain ⟨hs, h1, h2⟩ := trees_of h
    have e := plant_all h
    have b := plant_len hs xs.length (xs.length - 1) [] (by omega) (by omega)
    have big := plant_big h
    unfold big30 at big
    simp only [List.length_nil] at b big
    simp only [Bool.not_true, cond_false, if_true]
    rw [wI_small (n := (xs.length : Int) - 1) (by omega) (by omega), show (xs.length : Int) - 1 = ((xs.length - 1 : Nat) : Int) by omega, spec_l24Some.law hs xs.length (xs.length - 1) [] (by omega) (by omega) (plant_big h), Option.bind_some]
    simp only
    rw [wI_small (by omega) (by omega)]
    by_cases hbig : 24 < (plant xs xs.length (xs.length - 1) []).1.length
    · rw [if_pos hbig, decide_eq_true (by omega), cond_true]
    · rw [if_neg hbig, decide_eq_false (by omega), cond_false]
      rw [decide_eq_true (by omega), decide_eq_true (by omega)]
      simp only [Bool.and_self, cond_true, List.drop_zero, Nat.sub_zero]
      rw [List.take_of_length_le (by omega)]
end spec_WithSome
namespace impl_WithSome
theorem law (xs : List I4) (facts : Int) : impl (xs, facts, ()) = some (planted xs facts, ()) := by
  rw [impl_eq]; unfold F0
  rw [impl_TreesValid.law, Option.bind_some]
  unfold planted
  cases h : treesOK xs facts with
  | false => rfl
  | true =>
    obtain ⟨hs, h1, h2⟩ := trees_of h
    have e := plant_all h
    simp only [Bool.not_true, cond_false, if_true]
    obtain ⟨o, n, l1, l2, l3, l4, l5⟩ := impl_planting_of.law hs xs.length (xs.length - 1) [] (by omega) (by omega) (plant_big h)
    rw [wI_small (n := (xs.length : Int) - 1) (by omega) (by omega), show (xs.length : Int) - 1 = ((xs.length - 1 : Nat) : Int) by omega, l1, Option.bind_some]
    simp only
    by_cases hbig : 24 < (plant xs xs.length (xs.length - 1) []).1.length
    · have := l3 hbig
      rw [if_pos hbig, decide_eq_true (by omega), cond_true]
    · obtain ⟨z1, z2⟩ := l2 (by omega)
      rw [if_neg hbig, z1, z2, decide_eq_false (by omega), cond_false, wI_small (by omega) (by omega)]
      rw [decide_eq_true (by omega), decide_eq_true (by omega)]
      simp only [Bool.and_self, cond_true, List.drop_zero, Nat.sub_zero]
      rw [List.take_of_length_le (by omega), impl_clone_of.law _ (by omega)]
      rfl
end impl_WithSome
theorem planted_len (xs : List I4) (facts : Int) : (planted xs facts).length ≤ 24 := by
  unfold planted
  split
  · split
    · simp
    · omega
  · simp
namespace laws_FnExactWithSome
theorem law (xs : List I4) (facts : Int) (hx : xs.length ≤ maxLen) : impl (xs, facts, ()) = some (true, ()) := by
  rw [impl_eq]; unfold F0
  rw [laws_szTreeS.law _ _ (by omega) (by omega) hx, Option.bind_some]
  by_cases hbig : (1048576 : Int) - xs.length < 0
  · rw [if_pos hbig]; rfl
  · rw [if_neg hbig]
    have hl : xs.length ≤ 1048576 := by omega
    have hp := planted_len xs facts
    rw [show decide ((1048576 - (xs.length : Int), ()).1 < 0) = false from decide_eq_false hbig, cond_false]
    have m1 := laws_markTreeS.law xs 1 (by omega) (by omega)
    have m2 := laws_markTreeS.law (planted xs facts) 1 (by omega) (by omega)
    have m3 := laws_heldTreeS.law 1 (planted xs facts).length (by omega) (by omega)
    rw [show ((1 : Nat) : Int) = 1 from rfl] at m1 m2 m3
    simp only [laws_toTreeS.law _ hl, Option.bind_some, spec_WithSome.law, impl_WithSome.law, laws_eqTreeS.law _ _ (show (planted xs facts).length ≤ 1048576 by omega), laws_eqTreeS.law _ _ hl, decide_true, Bool.not_true, cond_false, m1, m2, m3]
    rw [decide_eq_false (by omega), decide_eq_false (by omega)]
    simp
end laws_FnExactWithSome
end Go.Proofs.YtgagmcbeobkfoaaB
