/- The plain law: what the functions compute, in plain Lean. -/
import Derived.Test.YtgagmcbeobkfoaaKFnExactTrimmed
import Derived.Test.YtgagmcbeobkfoaaP0
set_option linter.unusedVariables false
set_option maxRecDepth 10000
namespace Go.Proofs.YtgagmcbeobkfoaaB
open Go
namespace spec_l1In
theorem law (x a b : Int) : impl (x, a, b, ()) = some (in3 x a b, ()) := by
  rw [impl_eq]; unfold F0
  rw [cond_ret]
  congr 2
  rw [Bool.eq_iff_iff, in3_iff]
  simp only [cond_iff, decide_eq_true_eq, Bool.false_eq_true, and_false, or_false]
end spec_l1In
namespace impl_in
theorem law (x a b : Int) : impl (x, a, b, ()) = some (in3 x a b, ()) := by
  rw [impl_eq]; unfold F0
  rw [cond_ret]
  congr 2
  rw [Bool.eq_iff_iff, in3_iff]
  simp only [cond_iff, decide_eq_true_eq, Bool.false_eq_true, and_false, or_false]
end impl_in
/-! ### lists of Term: eq, mark, held, size, copy -/
namespace laws_szTermS
theorem law (xs : List I4) (l : Int) (h0 : 0 ≤ l) (hl : l ≤ 1048576) (hx : xs.length ≤ maxLen) : impl (xs, l, ()) = some (if l - xs.length < 0 then -1 else l - xs.length, ()) := by
  have : wI (l - xs.length) = l - xs.length := wI_small (by simp [maxLen] at hx; omega) (by omega)
  rw [impl_eq]; unfold F0
  rw [this]
  by_cases h : l - (xs.length : Int) < 0 <;> simp [h]
end laws_szTermS
namespace laws_toTerm
theorem law (x : I4) : impl (x, ()) = some (x, ()) := rfl
end laws_toTerm
namespace laws_toTermS
theorem law (xs : List I4) (hx : xs.length ≤ 1048576) : impl (xs, ()) = some (xs, ()) := by
  rw [impl_eq]; unfold F0
  have : (decide (0 ≤ (xs.length : Int)) && decide ((xs.length : Int) ≤ (xs.length : Int)) && decide ((xs.length : Int) * 32 ≤ 140737488355328)) = true := by
    simp; omega
  rw [this, cond_true]
  have h := up_copy (R := PO) xs (0, 0, 0, 0) id (fun i r => L3 (xs, (i : Int), r, ())) (fun r => (r, ())) (fun i r hi hr => by
    show L3 _ = _
    rw [L3_eq]; unfold F3
    rw [lt_len, inb_true hi, laws_toTerm.law, inb_true (by omega), wI_succ (by omega), Option.bind_some, Int.toNat_natCast]
    simp only [hi, decide_true, cond_true, id]) (fun r hr => by
    show L3 _ = _
    rw [L3_eq]; unfold F3
    simp) (List.replicate xs.length (0, 0, 0, 0)) (by simp)
  simpa using h
end laws_toTermS
namespace laws_eqTerm
theorem law (x y : I4) : impl (x, y, ()) = some (decide (x = y), ()) := by
  obtain ⟨a, b, c, d⟩ := x
  obtain ⟨a', b', c', d'⟩ := y
  rw [impl_eq]; unfold F0
  simp only [cond_ret]
  congr 2
  rw [Bool.eq_iff_iff]
  simp only [cond_iff, bne_iff_ne, decide_eq_true_eq, Prod.mk.injEq, ne_eq, Bool.false_eq_true, and_false, and_true, false_or]
  omega
end laws_eqTerm
namespace laws_eqTermS
theorem law (xs ys : List I4) (hx : xs.length ≤ 1048576) : impl (xs, ys, ()) = some (decide (xs = ys), ()) := by
  rw [impl_eq]; unfold F0
  by_cases hl : xs.length = ys.length
  · have : ((xs.length : Int) != (ys.length : Int)) = false := by simp [hl]
    rw [this, cond_false]
    have h := up_all (R := PO) (fun i => L4 (xs, ys, (i : Int), ())) xs.length (fun i => decide (xs.getD i (0, 0, 0, 0) = ys.getD i (0, 0, 0, 0))) (false, ()) (true, ()) (fun i hi => by
      show L4 _ = _
      rw [L4_eq]; unfold F4
      rw [lt_len]
      simp only [hi, decide_true, cond_true]
      rw [L6_eq]; unfold F6
      rw [inb_true hi, inb_true (by omega), laws_eqTerm.law, wI_succ (by omega), Option.bind_some, Int.toNat_natCast]
      simp only [cond_true]
      cases decide (xs.getD i (0, 0, 0, 0) = ys.getD i (0, 0, 0, 0)) <;> rfl) (by
      show L4 _ = _
      rw [L4_eq]; unfold F4; simp) xs.length 0 (by omega)
    rw [eq_all hl] at h
    refine (show _ = _ from h).trans ?_
    cases decide (xs = ys) <;> rfl
  · have : ((xs.length : Int) != (ys.length : Int)) = true := by
      simp; omega
    rw [this, cond_true, decide_eq_false (fun e => hl (by rw [e]))]
end laws_eqTermS
namespace laws_markTermS
theorem law (xs : List I4) (k : Nat) (hx : xs.length ≤ 1048576 * 32) (hk : k ≤ 1048576 * 1024) : impl ((k : Int), xs, ()) = some ((k : Int) + 4 * xs.length, marks k 0 xs.length, ()) := by
  rw [impl_eq]; unfold F0
  have key : ∀ d i (r : List I4), i + d = xs.length → r.length = xs.length → r.take i = marks k 0 i → L2 ((k : Int) + 4 * i, (i : Int), r, ()) = some ((k : Int) + 4 * xs.length, marks k 0 xs.length, ()) := by
    intro d
    induction d with
    | zero =>
      intro i r hi hr ht
      have : i = xs.length := by omega
      subst this
      rw [L2_eq]; unfold F2
      rw [List.take_of_length_le (by omega)] at ht
      simp [hr, ht]
    | succ d ih =>
      intro i r hi hr ht
      have hlt : i < r.length := by omega
      rw [L2_eq]; unfold F2
      simp only [List.length_set, lt_len, inb_true hlt, hlt, decide_true, cond_true, Int.toNat_natCast, List.set_set]
      rw [wI_small (n := (k : Int) + 4 * i + 1) (by omega) (by omega), wI_small (n := (k : Int) + 4 * i + 1 + 1) (by omega) (by omega), wI_small (n := (k : Int) + 4 * i + 1 + 1 + 1) (by omega) (by omega), wI_small (n := (k : Int) + 4 * i + 1 + 1 + 1 + 1) (by omega) (by omega), wI_succ (by omega)]
      have e1 : (k : Int) + 4 * i + 1 + 1 + 1 + 1 = (k : Int) + 4 * ((i + 1 : Nat) : Int) := by omega
      rw [e1]
      have hg : ∀ v : I4, (r.set i v).getD i (0, 0, 0, 0) = v := fun v => by rw [List.getD_eq_getElem?_getD]; simp [hlt]
      simp only [hg]
      refine ih (i + 1) _ (by omega) (by simp [hr]) ?_
      rw [marks_succ, ← ht]
      apply List.ext_getElem?
      intro j
      rcases Nat.lt_trichotomy j i with h | h | h
      · rw [List.getElem?_append_left (by simp; omega), List.getElem?_take_of_lt (by omega), List.getElem?_take_of_lt h, List.getElem?_set_ne (by omega)]
      · subst h
        rw [List.getElem?_append_right (by simp; omega)]
        have : min j r.length = j := by omega
        simp [List.getElem?_take_of_lt, hlt, this, mark4]
        omega
      · rw [List.getElem?_eq_none (by simp; omega), List.getElem?_eq_none (by simp; omega)]
  have := key xs.length 0 xs (by omega) rfl (by simp [marks])
  simpa using this
end laws_markTermS
namespace laws_heldTermS
theorem law (k n : Nat) (hn : n ≤ 1048576 * 32) (hk : k ≤ 1048576 * 1024) : impl (marks k 0 n, (k : Int), ()) = some ((k : Int) + 4 * n, ()) := by
  rw [impl_eq]; unfold F0
  have key : ∀ d i, i + d = n → L2 (marks k 0 n, (k : Int) + 4 * i, (i : Int), ()) = some ((k : Int) + 4 * n, ()) := by
    intro d
    induction d with
    | zero =>
      intro i hi
      have : i = n := by omega
      subst this
      rw [L2_eq]; unfold F2
      simp
    | succ d ih =>
      intro i hi
      have hlt : i < (marks k 0 n).length := by simp; omega
      rw [L2_eq]; unfold F2
      simp only [lt_len, inb_true hlt, hlt, decide_true, cond_true, Int.toNat_natCast]
      rw [wI_small (n := (k : Int) + 4 * i + 1) (by omega) (by omega), wI_small (n := (k : Int) + 4 * i + 1 + 1) (by omega) (by omega), wI_small (n := (k : Int) + 4 * i + 1 + 1 + 1) (by omega) (by omega), wI_small (n := (k : Int) + 4 * i + 1 + 1 + 1 + 1) (by omega) (by omega), wI_succ (by omega)]
      have e1 : (k : Int) + 4 * i + 1 + 1 + 1 + 1 = (k : Int) + 4 * ((i + 1 : Nat) : Int) := by omega
      rw [e1, marks_get (by simpa using hlt)]
      have e2 : mark4 k (0 + i) = ((k : Int) + 4 * i, (k : Int) + 4 * i + 1, (k : Int) + 4 * i + 1 + 1, (k : Int) + 4 * i + 1 + 1 + 1) := by simp [mark4]; omega
      rw [e2]
      simp only [bne_self_eq_false, cond_false]
      exact ih (i + 1) (by omega)
  have := key n 0 (by omega)
  simpa using this
end laws_heldTermS
namespace slices_Index_of
theorem law (t : I4) (out : List I4) (hl : (out.length + 1) * 32 ≤ 140737488355328) : impl (out, t, ()) = some (if atI out t < out.length then (atI out t : Int) else -1, ()) := by
  rw [impl_eq]; unfold F0
  have key : ∀ d i, i + d = out.length → (∀ j, j < i → out.getD j (0, 0, 0, 0) ≠ t) → L2 (out, (out.length : Int), (i : Int), t.1, t.2.1, t.2.2.1, t.2.2.2, ()) = some (if atI out t < out.length then (atI out t : Int) else -1, ()) := by
    intro d
    induction d with
    | zero =>
      intro i hi hb
      have : i = out.length := by omega
      subst this
      have h0 := atI_not hb
      rw [L2_eq]; unfold F2
      simp [h0]
    | succ d ih =>
      intro i hi hb
      have hlt : i < out.length := by omega
      rw [L2_eq]; unfold F2
      rw [lt_len]
      simp only [hlt, decide_true, cond_true]
      rw [L4_eq]; unfold F4
      rw [inb_true hlt, cond_true, Int.toNat_natCast, beq4 (x := (t.1, t.2.1, t.2.2.1, t.2.2.2)), wI_succ (by omega)]
      by_cases h : t = out.getD i (0, 0, 0, 0)
      · rw [decide_eq_true (show _ = _ from h), cond_true]
        have := atI_here hlt h.symm hb
        simp [this, hlt]
      · rw [decide_eq_false (show ¬ _ = _ from h), cond_false]
        refine ih (i + 1) (by omega) fun j hj => ?_
        rcases Nat.lt_or_ge j i with h1 | h1
        · exact hb j h1
        · have : j = i := by omega
          rw [this]; exact fun e => h e.symm
  exact key out.length 0 (by omega) fun j hj => by omega
end slices_Index_of
namespace impl_clone_of
theorem law (xs : List I4) (hx : xs.length ≤ 1048576) : impl (xs, ()) = some (xs, ()) := by
  rw [impl_eq]; unfold F0
  by_cases h : xs = []
  · subst h; rfl
  · have : 0 < xs.length := List.length_pos_iff.2 h
    rw [show ((xs.length : Int) == 0) = false by simp [h], cond_false]
    rw [decide_eq_true (by omega), decide_eq_true (by omega), decide_eq_true (by omega)]
    simp
end impl_clone_of
/-! ### Expressions: their kinds -/
def wantK (op : Int) : Int := if 7 ≤ op then 2 else 1
def ownK (op : Int) : Int := if 5 ≤ op then 2 else 1
def third (t : I4) (acc : List Int) : Bool :=
  in3 t.1 2 9 && (t.2.1 == 0 && (in3 t.2.2.1 0 (acc.length - 1) && (in3 t.2.2.2 0 (acc.length - 1) && (acc.getD t.2.2.1.toNat 0 == wantK t.1 && (acc.getD t.2.2.2.toNat 0 == wantK t.1 && (!(t.1 == 7) || t.2.2.2 == t.2.2.1))))))
/-- the kind of a term behind terms of these kinds -/
def termKind (t : I4) (acc : List Int) (vars : Int) : Int :=
  bif t.1 == 0 && (in3 t.2.1 (-9999) 9999 && (t.2.2.1 == 0 && t.2.2.2 == 0)) then 1
  else bif t.1 == 1 && (in3 t.2.1 0 (vars - 1) && (t.2.2.1 == 0 && t.2.2.2 == 0)) then 1
  else bif third t acc then ownK t.1 else 0
def kindsGo (vars : Int) : List I4 → List Int → List Int
  | [], acc => acc
  | t :: ts, acc => bif termKind t acc vars == 0 then [] else kindsGo vars ts (acc ++ [termKind t acc vars])
def kinds (xs : List I4) (vars : Int) : List Int := bif in3 vars 0 5 && in3 xs.length 1 40 then kindsGo vars xs [] else []
theorem ownK_ne (op : Int) : (ownK op == 0) = false := by unfold ownK; split <;> rfl

namespace spec_l1One
theorem law (x : Int) : impl (x, ()) = some (x == 7, ()) := rfl
end spec_l1One
namespace spec_l1Kind
theorem law (t : I4) (acc : List Int) (vars : Int) (hl : acc.length ≤ 1048576) (hv : 0 ≤ vars ∧ vars ≤ 1048576) : impl (t, acc, vars, ()) = some (termKind t acc vars, ()) := by
  obtain ⟨op, n, a, b⟩ := t
  have h5 : L5 (acc, op, n, a, b, ()) = some (bif third (op, n, a, b) acc then ownK op else 0, ()) := by
    rw [L5_eq]; unfold F5
    simp only [spec_l1In.law, Option.bind_some, wI_small (n := (acc.length : Int) - 1) (by omega) (by omega)]
    unfold third
    simp only
    cases e1 : in3 op 2 9 with
    | false => rfl
    | true => cases e2 : n == 0 with
      | false =>
        have e2' : (n != 0) = true := by unfold bne; rw [e2]; rfl
        rw [e2']; rfl
      | true =>
        have e2' : n = 0 := by simpa using e2
        subst e2'
        cases e3 : in3 a 0 ((acc.length : Int) - 1) with
        | false => rfl
        | true => cases e4 : in3 b 0 ((acc.length : Int) - 1) with
          | false => rfl
          | true =>
            rw [in3_iff] at e1 e3 e4
            have ha : inb a acc.length = true := inb_int (by omega) (by omega)
            have hb : inb b acc.length = true := inb_int (by omega) (by omega)
            simp only [Bool.not_true, cond_false, bne_self_eq_false]
            have h10 : L10 (acc, wantK op, op, 0, a, b, ()) = some (bif (acc.getD a.toNat 0 == wantK op && (acc.getD b.toNat 0 == wantK op && (!(op == 7) || b == a))) then ownK op else 0, ()) := by
              rw [L10_eq]; unfold F10
              simp only [ha, hb, cond_true, spec_l1One.law, Option.bind_some]
              have ho : (bif decide (op ≥ 5) then some ((2 : Int), ()) else some (1, ())) = some (ownK op, ()) := by
                unfold ownK
                by_cases h : 5 ≤ op
                · rw [decide_eq_true (show op ≥ 5 from h), if_pos h]; rfl
                · rw [decide_eq_false (show ¬ op ≥ 5 from h), if_neg h]; rfl
              rw [ho]
              cases f1 : acc.getD a.toNat 0 == wantK op with
              | false =>
                have f1' : (acc.getD a.toNat 0 != wantK op) = true := by unfold bne; rw [f1]; rfl
                rw [f1']; rfl
              | true =>
                have f1' : (acc.getD a.toNat 0 != wantK op) = false := by unfold bne; rw [f1]; rfl
                rw [f1', cond_false]
                cases f2 : acc.getD b.toNat 0 == wantK op with
                | false =>
                  have f2' : (acc.getD b.toNat 0 != wantK op) = true := by unfold bne; rw [f2]; rfl
                  rw [f2']; rfl
                | true =>
                  have f2' : (acc.getD b.toNat 0 != wantK op) = false := by unfold bne; rw [f2]; rfl
                  rw [f2', cond_false]
                  cases op == 7 with
                  | false => rfl
                  | true => cases f3 : b == a with
                    | false =>
                      have f3' : (b != a) = true := by unfold bne; rw [f3]; rfl
                      rw [f3']; rfl
                    | true =>
                      have f3' : (b != a) = false := by unfold bne; rw [f3]; rfl
                      rw [f3']; rfl
            rw [L7_eq]; unfold F7
            by_cases h7 : 7 ≤ op
            · have : wantK op = 2 := by unfold wantK; rw [if_pos h7]
              rw [this] at h10
              rw [decide_eq_true (show op ≥ 7 from h7), cond_true, h10, this]
              rfl
            · have : wantK op = 1 := by unfold wantK; rw [if_neg h7]
              rw [this] at h10
              rw [decide_eq_false (show ¬ op ≥ 7 from h7), cond_false, h10, this]
              rfl
  have h3 : L3 (acc, vars, op, n, a, b, ()) = some (bif op == 1 && (in3 n 0 (vars - 1) && (a == 0 && b == 0)) then 1 else bif third (op, n, a, b) acc then ownK op else 0, ()) := by
    rw [L3_eq]; unfold F3
    simp only [spec_l1In.law, Option.bind_some, wI_small (n := vars - 1) (by omega) (by omega), h5]
    cases op == 1 <;> cases in3 n 0 (vars - 1) <;> cases a == 0 <;> cases b == 0 <;> rfl
  rw [impl_eq]; unfold F0 termKind
  simp only [spec_l1In.law, Option.bind_some, h3]
  cases op == 0 <;> cases in3 n (-9999) 9999 <;> cases a == 0 <;> cases b == 0 <;> rfl
end spec_l1Kind
namespace spec_KindsOf
theorem loop (xs : List I4) (vars : Int) (hv : 0 ≤ vars ∧ vars ≤ 1048576) (hx : xs.length ≤ 1048576) : ∀ d i (acc : List Int), i + d = xs.length → acc.length = i → L5 (xs, vars, (i : Int), acc, ()) = some (kindsGo vars (xs.drop i) acc, ())
  | 0, i, acc, hi, ha => by
    have : i = xs.length := by omega
    subst this
    rw [L5_eq]; unfold F5
    simp [kindsGo]
  | d + 1, i, acc, hi, ha => by
    have hlt : i < xs.length := by omega
    rw [L5_eq]; unfold F5
    rw [lt_len, inb_true hlt, Int.toNat_natCast, spec_l1Kind.law _ _ _ (by omega) hv, Option.bind_some, wI_succ (by omega), List.drop_eq_getElem_cons hlt, getD_eq hlt]
    simp only [hlt, decide_true, cond_true, kindsGo]
    cases h : termKind xs[i] acc vars == 0 with
    | true => rfl
    | false =>
      simp only [cond_false]
      rw [decide_eq_true (by simp; omega), cond_true, loop xs vars hv hx d (i + 1) _ (by omega) (by simp [ha])]
theorem law (xs : List I4) (vars : Int) : impl (xs, vars, ()) = some (kinds xs vars, ()) := by
  rw [impl_eq]; unfold F0
  simp only [spec_l1In.law, Option.bind_some]
  unfold kinds
  cases h1 : in3 vars 0 5 with
  | false => rfl
  | true => cases h2 : in3 xs.length 1 40 with
    | false => rfl
    | true =>
      rw [in3_iff] at h1 h2
      simp only [Bool.not_true, cond_false, Bool.and_self, cond_true]
      rw [L3_eq]; unfold F3
      exact loop xs vars (by omega) (by omega) xs.length 0 [] (by omega) rfl
end spec_KindsOf
def termsOK (xs : List I4) (vars : Int) : Bool := !(kinds xs vars).isEmpty
namespace spec_TermsValid
theorem law (xs : List I4) (vars : Int) : impl (xs, vars, ()) = some (termsOK xs vars, ()) := by
  rw [impl_eq]; unfold F0 termsOK
  rw [spec_KindsOf.law, Option.bind_some]
  cases kinds xs vars <;> simp
end spec_TermsValid
namespace impl_parts
theorem law (op : Int) : impl (op, ()) = some (if 2 ≤ op ∧ op ≤ 9 then (if op = 7 then 1 else 2, wantK op, ownK op, ()) else (0, 0, 1, ())) := by
  rw [impl_eq]
  by_cases h : 2 ≤ op ∧ op ≤ 9
  · have : op = 2 ∨ op = 3 ∨ op = 4 ∨ op = 5 ∨ op = 6 ∨ op = 7 ∨ op = 8 ∨ op = 9 := by omega
    rcases this with rfl | rfl | rfl | rfl | rfl | rfl | rfl | rfl <;> rfl
  · rw [if_neg h]
    unfold F0
    have e2 : (op == 2) = false := by simp; omega
    have e3 : (op == 3) = false := by simp; omega
    have e4 : (op == 4) = false := by simp; omega
    have e5 : (op == 5) = false := by simp; omega
    have e6 : (op == 6) = false := by simp; omega
    have e7 : (op == 7) = false := by simp; omega
    have e8 : (op == 8) = false := by simp; omega
    have e9 : (op == 9) = false := by simp; omega
    rw [e2, e3, e4, e5, e6, e7, e8, e9]; rfl
end impl_parts
namespace impl_kindsOf
theorem step {xs : List I4} {vars : Int} {i : Nat} {acc : List Int} (hv : 0 ≤ vars ∧ vars ≤ 1048576) (hx : xs.length ≤ 1048576) (hi : i < xs.length) (ha : acc.length = i) :
    L5 (vars, xs, (xs.length : Int), (i : Int), acc, ()) = bif termKind (xs.getD i (0, 0, 0, 0)) acc vars == 0 then some ([], ()) else L5 (vars, xs, (xs.length : Int), ((i + 1 : Nat) : Int), acc ++ [termKind (xs.getD i (0, 0, 0, 0)) acc vars], ()) := by
  rw [L5_eq]; unfold F5
  rw [lt_len, inb_true hi, Int.toNat_natCast, wI_succ (by omega), wI_small (n := (i : Int) - 1) (by omega) (by omega), wI_small (n := vars - 1) (by omega) (by omega)]
  simp only [hi, decide_true, cond_true, impl_in.law, impl_parts.law, Option.bind_some]
  have hroom : ∀ k : Int, decide ((acc.length + ([k] : List Int).length) * 8 ≤ 140737488355328) = true := fun k => decide_eq_true (by simp; omega)
  simp only [hroom, cond_true]
  generalize xs.getD i (0, 0, 0, 0) = t
  obtain ⟨op, n, a, b⟩ := t
  generalize hz : (fun k : Int => L5 (vars, xs, (xs.length : Int), ((i + 1 : Nat) : Int), acc ++ [k], ())) = z
  have hz' : ∀ k, L5 (vars, xs, (xs.length : Int), ((i + 1 : Nat) : Int), acc ++ [k], ()) = z k := fun k => by rw [← hz]
  simp only [hz']
  unfold termKind third
  simp only
  rw [ha]
  by_cases h0 : op = 0
  · subst h0
    rw [if_neg (by omega)]
    simp only [show ((0 : Int) == 0) = true by rfl, show ((0 : Int) == 1) = false by rfl, show in3 0 2 9 = false by rfl, cond_true, cond_false, Bool.true_and, Bool.false_and]
    cases in3 n (-9999) 9999 <;> cases a == 0 <;> cases b == 0 <;> rfl
  · by_cases h1 : op = 1
    · subst h1
      rw [if_neg (by omega)]
      simp only [show ((1 : Int) == 0) = false by rfl, show ((1 : Int) == 1) = true by rfl, show in3 1 2 9 = false by rfl, cond_true, cond_false, Bool.true_and, Bool.false_and]
      cases in3 n 0 (vars - 1) <;> cases a == 0 <;> cases b == 0 <;> rfl
    · have e0 : (op == 0) = false := by simpa using h0
      have e1 : (op == 1) = false := by simpa using h1
      simp only [e0, e1, cond_false, Bool.false_and]
      by_cases h2 : 2 ≤ op ∧ op ≤ 9
      · have i1 : in3 op 0 9 = true := in3_iff.2 (by omega)
        have i2 : in3 op 2 9 = true := in3_iff.2 h2
        rw [if_pos h2]
        simp only [i1, i2, cond_true, Bool.true_and]
        cases n == 0 with
        | false => rfl
        | true => cases e3 : in3 a 0 ((i : Int) - 1) with
          | false => rfl
          | true => cases e4 : in3 b 0 ((i : Int) - 1) with
            | false => rfl
            | true =>
              rw [in3_iff] at e3 e4
              simp only [inb_int (show 0 ≤ a by omega) (show a < ((i : Nat) : Int) by omega), inb_int (show 0 ≤ b by omega) (show b < ((i : Nat) : Int) by omega), cond_true, Bool.true_and]
              cases acc.getD a.toNat 0 == wantK op with
              | false => rfl
              | true => cases acc.getD b.toNat 0 == wantK op with
                | false => rfl
                | true =>
                  by_cases h7 : op = 7
                  · subst h7
                    simp only [if_true, show ((7 : Int) == 7) = true by rfl, show ((1 : Int) == 2) = false by rfl, Bool.true_and, cond_true, cond_false, Bool.not_true, Bool.false_or]
                    have : (a == b) = (b == a) := Bool.eq_iff_iff.2 (by simp; omega)
                    rw [this]
                    cases b == a with
                    | false => rfl
                    | true => rfl
                  · have e7 : (op == 7) = false := by simpa using h7
                    simp only [if_neg h7, e7, show ((2 : Int) == 2) = true by rfl, Bool.true_and, cond_true, Bool.not_false, Bool.true_or, ownK_ne, cond_false]
      · have i1 : in3 op 0 9 = false := by rw [← Bool.not_eq_true, in3_iff]; omega
        have i2 : in3 op 2 9 = false := by rw [← Bool.not_eq_true, in3_iff]; omega
        rw [if_neg h2]
        simp only [i1, i2]
        rfl
theorem loop (xs : List I4) (vars : Int) (hv : 0 ≤ vars ∧ vars ≤ 1048576) (hx : xs.length ≤ 1048576) : ∀ d i (acc : List Int), i + d = xs.length → acc.length = i → (d = 0 → acc ≠ []) → L5 (vars, xs, (xs.length : Int), (i : Int), acc, ()) = some (kindsGo vars (xs.drop i) acc, ())
  | 0, i, acc, hi, ha, hne => by
    have : i = xs.length := by omega
    subst this
    rw [L5_eq]; unfold F5
    have : acc.isEmpty = false := by cases acc with | nil => exact absurd rfl (hne rfl) | cons _ _ => rfl
    simp [kindsGo, this]
  | d + 1, i, acc, hi, ha, _ => by
    have hlt : i < xs.length := by omega
    rw [step hv hx hlt ha, List.drop_eq_getElem_cons hlt, getD_eq hlt]
    simp only [kindsGo]
    cases h : termKind xs[i] acc vars == 0 with
    | true => rfl
    | false => exact loop xs vars hv hx d (i + 1) _ (by omega) (by simp [ha]) (fun _ => by simp)
theorem law (xs : List I4) (vars : Int) : impl (xs, vars, ()) = some (kinds xs vars, ()) := by
  rw [impl_eq]; unfold F0
  simp only [impl_in.law, Option.bind_some]
  unfold kinds
  cases h1 : in3 vars 0 5 with
  | false => rfl
  | true => cases h2 : in3 xs.length 1 40 with
    | false => rfl
    | true =>
      rw [in3_iff] at h1 h2
      simp only [Bool.not_true, cond_false, Bool.and_self, cond_true]
      rw [L3_eq]; unfold F3
      rw [decide_eq_true (by omega), decide_eq_true (by omega)]
      exact loop xs vars (by omega) (by omega) xs.length 0 [] (by omega) rfl (fun h => by omega)
end impl_kindsOf
namespace impl_TermsValid
theorem law (xs : List I4) (vars : Int) : impl (xs, vars, ()) = some (termsOK xs vars, ()) := by
  rw [impl_eq]; unfold F0 termsOK
  rw [impl_kindsOf.law]; rfl
end impl_TermsValid

/-! what a valid expression is -/
def TermAt (t : I4) (i : Nat) : Prop :=
  t.1 = 0 ∨ t.1 = 1 ∨ (2 ≤ t.1 ∧ t.1 ≤ 9 ∧ t.2.1 = 0 ∧ 0 ≤ t.2.2.1 ∧ t.2.2.1 < i ∧ 0 ≤ t.2.2.2 ∧ t.2.2.2 < i ∧ (t.1 = 7 → t.2.2.2 = t.2.2.1))
theorem termKind_at {t : I4} {acc : List Int} {vars : Int} (h : (termKind t acc vars == 0) = false) : TermAt t acc.length := by
  unfold termKind at h
  cases e1 : (t.1 == 0 && (in3 t.2.1 (-9999) 9999 && (t.2.2.1 == 0 && t.2.2.2 == 0))) with
  | true => simp only [Bool.and_eq_true, beq_iff_eq] at e1; exact .inl e1.1
  | false =>
    rw [e1, cond_false] at h
    cases e2 : (t.1 == 1 && (in3 t.2.1 0 (vars - 1) && (t.2.2.1 == 0 && t.2.2.2 == 0))) with
    | true => simp only [Bool.and_eq_true, beq_iff_eq] at e2; exact .inr (.inl e2.1)
    | false =>
      rw [e2, cond_false] at h
      cases e3 : third t acc with
      | false => rw [e3] at h; cases h
      | true =>
        unfold third at e3
        simp only [Bool.and_eq_true, beq_iff_eq, in3_iff, Bool.or_eq_true, Bool.not_eq_true', beq_eq_false_iff_ne, ne_eq] at e3
        refine .inr (.inr ⟨e3.1.1, e3.1.2, e3.2.1, e3.2.2.1.1, by omega, e3.2.2.2.1.1, by omega, fun h7 => ?_⟩)
        rcases e3.2.2.2.2.2.2 with h | h
        · exact absurd h7 h
        · exact h
theorem kindsGo_at {vars : Int} : ∀ {xs : List I4} {acc : List Int}, (kindsGo vars xs acc).isEmpty = false → acc.length + xs.length = (kindsGo vars xs acc).length ∧ ∀ j, j < xs.length → TermAt (xs.getD j (0, 0, 0, 0)) (acc.length + j)
  | [], acc, h => by simp [kindsGo]
  | t :: ts, acc, h => by
    unfold kindsGo at h ⊢
    cases e : termKind t acc vars == 0 with
    | true => rw [e] at h; cases h
    | false =>
      rw [e] at h
      simp only [cond_false] at h ⊢
      obtain ⟨h1, h2⟩ := kindsGo_at h
      simp only [List.length_append, List.length_cons, List.length_nil] at h1 h2 ⊢
      refine ⟨by omega, fun j hj => ?_⟩
      cases j with
      | zero => simpa using termKind_at e
      | succ j =>
        have := h2 j (by omega)
        rw [show acc.length + (0 + 1) + j = acc.length + (j + 1) by omega] at this
        simpa using this
def Terms (xs : List I4) : Prop := ∀ i, i < xs.length → TermAt (xs.getD i (0, 0, 0, 0)) i
theorem terms_of {xs : List I4} {vars : Int} (h : termsOK xs vars = true) : Terms xs ∧ 1 ≤ xs.length ∧ xs.length ≤ 40 ∧ 0 ≤ vars ∧ vars ≤ 5 := by
  unfold termsOK kinds at h
  cases e : in3 vars 0 5 && in3 xs.length 1 40 with
  | false => rw [e] at h; cases h
  | true =>
    rw [e, cond_true] at h
    simp only [Bool.and_eq_true, in3_iff] at e
    have := (kindsGo_at (show (kindsGo vars xs []).isEmpty = false by simpa using h)).2
    exact ⟨fun i hi => by simpa using this i hi, by omega, by omega, by omega, by omega⟩
/-! ### The plain law of Trimmed -/
/-- how many terms, each as often as it is needed -/
def treeSize (xs : List I4) : Nat → Nat → Nat
  | 0, _ => 1
  | f + 1, i =>
    let t := xs.getD i (0, 0, 0, 0)
    if t.1 < 2 then 1
    else if t.1 = 7 then 1 + treeSize xs f t.2.2.1.toNat
    else 1 + treeSize xs f t.2.2.1.toNat + treeSize xs f t.2.2.2.toNat
theorem treeSize_fuel {xs : List I4} (hv : Terms xs) : ∀ f f' i, i < f → i < f' → i < xs.length → treeSize xs f i = treeSize xs f' i
  | 0, _, i, h, _, _ => by omega
  | _ + 1, 0, i, _, h, _ => by omega
  | f + 1, f' + 1, i, h, h', hi => by
    have hs := hv i hi
    unfold treeSize
    simp only
    generalize xs.getD i (0, 0, 0, 0) = t at hs
    obtain ⟨op, n, a, b⟩ := t
    unfold TermAt at hs
    simp only at hs ⊢
    by_cases h2 : op < 2
    · rw [if_pos h2, if_pos h2]
    · rw [if_neg h2, if_neg h2, treeSize_fuel hv f f' a.toNat (by omega) (by omega) (by omega), treeSize_fuel hv f f' b.toNat (by omega) (by omega) (by omega)]
def trim (xs : List I4) : Nat → Nat → List I4 → List I4 × Nat
  | 0, _, out => (out, 0)
  | f + 1, i, out =>
    let t := xs.getD i (0, 0, 0, 0)
    if t.1 < 2 then put out t
    else
      let one := trim xs f t.2.2.1.toNat out
      if t.1 = 7 then put one.1 (t.1, 0, one.2, one.2)
      else
        let two := trim xs f t.2.2.2.toNat one.1
        put two.1 (t.1, 0, one.2, two.2)
theorem trim_len {xs : List I4} (hv : Terms xs) : ∀ f i out, i < f → i < xs.length → out.length ≤ (trim xs f i out).1.length ∧ (trim xs f i out).1.length ≤ out.length + treeSize xs f i ∧ (trim xs f i out).2 < (trim xs f i out).1.length
  | 0, i, out, hf, hi => by omega
  | f + 1, i, out, hf, hi => by
    have hs := hv i hi
    unfold trim treeSize
    simp only
    generalize xs.getD i (0, 0, 0, 0) = t at hs
    obtain ⟨op, n, a, b⟩ := t
    unfold TermAt at hs
    simp only at hs ⊢
    by_cases h2 : op < 2
    · rw [if_pos h2, if_pos h2]
      have := put_len out (op, n, a, b)
      omega
    · rw [if_neg h2, if_neg h2]
      have e1 := trim_len hv f a.toNat out (by omega) (by omega)
      by_cases h7 : op = 7
      · rw [if_pos h7, if_pos h7]
        have e2 := put_len (trim xs f a.toNat out).1 (op, 0, ((trim xs f a.toNat out).2 : Int), ((trim xs f a.toNat out).2 : Int))
        omega
      · rw [if_neg h7, if_neg h7]
        have e2 := trim_len hv f b.toNat (trim xs f a.toNat out).1 (by omega) (by omega)
        have e3 := put_len (trim xs f b.toNat (trim xs f a.toNat out).1).1 (op, 0, ((trim xs f a.toNat out).2 : Int), ((trim xs f b.toNat (trim xs f a.toNat out).1).2 : Int))
        omega
theorem trim_last {xs : List I4} (hv : Terms xs) : ∀ f i out, i < f → i < xs.length → Closed out → Closed (trim xs f i out).1 ∧ ((trim xs f i out).1 = out ∨ ((trim xs f i out).2 : Int) + 1 = (trim xs f i out).1.length)
  | 0, i, out, hf, hi, hc => by omega
  | f + 1, i, out, hf, hi, hc => by
    have hs := hv i hi
    unfold trim
    simp only
    generalize xs.getD i (0, 0, 0, 0) = t at hs
    obtain ⟨op, n, a, b⟩ := t
    unfold TermAt at hs
    simp only at hs ⊢
    by_cases h2 : op < 2
    · rw [if_pos h2]
      refine ⟨put_closed hc (fun h => absurd (show (2 : Int) ≤ op from h) (by omega)), ?_⟩
      rcases put_last out (op, n, a, b) with p | p
      · exact .inl p
      · exact .inr (by omega)
    · rw [if_neg h2]
      obtain ⟨c1, p1⟩ := trim_last hv f a.toNat out (by omega) (by omega) hc
      have q1 := trim_len hv f a.toNat out (by omega) (by omega)
      by_cases h7 : op = 7
      · rw [if_pos h7]
        exact ⟨put_closed c1 (fun _ => ⟨by simp only; omega, by simp only; omega⟩), put_keep c1 (by simp only; omega) (p1.imp_right .inl)⟩
      · rw [if_neg h7]
        obtain ⟨c2, p2⟩ := trim_last hv f b.toNat (trim xs f a.toNat out).1 (by omega) (by omega) c1
        have q2 := trim_len hv f b.toNat (trim xs f a.toNat out).1 (by omega) (by omega)
        refine ⟨put_closed c2 (fun _ => ⟨by simp only; omega, by simp only; omega⟩), put_keep c2 (by simp only; omega) ?_⟩
        rcases p2 with p2 | p2
        · rw [p2]; exact p1.imp_right .inl
        · exact .inr (.inr p2)

/-! the sizes, held to 4000 -/
def size1 (t : I4) (acc : List Int) : Int :=
  if t.1 < 2 then 1
  else if t.1 = 7 then min 4000 (1 + acc.getD t.2.2.1.toNat 0)
  else min 4000 (1 + acc.getD t.2.2.1.toNat 0 + acc.getD t.2.2.2.toNat 0)
def sizes (xs : List I4) (n : Nat) : List Int := (List.range n).map fun i => min 4000 (treeSize xs xs.length i : Int)
theorem sizes_get {xs : List I4} {n i : Nat} (h : i < n) : (sizes xs n).getD i 0 = min 4000 (treeSize xs xs.length i : Int) := by
  unfold sizes
  rw [getD_eq (by simpa using h)]
  simp
theorem sizes_len {xs : List I4} {n : Nat} : (sizes xs n).length = n := by simp [sizes]
theorem sizes_succ {xs : List I4} {n : Nat} : sizes xs (n + 1) = sizes xs n ++ [min 4000 (treeSize xs xs.length n : Int)] := by simp [sizes, List.range_succ]
theorem size1_eq {xs : List I4} (hv : Terms xs) {i : Nat} (hi : i < xs.length) : size1 (xs.getD i (0, 0, 0, 0)) (sizes xs i) = min 4000 (treeSize xs xs.length i : Int) := by
  have hs := hv i hi
  obtain ⟨m, hm⟩ : ∃ m, xs.length = m + 1 := ⟨xs.length - 1, by omega⟩
  have hf : ∀ c : Nat, c < i → treeSize xs m c = treeSize xs xs.length c := fun c hc => treeSize_fuel hv _ _ _ (by omega) (by omega) (by omega)
  conv => rhs; rw [hm]; unfold treeSize
  unfold size1
  simp only
  generalize xs.getD i (0, 0, 0, 0) = t at hs
  obtain ⟨op, n, a, b⟩ := t
  unfold TermAt at hs
  simp only at hs ⊢
  by_cases h2 : op < 2
  · rw [if_pos h2, if_pos h2]; rfl
  · rw [if_neg h2, if_neg h2, sizes_get (show a.toNat < i by omega), sizes_get (show b.toNat < i by omega), hf a.toNat (by omega), hf b.toNat (by omega)]
    by_cases h7 : op = 7
    · rw [if_pos h7, if_pos h7]; omega
    · rw [if_neg h7, if_neg h7]; omega
def short (xs : List I4) : Bool := decide (treeSize xs xs.length (xs.length - 1) < 4000)

namespace spec_l30Short
theorem loop {xs : List I4} (hv : Terms xs) (hx : xs.length ≤ 40) (h1 : 1 ≤ xs.length) : ∀ d i, i + d = xs.length → L3 (xs, (i : Int), sizes xs i, ()) = some (short xs, ())
  | 0, i, hi => by
    have : i = xs.length := by omega
    subst this
    rw [L3_eq]; unfold F3
    rw [decide_eq_false (show ¬ (xs.length : Int) < (xs.length : Int) by omega), cond_false]
    rw [sizes_len, wI_small (by omega) (by omega), show (xs.length : Int) - 1 = ((xs.length - 1 : Nat) : Int) by omega, inb_true (by omega), Int.toNat_natCast, sizes_get (by omega)]
    rw [cond_true]
    congr 2
    unfold short
    congr 1
    exact propext ⟨fun h => by omega, fun h => by omega⟩
  | d + 1, i, hi => by
    have hlt : i < xs.length := by omega
    have ih := loop hv hx h1 d (i + 1) (by omega)
    rw [sizes_succ, ← size1_eq hv hlt] at ih
    have hs := hv i hlt
    rw [L3_eq]; unfold F3
    rw [lt_len, inb_true hlt, wI_succ (by omega), Int.toNat_natCast]
    simp only [hlt, decide_true, cond_true, spec_l1One.law, Option.bind_some, sizes_len]
    have hg : ∀ c : Nat, c < i → 0 ≤ (sizes xs i).getD c 0 ∧ (sizes xs i).getD c 0 ≤ 4000 := fun c hc => by rw [sizes_get hc]; omega
    have hroom : ∀ k : Int, decide ((i + ([k] : List Int).length) * 8 ≤ 140737488355328) = true := fun k => decide_eq_true (by simp; omega)
    simp only [hroom, cond_true]
    generalize hz : xs.getD i (0, 0, 0, 0) = t at hs ih
    obtain ⟨op, n, a, b⟩ := t
    unfold TermAt at hs
    unfold size1 at ih
    simp only at hs ih ⊢
    by_cases h2 : op < 2
    · rw [decide_eq_false (show ¬ op ≥ 2 by omega), cond_false]
      rw [if_pos h2] at ih
      exact ih
    · rw [decide_eq_true (show op ≥ 2 by omega), cond_true]
      rw [if_neg h2] at ih
      have ga := hg a.toNat (by omega)
      have gb := hg b.toNat (by omega)
      rw [inb_int (show 0 ≤ a by omega) (show a < ((i : Nat) : Int) by omega), inb_int (show 0 ≤ b by omega) (show b < ((i : Nat) : Int) by omega)]
      rw [wI_small (n := 1 + (sizes xs i).getD a.toNat 0) (by omega) (by omega), wI_small (n := 1 + (sizes xs i).getD a.toNat 0 + (sizes xs i).getD b.toNat 0) (by omega) (by omega)]
      by_cases h7 : op = 7
      · subst h7
        rw [if_pos rfl] at ih
        simp only [show ((7 : Int) == 7) = true by rfl, Bool.not_true, cond_true, cond_false]
        by_cases hb : 1 + (sizes xs i).getD a.toNat 0 > 4000
        · rw [decide_eq_true hb, cond_true]
          rw [show min 4000 (1 + (sizes xs i).getD a.toNat 0) = 4000 by omega] at ih
          exact ih
        · rw [decide_eq_false hb, cond_false]
          rw [show min 4000 (1 + (sizes xs i).getD a.toNat 0) = 1 + (sizes xs i).getD a.toNat 0 by omega] at ih
          exact ih
      · rw [if_neg h7] at ih
        have e7 : (op == 7) = false := by simpa using h7
        simp only [e7, Bool.not_false, cond_true]
        by_cases hb : 1 + (sizes xs i).getD a.toNat 0 + (sizes xs i).getD b.toNat 0 > 4000
        · rw [decide_eq_true hb, cond_true]
          rw [show min 4000 (1 + (sizes xs i).getD a.toNat 0 + (sizes xs i).getD b.toNat 0) = 4000 by omega] at ih
          exact ih
        · rw [decide_eq_false hb, cond_false]
          rw [show min 4000 (1 + (sizes xs i).getD a.toNat 0 + (sizes xs i).getD b.toNat 0) = 1 + (sizes xs i).getD a.toNat 0 + (sizes xs i).getD b.toNat 0 by omega] at ih
          exact ih
theorem law {xs : List I4} (hv : Terms xs) (hx : xs.length ≤ 40) (h1 : 1 ≤ xs.length) : impl (xs, ()) = some (short xs, ()) := by
  rw [impl_eq]; unfold F0
  exact loop hv hx h1 xs.length 0 (by omega)
end spec_l30Short
namespace spec_l30Put
theorem law (text : List UInt8) (at_ : Int) (ok : Bool) (t : I4) (names : List (List UInt8)) (out : List I4) (hl : (out.length + 1) * 32 ≤ 140737488355328) :
    impl (text, at_, ok, t, names, out, ()) = some (text, at_, (if atI out t < out.length then ok else ok && decide (((out.length : Int) + 1) ≤ 40)), ((put out t).2 : Int), names, (put out t).1, ()) := by
  rw [impl_eq]; unfold F0
  have key : ∀ d i, i + d = out.length → (∀ j, j < i → out.getD j (0, 0, 0, 0) ≠ t) → L2 (text, at_, ok, (i : Int), names, out, text, at_, ok, t.1, t.2.1, t.2.2.1, t.2.2.2, [], 0, false, [], [], ()) =
      some (text, at_, (if atI out t < out.length then ok else ok && decide (((out.length : Int) + 1) ≤ 40)), ((put out t).2 : Int), names, (put out t).1, ()) := by
    intro d
    induction d with
    | zero =>
      intro i hi hb
      have : i = out.length := by omega
      subst this
      have h0 := atI_not hb
      rw [L2_eq]; unfold F2
      rw [decide_eq_false (by omega), cond_false, decide_eq_true (by simpa using hl), cond_true]
      have e8 : ∀ q : Bool, L8 (text, at_, ok, names, text, at_, q, [], 0, false, out ++ [(t.1, t.2.1, t.2.2.1, t.2.2.2)], [], [], ()) = some (text, at_, q, ((put out t).2 : Int), names, (put out t).1, ()) := by
        intro q
        rw [L8_eq]; unfold F8
        simp [put, h0]
        exact wI_small (by omega) (by omega)
      rw [e8, e8, h0]
      simp only [Nat.lt_irrefl, if_false]
      cases ok with
      | false => rfl
      | true => simp
    | succ d ih =>
      intro i hi hb
      have hlt : i < out.length := by omega
      rw [L2_eq]; unfold F2
      rw [lt_len]
      simp only [hlt, decide_true, cond_true]
      rw [L4_eq]; unfold F4
      rw [inb_true hlt, cond_true, Int.toNat_natCast, beq4 (y := (t.1, t.2.1, t.2.2.1, t.2.2.2)), wI_succ (by omega)]
      by_cases h : out.getD i (0, 0, 0, 0) = t
      · rw [decide_eq_true (show _ = _ from h), cond_true]
        have := atI_here hlt h hb
        simp [put, this, hlt]
      · rw [decide_eq_false (show ¬ _ = _ from h), cond_false]
        refine ih (i + 1) (by omega) fun j hj => ?_
        rcases Nat.lt_or_ge j i with h1 | h1
        · exact hb j h1
        · have : j = i := by omega
          rw [this]; exact h
  exact key out.length 0 (by omega) fun j hj => by omega
end spec_l30Put
theorem room4000 {n : Nat} (h : n ≤ 16000) : (n + 1) * 32 ≤ 140737488355328 := by omega
namespace spec_l30Trim
theorem law {xs : List I4} (hv : Terms xs) (text : List UInt8) (at_ : Int) (names : List (List UInt8)) : ∀ f i (ok : Bool) out, i < f → i < xs.length → out.length + treeSize xs f i ≤ 8000 →
    ∃ ok', impl (text, at_, ok, xs, (i : Int), names, out, ()) = some (text, at_, ok', ((trim xs f i out).2 : Int), names, (trim xs f i out).1, ())
  | 0, i, ok, out, hf, hi, hb => by omega
  | f + 1, i, ok, out, hf, hi, hb => by
    have hs := hv i hi
    have hl := trim_len hv (f + 1) i out hf hi
    rw [impl_eq]; unfold F0
    unfold trim treeSize at *
    rw [inb_true hi, Int.toNat_natCast, cond_true]
    simp only at *
    generalize xs.getD i (0, 0, 0, 0) = t at *
    obtain ⟨op, n, a, b⟩ := t
    unfold TermAt at hs
    simp only at *
    by_cases h2 : op < 2
    · rw [decide_eq_true h2, cond_true, spec_l30Put.law _ _ _ _ _ out (room4000 (by omega)), if_pos h2]
      exact ⟨_, rfl⟩
    · rw [decide_eq_false h2, cond_false, if_neg h2]
      rw [if_neg h2] at hb
      have ea : a = (a.toNat : Int) := by omega
      have eb : b = (b.toNat : Int) := by omega
      have e1 := trim_len hv f a.toNat out (by omega) (by omega)
      obtain ⟨ok1, l1⟩ := law hv text at_ names f a.toNat ok out (by omega) (by omega) (by split at hb <;> omega)
      rw [← ea] at l1
      rw [l1, Option.bind_some, spec_l1One.law, Option.bind_some]
      simp only
      by_cases h7 : op = 7
      · rw [if_pos h7] at hb ⊢
        rw [show (op == 7) = true by simpa using h7, cond_true, spec_l30Put.law _ _ _ _ _ (trim xs f a.toNat out).1 (room4000 (by omega))]
        exact ⟨_, rfl⟩
      · rw [if_neg h7] at hb ⊢
        have e2 := trim_len hv f b.toNat (trim xs f a.toNat out).1 (by omega) (by omega)
        obtain ⟨ok2, l2⟩ := law hv text at_ names f b.toNat ok1 (trim xs f a.toNat out).1 (by omega) (by omega) (by omega)
        rw [← eb] at l2
        rw [show (op == 7) = false by simpa using h7, cond_false, l2, Option.bind_some]
        simp only
        rw [spec_l30Put.law _ _ _ _ _ (trim xs f b.toNat (trim xs f a.toNat out).1).1 (room4000 (by omega))]
        exact ⟨_, rfl⟩
end spec_l30Trim
def trimmed (xs : List I4) (vars : Int) : List I4 := if termsOK xs vars = true ∧ short xs = true then (trim xs xs.length (xs.length - 1) []).1 else []
theorem trim_all {xs : List I4} (hv : Terms xs) (h1 : 1 ≤ xs.length) : ((trim xs xs.length (xs.length - 1) []).2 : Int) + 1 = (trim xs xs.length (xs.length - 1) []).1.length := by
  have e1 := trim_last hv xs.length (xs.length - 1) [] (by omega) (by omega) (fun j hj => absurd hj (by simp))
  have e2 := trim_len hv xs.length (xs.length - 1) [] (by omega) (by omega)
  rcases e1.2 with e | e
  · rw [e] at e2; simp at e2
  · exact e
namespace spec_Trimmed
theorem law (xs : List I4) (vars : Int) : impl (xs, vars, ()) = some (trimmed xs vars, ()) := by
  rw [impl_eq]; unfold F0
  rw [spec_TermsValid.law, Option.bind_some]
  unfold trimmed
  cases h : termsOK xs vars with
  | false => simp
  | true =>
    obtain ⟨hv, h1, h2, _⟩ := terms_of h
    rw [spec_l30Short.law hv h2 h1, Option.bind_some]
    cases hs : short xs with
    | false => simp
    | true =>
      simp only [Bool.not_true, cond_false, and_self, if_true]
      have e := trim_all hv h1
      have b := trim_len hv xs.length (xs.length - 1) [] (by omega) (by omega)
      unfold short at hs
      rw [decide_eq_true_eq] at hs
      simp only [List.length_nil] at b
      obtain ⟨ok, l⟩ := spec_l30Trim.law hv [] 0 [] xs.length (xs.length - 1) true [] (by omega) (by omega) (by simp; omega)
      rw [L3_eq]; unfold F3
      rw [wI_small (n := (xs.length : Int) - 1) (by omega) (by omega), show (xs.length : Int) - 1 = ((xs.length - 1 : Nat) : Int) by omega, l, Option.bind_some]
      simp only
      rw [wI_small (by omega) (by omega), decide_eq_true (by omega), decide_eq_true (by omega)]
      simp only [Bool.and_self, cond_true, List.drop_zero, Nat.sub_zero]
      rw [List.take_of_length_le (by omega)]
end spec_Trimmed
namespace impl_scan_put
theorem law (t : I4) (text : List UInt8) (at_ : Int) (names : List (List UInt8)) (out : List I4) (hl : (out.length + 1) * 32 ≤ 140737488355328) : impl (t, text, at_, names, out, ()) = some (((put out t).2 : Int), text, at_, names, (put out t).1, ()) := by
  rw [impl_eq]; unfold F0
  rw [L1_eq]; unfold F1
  rw [slices_Index_of.law _ _ hl, Option.bind_some]
  by_cases h : atI out (t.1, t.2.1, t.2.2.1, t.2.2.2) < out.length
  · simp [h, put]
  · have := atI_le out (t.1, t.2.1, t.2.2.1, t.2.2.2)
    have e : atI out (t.1, t.2.1, t.2.2.1, t.2.2.2) = out.length := by omega
    simp only [h, if_false]
    rw [show decide ((-1 : Int) ≥ 0) = false by rfl, cond_false, L4_eq]; unfold F4
    simp [put, e, hl]
    exact wI_small (by omega) (by omega)
end impl_scan_put
namespace impl_Trimmed_1
theorem law {xs : List I4} (hv : Terms xs) (text : List UInt8) (at_ : Int) (names : List (List UInt8)) : ∀ f i out, i < f → i < xs.length → out.length + treeSize xs f i ≤ 8000 →
    impl ((i : Int), xs, text, at_, names, out, ()) = some (((trim xs f i out).2 : Int), xs, text, at_, names, (trim xs f i out).1, ())
  | 0, i, out, hf, hi, hb => by omega
  | f + 1, i, out, hf, hi, hb => by
    have hs := hv i hi
    rw [impl_eq]; unfold F0
    unfold trim treeSize at *
    rw [inb_true hi, Int.toNat_natCast, cond_true]
    simp only at *
    generalize xs.getD i (0, 0, 0, 0) = t at *
    obtain ⟨op, n, a, b⟩ := t
    unfold TermAt at hs
    simp only at *
    by_cases h2 : op < 2
    · rw [if_pos h2] at hb
      rw [decide_eq_false (show ¬ op ≥ 2 by omega), cond_false, impl_scan_put.law _ _ _ _ out (room4000 (by omega)), if_pos h2]; rfl
    · rw [decide_eq_true (show op ≥ 2 by omega), cond_true, if_neg h2]
      rw [if_neg h2] at hb
      have ea : a = (a.toNat : Int) := by omega
      have eb : b = (b.toNat : Int) := by omega
      have en : n = 0 := by omega
      subst en
      have e1 := trim_len hv f a.toNat out (by omega) (by omega)
      have l1 := law hv text at_ names f a.toNat out (by omega) (by omega) (by split at hb <;> omega)
      rw [← ea] at l1
      rw [l1, Option.bind_some]
      simp only
      by_cases h7 : op = 7
      · rw [if_pos h7] at hb ⊢
        rw [show (op == 7) = true by simpa using h7, cond_true, impl_scan_put.law _ _ _ _ (trim xs f a.toNat out).1 (room4000 (by omega))]
        rfl
      · rw [if_neg h7] at hb ⊢
        have e2 := trim_len hv f b.toNat (trim xs f a.toNat out).1 (by omega) (by omega)
        have l2 := law hv text at_ names f b.toNat (trim xs f a.toNat out).1 (by omega) (by omega) (by omega)
        rw [← eb] at l2
        rw [show (op == 7) = false by simpa using h7, cond_false, l2, Option.bind_some]
        simp only
        rw [impl_scan_put.law _ _ _ _ (trim xs f b.toNat (trim xs f a.toNat out).1).1 (room4000 (by omega))]
        rfl
end impl_Trimmed_1
namespace impl_Trimmed
/-- the numbers so far, zeros behind -/
def many (xs : List I4) (i : Nat) : List Int := sizes xs i ++ List.replicate (xs.length - i) 0
theorem many_len {xs : List I4} {i : Nat} (h : i ≤ xs.length) : (many xs i).length = xs.length := by simp [many, sizes_len]; omega
theorem many_get {xs : List I4} {i c : Nat} (h : c < i) : (many xs i).getD c 0 = (sizes xs i).getD c 0 := by
  unfold many
  rw [List.getD_eq_getElem?_getD, List.getD_eq_getElem?_getD, List.getElem?_append_left (by rw [sizes_len]; exact h)]
theorem many_set {xs : List I4} {i : Nat} {v : Int} (h : i < xs.length) : (many xs i).set i v = sizes xs i ++ v :: List.replicate (xs.length - (i + 1)) 0 := by
  unfold many
  rw [List.set_append, if_neg (by rw [sizes_len]; omega), sizes_len, Nat.sub_self]
  obtain ⟨k, hk⟩ : ∃ k, xs.length - i = k + 1 := ⟨xs.length - i - 1, by omega⟩
  rw [hk, List.replicate_succ, List.set_cons_zero, show xs.length - (i + 1) = k by omega]
theorem many_succ {xs : List I4} (hv : Terms xs) {i : Nat} (h : i < xs.length) : (many xs i).set i (size1 (xs.getD i (0, 0, 0, 0)) (sizes xs i)) = many xs (i + 1) := by
  rw [many_set h, size1_eq hv h]
  unfold many
  rw [sizes_succ]; simp
theorem mid_get {xs : List I4} {i c : Nat} {v : Int} (h : c < i) (hi : i < xs.length) : ((many xs i).set i v).getD c 0 = (sizes xs i).getD c 0 := by
  rw [List.getD_eq_getElem?_getD, List.getElem?_set_ne (by omega), ← List.getD_eq_getElem?_getD, many_get h]
theorem mid_same {xs : List I4} {i : Nat} {v : Int} (hi : i < xs.length) : ((many xs i).set i v).getD i 0 = v := by
  rw [List.getD_eq_getElem?_getD, List.getElem?_set_self (by rw [many_len (by omega)]; exact hi)]; rfl
theorem loop {xs : List I4} (hv : Terms xs) (hx : xs.length ≤ 40) (h1 : 1 ≤ xs.length) : ∀ d i, i + d = xs.length → L5 (xs, (xs.length : Int), (i : Int), xs, many xs i, ()) = some (if short xs = true then (trim xs xs.length (xs.length - 1) []).1 else [], ())
  | 0, i, hi => by
    have : i = xs.length := by omega
    subst this
    rw [L5_eq]; unfold F5
    rw [decide_eq_false (show ¬ (xs.length : Int) < (xs.length : Int) by omega), cond_false]
    rw [many_len (Nat.le_refl _), wI_small (by omega) (by omega), show (xs.length : Int) - 1 = ((xs.length - 1 : Nat) : Int) by omega, inb_true (by omega), Int.toNat_natCast, many_get (by omega), sizes_get (by omega)]
    rw [cond_true]
    unfold short
    by_cases hs : treeSize xs xs.length (xs.length - 1) < 4000
    · rw [decide_eq_false (show ¬ min 4000 (treeSize xs xs.length (xs.length - 1) : Int) ≥ 4000 by omega), cond_false, if_pos (decide_eq_true hs)]
      have e := trim_len hv xs.length (xs.length - 1) [] (by omega) (by omega)
      rw [impl_Trimmed_1.law hv [] 0 [] xs.length (xs.length - 1) [] (by omega) (by omega) (by simp; omega), Option.bind_some]
      simp only
      rw [impl_clone_of.law _ (by simp at e; omega)]; rfl
    · rw [decide_eq_true (show min 4000 (treeSize xs xs.length (xs.length - 1) : Int) ≥ 4000 by omega), cond_true, if_neg (by simpa using hs)]
  | d + 1, i, hi => by
    have hlt : i < xs.length := by omega
    have ih := loop hv hx h1 d (i + 1) (by omega)
    rw [← many_succ hv hlt] at ih
    have hs := hv i hlt
    have hlen := many_len (xs := xs) (i := i) (by omega)
    rw [L5_eq]; unfold F5
    rw [lt_len, inb_true hlt, hlen, inb_true hlt, Int.toNat_natCast]
    simp only [hlt, decide_true, cond_true]
    have hg : ∀ c : Nat, c < i → 0 ≤ (sizes xs i).getD c 0 ∧ (sizes xs i).getD c 0 ≤ 4000 := fun c hc => by rw [sizes_get hc]; omega
    have h12 : ∀ v : Int, 1 ≤ v → min 4000 v = size1 (xs.getD i (0, 0, 0, 0)) (sizes xs i) → L12 L5 ((i : Int), xs, (xs.length : Int), (i : Int), xs, (many xs i).set i v, ()) = some (if short xs = true then (trim xs xs.length (xs.length - 1) []).1 else [], ()) := by
      intro v hv1 hv2
      rw [L12_eq]; unfold F12
      rw [List.length_set, hlen, inb_true hlt, Int.toNat_natCast, mid_same hlt, List.set_set, wI_succ (by omega)]
      simp only [cond_true]
      by_cases hb : 4000 < v
      · rw [decide_eq_true hb, cond_true]
        rw [← hv2, show min 4000 v = 4000 by omega] at ih
        exact ih
      · rw [decide_eq_false hb, cond_false]
        rw [← hv2, show min 4000 v = v by omega] at ih
        exact ih
    generalize hz : xs.getD i (0, 0, 0, 0) = t at hs h12
    obtain ⟨op, n, a, b⟩ := t
    unfold TermAt at hs
    unfold size1 at h12
    simp only at hs h12 ⊢
    by_cases h2 : op < 2
    · rw [decide_eq_false (show ¬ op ≥ 2 by omega), cond_false]
      rw [if_pos h2] at h12
      exact h12 1 (by omega) rfl
    · rw [decide_eq_true (show op ≥ 2 by omega), cond_true]
      rw [if_neg h2] at h12
      have ga := hg a.toNat (by omega)
      have gb := hg b.toNat (by omega)
      rw [L9_eq]; unfold F9
      rw [List.length_set, hlen, inb_true hlt, inb_int (show 0 ≤ a by omega) (show a < ((xs.length : Nat) : Int) by omega), Int.toNat_natCast, mid_same hlt, mid_get (show a.toNat < i by omega) hlt, List.set_set, wI_small (n := 1 + (sizes xs i).getD a.toNat 0) (by omega) (by omega)]
      simp only [cond_true]
      by_cases h7 : op = 7
      · subst h7
        rw [if_pos rfl] at h12
        rw [show ((7 : Int) != 7) = false by rfl, cond_false]
        exact h12 _ (by omega) rfl
      · rw [if_neg h7] at h12
        rw [show (op != 7) = true by simpa using h7, cond_true]
        rw [L11_eq]; unfold F11
        rw [List.length_set, hlen, inb_true hlt, inb_int (show 0 ≤ b by omega) (show b < ((xs.length : Nat) : Int) by omega), Int.toNat_natCast, mid_same hlt, mid_get (show b.toNat < i by omega) hlt, List.set_set, wI_small (n := 1 + (sizes xs i).getD a.toNat 0 + (sizes xs i).getD b.toNat 0) (by omega) (by omega)]
        simp only [cond_true]
        exact h12 _ (by omega) rfl
theorem law (xs : List I4) (vars : Int) : impl (xs, vars, ()) = some (trimmed xs vars, ()) := by
  rw [impl_eq]; unfold F0
  rw [impl_TermsValid.law, Option.bind_some]
  unfold trimmed
  cases h : termsOK xs vars with
  | false => simp
  | true =>
    obtain ⟨hv, h1, h2, _⟩ := terms_of h
    simp only [Bool.not_true, cond_false, true_and]
    rw [decide_eq_true (by omega), decide_eq_true (by omega), decide_eq_true (by omega)]
    simp only [Bool.and_self, cond_true, Int.toNat_natCast]
    have := loop hv h2 h1 xs.length 0 (by omega)
    simpa [many, sizes] using this
end impl_Trimmed
theorem trimmed_len (xs : List I4) (vars : Int) : (trimmed xs vars).length ≤ 4000 := by
  unfold trimmed
  split
  · rename_i h
    obtain ⟨hv, h1, h2, _⟩ := terms_of h.1
    have b := trim_len hv xs.length (xs.length - 1) [] (by omega) (by omega)
    have hs := h.2
    unfold short at hs
    rw [decide_eq_true_eq] at hs
    simp only [List.length_nil] at b
    omega
  · simp
namespace laws_FnExactTrimmed
theorem law (xs : List I4) (facts : Int) (hx : xs.length ≤ maxLen) : impl (xs, facts, ()) = some (true, ()) := by
  rw [impl_eq]; unfold F0
  rw [laws_szTermS.law _ _ (by omega) (by omega) hx, Option.bind_some]
  by_cases hbig : (1048576 : Int) - xs.length < 0
  · rw [if_pos hbig]; rfl
  · rw [if_neg hbig]
    have hl : xs.length ≤ 1048576 := by omega
    have hp := trimmed_len xs facts
    rw [show decide ((1048576 - (xs.length : Int), ()).1 < 0) = false from decide_eq_false hbig, cond_false]
    have m1 := laws_markTermS.law xs 1 (by omega) (by omega)
    have m2 := laws_markTermS.law (trimmed xs facts) 1 (by omega) (by omega)
    have m3 := laws_heldTermS.law 1 (trimmed xs facts).length (by omega) (by omega)
    rw [show ((1 : Nat) : Int) = 1 from rfl] at m1 m2 m3
    have l16 : L16 (xs, facts, trimmed xs facts, trimmed xs facts, ()) = some (true, ()) := by
      rw [L16_eq]; unfold F16
      simp only [laws_toTermS.law _ hl, Option.bind_some, impl_Trimmed.law, laws_eqTermS.law _ _ (show (trimmed xs facts).length ≤ 1048576 by omega), decide_true, Bool.not_true, cond_false, m2, m3]
      rw [decide_eq_false (by omega)]
      simp
    simp only [laws_toTermS.law _ hl, Option.bind_some, spec_Trimmed.law, impl_Trimmed.law, laws_eqTermS.law _ _ (show (trimmed xs facts).length ≤ 1048576 by omega), laws_eqTermS.law _ _ hl, decide_true, Bool.not_true, cond_false, m1, l16]
    rw [decide_eq_false (by omega)]
    rfl
end laws_FnExactTrimmed
end Go.Proofs.YtgagmcbeobkfoaaB
