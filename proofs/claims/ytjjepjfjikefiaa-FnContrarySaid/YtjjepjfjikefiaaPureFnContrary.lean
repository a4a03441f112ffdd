/- The plain law: what the functions compute, in plain Lean. -/
import Derived.Test.YtjjepjfjikefiaaKFnContrary
import Derived.Test.YtjjepjfjikefiaaP0
set_option linter.unusedVariables false
set_option linter.unusedSimpArgs false
set_option maxRecDepth 10000
set_option synthInstance.maxSize 10000
set_option synthInstance.maxHeartbeats 400000
namespace Go.Proofs.YtjjepjfjikefiaaB
open Go
namespace spec_l1In
theorem law (x a b : Int) : impl (x, a, b, ()) = some (in3 x a b, ()) := by
  rw [impl_eq]; unfold F0
  rw [cond_ret]
  congr 2
  rw [Bool.eq_iff_iff, in3_iff]
  simp only [cond_iff, decide_eq_true_eq, Bool.false_eq_true, and_false, or_false]
end spec_l1In
namespace impl_in
theorem law (x a b : Int) : impl (x, a, b, ()) = some (in3 x a b, ()) := by
  rw [impl_eq]; unfold F0
  rw [cond_ret]
  congr 2
  rw [Bool.eq_iff_iff, in3_iff]
  simp only [cond_iff, decide_eq_true_eq, Bool.false_eq_true, and_false, or_false]
end impl_in
/-! ### loops over a list -/
theorem drop_cons {α : Type} {xs : List α} {i : Nat} (d : α) (h : i < xs.length) : xs.drop i = xs.getD i d :: xs.drop (i + 1) := by
  rw [List.drop_eq_getElem_cons h, getD_eq h]
/-- a loop that goes up along a list, and what it computes along what is left -/
theorem up_list {α S R : Type} (xs : List α) (d : α) (I : Nat → S → Prop) (L : Nat → S → Option R) (g : Nat → List α → S → Option R)
    (hn : ∀ s, I xs.length s → L xs.length s = g xs.length [] s)
    (hc : ∀ i s, i < xs.length → I i s → (∀ s', I (i + 1) s' → L (i + 1) s' = g (i + 1) (xs.drop (i + 1)) s') → L i s = g i (xs.getD i d :: xs.drop (i + 1)) s) :
    ∀ s, I 0 s → L 0 s = g 0 xs s := by
  have key : ∀ k i s, i + k = xs.length → I i s → L i s = g i (xs.drop i) s := by
    intro k
    induction k with
    | zero =>
      intro i s hi hI
      have : i = xs.length := by omega
      subst this
      rw [List.drop_length]
      exact hn s hI
    | succ k ih =>
      intro i s hi hI
      rw [drop_cons d (by omega)]
      exact hc i s (by omega) hI fun s' hI' => ih (i + 1) s' (by omega) hI'
  intro s hI
  have := key xs.length 0 s (by omega) hI
  rwa [List.drop_zero] at this
theorem inb_eq (i : Int) (n : Nat) : inb i n = (decide (0 ≤ i) && decide (i < n)) := rfl
theorem cast_lt (i n : Nat) : decide ((i : Int) < (n : Int)) = decide (i < n) := by simp
theorem up_list0 {α R : Type} (xs : List α) (d : α) (L : Nat → Option R) (g : Nat → List α → Option R) (hn : L xs.length = g xs.length [])
    (hc : ∀ i, i < xs.length → L (i + 1) = g (i + 1) (xs.drop (i + 1)) → L i = g i (xs.getD i d :: xs.drop (i + 1))) : L 0 = g 0 xs :=
  up_list (S := Unit) xs d (fun _ _ => True) (fun i _ => L i) (fun i r _ => g i r) (fun _ _ => hn) (fun i _ hi _ ih => hc i hi (ih () trivial)) () trivial
theorem decide_cons {α : Type} [DecidableEq α] (a b : α) (x y : List α) : decide (a :: x = b :: y) = (decide (a = b) && decide (x = y)) := by
  rw [Bool.eq_iff_iff]; simp
theorem bne_dec {α : Type} [DecidableEq α] (a b : α) : (a != b) = !decide (a = b) := by
  by_cases h : a = b <;> simp [h]
theorem isEmpty_len {α : Type} (xs : List α) : ((xs.length : Int) == 0) = xs.isEmpty := by cases xs <;> simp <;> omega
theorem pos_len {α : Type} (xs : List α) : decide ((xs.length : Int) > 0) = !xs.isEmpty := by cases xs <;> simp <;> omega
theorem take_snoc {α : Type} {xs : List α} {i : Nat} (d : α) (h : i < xs.length) : xs.take (i + 1) = xs.take i ++ [xs.getD i d] := by
  rw [List.take_add_one, List.getElem?_eq_getElem h, getD_eq h]; rfl
theorem lit_wf {n : Int} (h : (Lit.int .i64 n).wf = true) : -9223372036854775808 ≤ n ∧ n ≤ 9223372036854775807 := by
  simp only [Lit.wf, Bool.and_eq_true, decide_eq_true_eq] at h
  exact ⟨h.1, h.2⟩
/-- the first of a kind -/
def goIdx {α : Type} (p : α → Bool) : Nat → List α → Int
  | _, [] => -1
  | i, x :: r => bif p x then (i : Int) else goIdx p (i + 1) r
theorem goIdx_cons {α : Type} (p : α → Bool) (i : Nat) (x : α) (r : List α) : goIdx p i (x :: r) = bif p x then (i : Int) else goIdx p (i + 1) r := rfl
theorem goIdx_any {α : Type} (p : α → Bool) : ∀ (r : List α) (i : Nat), decide (goIdx p i r ≥ 0) = r.any p
  | [], _ => rfl
  | x :: r, i => by
    unfold goIdx
    rw [List.any_cons, ← goIdx_any p r (i + 1)]
    cases p x with
    | true => simp
    | false => rfl
theorem any_not {α : Type} (p : α → Bool) (r : List α) : (!r.any fun x => !p x) = r.all p := by
  induction r with
  | nil => rfl
  | cons x r ih => rw [List.any_cons, List.all_cons, ← ih]; cases p x <;> rfl
/-! ### what is drawn -/
/-- a source that is not used up -/
def Src (code : List Int) (p : Int) : Prop := code.length ≤ 2000 ∧ (∀ x ∈ code, 0 ≤ x ∧ x ≤ 255) ∧ 0 ≤ p ∧ p ≤ 1000000000
theorem Src.next {code : List Int} {p : Int} (h : Src code p) (hp : p < 1000000000) : Src code (p + 1) := ⟨h.1, h.2.1, by have := h.2.2; omega, by omega⟩
theorem Src.at {code : List Int} {p q : Int} (h : Src code p) (h0 : 0 ≤ q) (h1 : q ≤ 1000000000) : Src code q := ⟨h.1, h.2.1, h0, h1⟩
theorem xor_nonneg {x y : Int} (hx : 0 ≤ x) (hx2 : x < 4611686018427387904) (hy : 0 ≤ y) (hy2 : y < 4611686018427387904) : 0 ≤ xorI .i64 x y := by
  unfold xorI
  have e1 : (BitVec.ofInt 64 x).toNat = x.toNat := by rw [BitVec.toNat_ofInt]; omega
  have e2 : (BitVec.ofInt 64 y).toNat = y.toNat := by rw [BitVec.toNat_ofInt]; omega
  have h : (BitVec.ofInt 64 x ^^^ BitVec.ofInt 64 y).toNat < 2 ^ 62 := by
    rw [BitVec.toNat_xor, e1, e2]
    exact Nat.xor_lt_two_pow (by omega) (by omega)
  show 0 ≤ wI _
  rw [show IntKind.i64.bits = 64 from rfl, wI_small (by omega) (by omega)]
  omega
theorem tmod_lt {a n : Int} (ha : 0 ≤ a) (hn : 0 < n) : 0 ≤ Int.tmod a n ∧ Int.tmod a n < n := ⟨Int.tmod_nonneg _ ha, Int.tmod_lt_of_pos _ hn⟩
theorem code_get {code : List Int} (h : ∀ x ∈ code, 0 ≤ x ∧ x ≤ 255) (i : Nat) : 0 ≤ code.getD i 0 ∧ code.getD i 0 ≤ 255 := by
  rcases Nat.lt_or_ge i code.length with hi | hi
  · exact h _ (getD_mem hi)
  · rw [List.getD_eq_getElem?_getD, List.getElem?_eq_none hi]; simp
namespace spec_l40Open
theorem law (code : List Int) (h : ∀ x ∈ code, 0 ≤ x ∧ x ≤ 255) : ∃ c, impl (code, ()) = some (c, 0, ()) ∧ Src c 0 := by
  rw [impl_eq]; unfold F0
  by_cases hl : (code.length : Int) > 2000
  · rw [decide_eq_true hl, decide_eq_true (show (2000 : Int) ≤ (code.length : Int) by omega)]
    exact ⟨_, rfl, by simp; omega, fun x hx => h x (List.mem_of_mem_take (List.mem_of_mem_drop hx)), by omega, by omega⟩
  · rw [decide_eq_false hl]
    exact ⟨_, rfl, by omega, h, by omega, by omega⟩
end spec_l40Open
namespace spec_l40Rd_pick
theorem law (n : Int) (code : List Int) (p : Int) (h : Src code p) (hp : p < 1000000000) : ∃ v, impl (n, code, p, ()) = some (v, code, p + 1, ()) ∧ (n < 1 → v = 0) ∧ (1 ≤ n → 0 ≤ v ∧ v < n) := by
  obtain ⟨h1, h2, h3, h4⟩ := h
  rw [impl_eq]; unfold F0
  rw [wI_small (n := p + 1) (by omega) (by omega)]
  by_cases hn : n < 1
  · rw [decide_eq_true hn]
    exact ⟨0, rfl, fun _ => rfl, fun h => by omega⟩
  rw [decide_eq_false hn, cond_false]
  cases hc : code with
  | nil => exact ⟨0, rfl, fun h => absurd h hn, fun h => by omega⟩
  | cons a r =>
    rw [← hc, isEmpty_len]
    have hpos : 1 ≤ code.length := by rw [hc]; simp
    rw [show code.isEmpty = false by rw [hc]; rfl, cond_false, L4_eq]; unfold F4
    rw [wI_small (n := p + 1 - 1) (by omega) (by omega), show p + 1 - 1 = p by omega]
    by_cases hlt : p < (code.length : Int)
    · have hg := code_get h2 p.toNat
      rw [decide_eq_true hlt, cond_true, inb_int (by omega) hlt, cond_true, decide_eq_false (show ¬ n = 0 by omega), cond_false, wI_small (by omega) (by omega)]
      have := tmod_lt hg.1 (show 0 < n by omega)
      exact ⟨_, rfl, fun h => absurd h hn, fun _ => this⟩
    · rw [decide_eq_false hlt, cond_false, L7_eq]; unfold F7
      have hk : (0 : Int) < (code.length : Int) := by omega
      have t1 := tmod_lt (a := p) (n := (code.length : Int)) h3 hk
      rw [wI_small (n := p * 7) (by omega) (by omega), wI_small (n := p * 7 + 3) (by omega) (by omega)]
      have t2 := tmod_lt (a := p * 7 + 3) (n := (code.length : Int)) (by omega) hk
      rw [decide_eq_false (show ¬ (code.length : Int) = 0 by omega), cond_false, inb_int t1.1 t1.2, cond_true, cond_false, inb_int t2.1 t2.2, cond_true, cond_false, decide_eq_false (show ¬ n = 0 by omega), cond_false]
      have g1 := code_get h2 (Int.tmod p (code.length : Int)).toNat
      have g2 := code_get h2 (Int.tmod (p * 7 + 3) (code.length : Int)).toNat
      generalize code.getD (Int.tmod p (code.length : Int)).toNat 0 = a1 at g1 ⊢
      generalize code.getD (Int.tmod (p * 7 + 3) (code.length : Int)).toNat 0 = a2 at g2 ⊢
      have t3 : 0 ≤ Int.tdiv p (code.length : Int) ∧ Int.tdiv p (code.length : Int) ≤ p := ⟨Int.tdiv_nonneg h3 (by omega), Int.tdiv_le_self _ h3⟩
      generalize Int.tdiv p (code.length : Int) = d at t3 ⊢
      rw [wI_small (n := a1) (by omega) (by omega), wI_small (n := a2) (by omega) (by omega), wI_small (n := a1 * 131) (by omega) (by omega), wI_small (n := a2 * 1117) (by omega) (by omega), wI_small (n := a1 * 131 + a2 * 1117) (by omega) (by omega), wI_small (n := p * 29) (by omega) (by omega),
        wI_small (n := d) (by omega) (by omega), wI_small (n := d * 53) (by omega) (by omega), wI_small (n := a1 * 131 + a2 * 1117 + p * 29) (by omega) (by omega), wI_small (n := a1 * 131 + a2 * 1117 + p * 29 + d * 53) (by omega) (by omega)]
      have hx : 0 ≤ a1 * 131 + a2 * 1117 + p * 29 + d * 53 ∧ a1 * 131 + a2 * 1117 + p * 29 + d * 53 < 1000000000000 := by omega
      generalize a1 * 131 + a2 * 1117 + p * 29 + d * 53 = x at hx ⊢
      have hd : 0 ≤ Int.tdiv x 64 ∧ Int.tdiv x 64 ≤ x := ⟨Int.tdiv_nonneg hx.1 (by omega), Int.tdiv_le_self _ hx.1⟩
      rw [wI_small (n := Int.tdiv x 64) (by omega) (by omega)]
      have := tmod_lt (xor_nonneg hx.1 (by omega) hd.1 (by omega)) (show 0 < n by omega)
      exact ⟨_, rfl, fun h => absurd h hn, fun _ => this⟩
end spec_l40Rd_pick
namespace spec_l40Rd_num
theorem law (xs : List Int) (code : List Int) (p : Int) (hx : 1 ≤ xs.length) (h : Src code p) (hp : p < 1000000000) : ∃ v, v ∈ xs ∧ impl (xs, code, p, ()) = some (v, code, p + 1, ()) := by
  obtain ⟨v, h1, _, h3⟩ := spec_l40Rd_pick.law (xs.length : Int) code p h hp
  have h4 := h3 (by omega)
  rw [impl_eq]; unfold F0
  rw [h1, Option.bind_some, inb_int h4.1 h4.2]
  exact ⟨_, getD_mem (by omega), rfl⟩
end spec_l40Rd_num
namespace slices_Index_of
theorem law (t : I4) (out : List I4) (hl : (out.length + 1) * 32 ≤ 140737488355328) : impl (out, t, ()) = some (if atI out t < out.length then (atI out t : Int) else -1, ()) := by
  rw [impl_eq]; unfold F0
  have key : ∀ d i, i + d = out.length → (∀ j, j < i → out.getD j (0, 0, 0, 0) ≠ t) → L2 (out, (out.length : Int), (i : Int), t.1, t.2.1, t.2.2.1, t.2.2.2, ()) = some (if atI out t < out.length then (atI out t : Int) else -1, ()) := by
    intro d
    induction d with
    | zero =>
      intro i hi hb
      have : i = out.length := by omega
      subst this
      have h0 := atI_not hb
      rw [L2_eq]; unfold F2
      simp [h0]
    | succ d ih =>
      intro i hi hb
      have hlt : i < out.length := by omega
      rw [L2_eq]; unfold F2
      rw [lt_len]
      simp only [hlt, decide_true, cond_true]
      rw [L4_eq]; unfold F4
      rw [inb_true hlt, cond_true, Int.toNat_natCast, beq4 (x := (t.1, t.2.1, t.2.2.1, t.2.2.2)), wI_succ (by omega)]
      by_cases h : t = out.getD i (0, 0, 0, 0)
      · rw [decide_eq_true (show _ = _ from h), cond_true]
        have := atI_here hlt h.symm hb
        simp [this, hlt]
      · rw [decide_eq_false (show ¬ _ = _ from h), cond_false]
        refine ih (i + 1) (by omega) fun j hj => ?_
        rcases Nat.lt_or_ge j i with h1 | h1
        · exact hb j h1
        · have : j = i := by omega
          rw [this]; exact fun e => h e.symm
  exact key out.length 0 (by omega) fun j hj => by omega
end slices_Index_of
namespace impl_clone_of
theorem law (xs : List I4) (hx : xs.length ≤ 1048576) : impl (xs, ()) = some (xs, ()) := by
  rw [impl_eq]; unfold F0
  by_cases h : xs = []
  · subst h; rfl
  · have : 0 < xs.length := List.length_pos_iff.2 h
    rw [show ((xs.length : Int) == 0) = false by simp [h], cond_false]
    rw [decide_eq_true (by omega), decide_eq_true (by omega), decide_eq_true (by omega)]
    simp
end impl_clone_of
/-! ### The plain law of Pushed -/
namespace spec_l20One
theorem law (x : Int) : impl (x, ()) = some (x == 2 || x == 5, ()) := by
  rw [impl_eq]; unfold F0
  cases h : x == 2 <;> simp
end spec_l20One

/-- a step of a formula of time -/
def TimeStep (t : I4) (i facts : Int) : Prop :=
  (t.1 = 0 ∧ t.2.1 = 0 ∧ t.2.2.1 = 0 ∧ t.2.2.2 = 0) ∨ (t.1 = 1 ∧ 0 ≤ t.2.1 ∧ t.2.1 ≤ facts - 1 ∧ t.2.2.1 = 0 ∧ t.2.2.2 = 0) ∨
  (2 ≤ t.1 ∧ t.1 ≤ 7 ∧ t.2.1 = 0 ∧ 0 ≤ t.2.2.1 ∧ t.2.2.1 ≤ i - 1 ∧ 0 ≤ t.2.2.2 ∧ t.2.2.2 ≤ i - 1 ∧ (t.1 = 2 ∨ t.1 = 5 → t.2.2.2 = t.2.2.1))
instance (t : I4) (i facts : Int) : Decidable (TimeStep t i facts) := by unfold TimeStep; infer_instance
def timesOK (xs : List I4) (facts : Int) : Bool := in3 facts 0 4 && (in3 xs.length 1 24 && (List.range' 0 xs.length).all fun i => decide (TimeStep (xs.getD i (0, 0, 0, 0)) i facts))

namespace spec_l20Step
theorem law (t : I4) (i facts : Int) (hi : 0 ≤ i ∧ i ≤ 1048576) (hf : 0 ≤ facts ∧ facts ≤ 1048576) : impl (t, i, facts, ()) = some (decide (TimeStep t i facts), ()) := by
  obtain ⟨op, n, a, b⟩ := t
  rw [impl_eq]; unfold F0
  simp only [spec_l1In.law, spec_l20One.law, Option.bind_some, wI_small (n := i - 1) (by omega) (by omega), wI_small (n := facts - 1) (by omega) (by omega), L7_eq, F7, cond_ret]
  have key : ∀ x y : Bool, (x = true ↔ y = true) → some (x, ()) = some (y, ()) := fun x y h => by rw [Bool.eq_iff_iff.2 h]
  apply key
  rw [decide_eq_true_eq]
  simp only [TimeStep, cond_iff, not_iff, in3_iff, beq_iff_eq, bne_iff_ne, ne_eq, Bool.or_eq_true, Bool.false_eq_true, and_true, and_false, or_false, false_or, Decidable.not_not]
  omega
end spec_l20Step
namespace spec_TimesValid
theorem law (xs : List I4) (facts : Int) : impl (xs, facts, ()) = some (timesOK xs facts, ()) := by
  rw [impl_eq]; unfold F0
  simp only [spec_l1In.law, Option.bind_some]
  unfold timesOK
  cases h1 : in3 facts 0 4 with
  | false => rfl
  | true => cases h2 : in3 xs.length 1 24 with
    | false => rfl
    | true =>
      rw [in3_iff] at h1 h2
      have h := up_all (R := PO) (fun i => L4 (xs, facts, (i : Int), ())) xs.length (fun i => decide (TimeStep (xs.getD i (0, 0, 0, 0)) i facts)) (false, ()) (true, ()) (fun i hi => by
        show L4 _ = _
        rw [L4_eq]; unfold F4
        rw [lt_len, inb_true hi, Int.toNat_natCast, spec_l20Step.law _ _ _ (by omega) (by omega), wI_succ (by omega), Option.bind_some]
        simp only [hi, decide_true, cond_true]
        cases decide (TimeStep (xs.getD i (0, 0, 0, 0)) i facts) <;> rfl) (by
        show L4 _ = _
        rw [L4_eq]; unfold F4; simp) xs.length 0 (by omega)
      simp only [Bool.not_true, cond_false, Bool.true_and, L3_eq, F3]
      refine (show _ = _ from h).trans ?_
      cases (List.range' 0 xs.length).all _ <;> rfl
end spec_TimesValid
namespace impl_TimesValid
theorem law (xs : List I4) (facts : Int) : impl (xs, facts, ()) = some (timesOK xs facts, ()) := by
  rw [impl_eq]; unfold F0
  simp only [impl_in.law, Option.bind_some]
  unfold timesOK
  cases h1 : in3 facts 0 4 with
  | false => rfl
  | true => cases h2 : in3 xs.length 1 24 with
    | false => rfl
    | true =>
      rw [in3_iff] at h1 h2
      have h := up_all (R := PO) (fun i => L4 (facts, xs, (xs.length : Int), (i : Int), ())) xs.length (fun i => decide (TimeStep (xs.getD i (0, 0, 0, 0)) i facts)) (false, ()) (true, ()) (fun i hi => by
        show L4 _ = _
        rw [L4_eq]; unfold F4
        rw [lt_len, inb_true hi, wI_succ (by omega), Int.toNat_natCast, wI_small (n := (i : Int) - 1) (by omega) (by omega), wI_small (n := facts - 1) (by omega) (by omega)]
        simp only [hi, decide_true, cond_true, impl_in.law, Option.bind_some]
        generalize xs.getD i (0, 0, 0, 0) = t
        obtain ⟨op, n, a, b⟩ := t
        generalize L4 (facts, xs, (xs.length : Int), ((i + 1 : Nat) : Int), ()) = z
        by_cases g : TimeStep (op, n, a, b) i facts
        · simp only [decide_eq_true g, cond_true]
          unfold TimeStep at g
          simp only at g
          rcases g with g | g | g
          · simp [g]
          · have : in3 n 0 (facts - 1) = true := in3_iff.2 ⟨g.2.1, g.2.2.1⟩
            simp [g.1, g.2.2.2, this]
          · have e1 : in3 op 0 7 = true := in3_iff.2 ⟨by omega, by omega⟩
            have e2 : in3 a 0 (i - 1) = true := in3_iff.2 ⟨by omega, by omega⟩
            have e3 : in3 b 0 (i - 1) = true := in3_iff.2 ⟨by omega, by omega⟩
            have e4 : (op == 0) = false := by simp; omega
            have e5 : (op == 1) = false := by simp; omega
            have e6 : (n == 0) = true := by simp; omega
            simp only [e1, e2, e3, e4, e5, e6, cond_true, cond_false]
            cases e7 : a == b with
            | true => rfl
            | false =>
              have e7' : ¬ a = b := by simpa using e7
              have e8 : (op != 2) = true := by simp; omega
              have e9 : (op != 5) = true := by simp; omega
              simp only [e8, e9, cond_true, cond_false, Bool.not_true]
        · rw [decide_eq_false g, cond_false]
          unfold TimeStep at g
          simp only at g
          cases e4 : op == 0 with
          | true =>
            have e4' : op = 0 := by simpa using e4
            cases e : ((true && ((n == 0) && ((a == 0) && (b == 0))))) with
            | false => rfl
            | true =>
              simp only [Bool.and_eq_true, beq_iff_eq] at e
              omega
          | false =>
            have e4' : ¬ op = 0 := by simpa using e4
            rw [cond_false]
            cases e5 : op == 1 with
            | true =>
              have e5' : op = 1 := by simpa using e5
              rw [cond_true]
              cases e1 : in3 n 0 (facts - 1) with
              | false => rfl
              | true =>
                rw [in3_iff] at e1
                rw [cond_true]
                cases e2 : a == 0 with
                | false => rfl
                | true =>
                  have e2' : a = 0 := by simpa using e2
                  cases e3 : b == 0 with
                  | false => rfl
                  | true =>
                    have e3' : b = 0 := by simpa using e3
                    omega
            | false =>
              have e5' : ¬ op = 1 := by simpa using e5
              rw [cond_false]
              cases e1 : in3 op 0 7 with
              | false => rfl
              | true => cases e2 : n == 0 with
                | false => rfl
                | true => cases e3 : in3 a 0 (i - 1) with
                  | false => rfl
                  | true => cases e6 : in3 b 0 (i - 1) with
                    | false => rfl
                    | true =>
                      rw [in3_iff] at e1 e3 e6
                      have e2' : n = 0 := by simpa using e2
                      have e7 : (a == b) = false := by simp; omega
                      have e8 : op = 2 ∨ op = 5 := by omega
                      rw [e7]
                      rcases e8 with rfl | rfl <;> rfl) (by
        show L4 _ = _
        rw [L4_eq]; unfold F4; simp) xs.length 0 (by omega)
      simp only [Bool.not_true, cond_false, Bool.true_and, L3_eq, F3]
      refine (show _ = _ from h).trans ?_
      cases (List.range' 0 xs.length).all _ <;> rfl
end impl_TimesValid

namespace impl_pushing_put
theorem law (t : I4) (xs out : List I4) (hl : (out.length + 1) * 32 ≤ 140737488355328) : impl (t, xs, out, ()) = some (((put out t).2 : Int), xs, (put out t).1, ()) := by
  rw [impl_eq]; unfold F0
  rw [L1_eq]; unfold F1
  rw [slices_Index_of.law _ _ hl, Option.bind_some]
  by_cases h : atI out t < out.length
  · simp [h, put]
  · have := atI_le out t
    have e : atI out t = out.length := by omega
    simp only [h, if_false]
    rw [show decide ((-1 : Int) ≥ 0) = false by rfl, cond_false, L4_eq]; unfold F4
    simp [put, e, hl]
    exact wI_small (by omega) (by omega)
end impl_pushing_put
def turned (op : Int) : Int := if op = 3 then 4 else if op = 4 then 3 else if op = 6 then 7 else if op = 7 then 6 else op
/-- a step with all that it is made of, put behind what there is -/
def push (xs : List I4) : Nat → Nat → Bool → List I4 → List I4 × Nat
  | 0, _, _, out => (out, 0)
  | f + 1, i, neg, out =>
    let t := xs.getD i (0, 0, 0, 0)
    if t.1 = 2 then push xs f t.2.2.1.toNat (!neg) out
    else if t.1 ≤ 1 then (if neg then put (put out t).1 (2, 0, (put out t).2, (put out t).2) else put out t)
    else
      let one := push xs f t.2.2.1.toNat neg out
      let op := if neg then turned t.1 else t.1
      if t.1 = 5 then put one.1 (op, 0, one.2, one.2)
      else let two := push xs f t.2.2.2.toNat neg one.1
        put two.1 (op, 0, one.2, two.2)

/-- the steps are in order -/
def Steps (xs : List I4) : Prop := ∀ i, i < xs.length → ∃ facts, TimeStep (xs.getD i (0, 0, 0, 0)) i facts

theorem push_len {xs : List I4} (hv : Steps xs) : ∀ f i neg out, i < f → i < xs.length → out.length ≤ (push xs f i neg out).1.length ∧ (push xs f i neg out).1.length ≤ out.length + 3 ^ (i + 1) ∧ (push xs f i neg out).2 < (push xs f i neg out).1.length
  | 0, i, neg, out, hf, hi => by omega
  | f + 1, i, neg, out, hf, hi => by
    obtain ⟨facts, hs⟩ := hv i hi
    unfold push
    simp only
    generalize xs.getD i (0, 0, 0, 0) = t at hs
    obtain ⟨op, n, a, b⟩ := t
    unfold TimeStep at hs
    simp only at hs ⊢
    have h3 : 3 ^ (i + 1) = 3 ^ i + 3 ^ i + 3 ^ i := by rw [Nat.pow_succ]; omega
    have h0 : 0 < 3 ^ i := Nat.pow_pos (by omega)
    have hp : ∀ c : Nat, c < i → 3 ^ (c + 1) ≤ 3 ^ i := fun c hc => Nat.pow_le_pow_right (by omega) (by omega)
    by_cases h2 : op = 2
    · rw [if_pos h2]
      have := push_len hv f a.toNat (!neg) out (by omega) (by omega)
      have := hp a.toNat (by omega)
      omega
    · rw [if_neg h2]
      by_cases h1 : op ≤ 1
      · rw [if_pos h1]
        have e1 := put_len out (op, n, a, b)
        by_cases hn : neg
        · rw [if_pos hn]
          have e2 := put_len (put out (op, n, a, b)).1 (2, 0, ((put out (op, n, a, b)).2 : Int), ((put out (op, n, a, b)).2 : Int))
          omega
        · rw [if_neg hn]; omega
      · rw [if_neg h1]
        have e1 := push_len hv f a.toNat neg out (by omega) (by omega)
        have g1 := hp a.toNat (by omega)
        by_cases h5 : op = 5
        · rw [if_pos h5]
          have e2 := put_len (push xs f a.toNat neg out).1 (if neg then turned op else op, 0, ((push xs f a.toNat neg out).2 : Int), ((push xs f a.toNat neg out).2 : Int))
          omega
        · rw [if_neg h5]
          have e2 := push_len hv f b.toNat neg (push xs f a.toNat neg out).1 (by omega) (by omega)
          have g2 := hp b.toNat (by omega)
          have e3 := put_len (push xs f b.toNat neg (push xs f a.toNat neg out).1).1 (if neg then turned op else op, 0, ((push xs f a.toNat neg out).2 : Int), ((push xs f b.toNat neg (push xs f a.toNat neg out).1).2 : Int))
          omega

theorem turned_five {op : Int} (h : 2 ≤ op ∧ op ≤ 7) : (turned op == 5) = (op == 5) := by
  have : op = 2 ∨ op = 3 ∨ op = 4 ∨ op = 5 ∨ op = 6 ∨ op = 7 := by omega
  rcases this with rfl | rfl | rfl | rfl | rfl | rfl <;> rfl
def big24 : Nat := 3 ^ 24
theorem big24_le {n : Nat} (h : n ≤ big24) : (n + 1) * 32 ≤ 140737488355328 := by unfold big24 at h; omega


namespace impl_pushing_of
theorem law {xs : List I4} (hv : Steps xs) : ∀ f i neg out, i < f → i < xs.length → out.length + 3 ^ (i + 1) ≤ big24 → ∃ o n, impl ((i : Int), neg, xs, out, ()) = some (n, xs, o, ()) ∧
    ((push xs f i neg out).1.length ≤ 24 → o = (push xs f i neg out).1 ∧ n = ((push xs f i neg out).2 : Int)) ∧ (24 < (push xs f i neg out).1.length → 24 < o.length) ∧ o.length ≤ out.length + 3 ^ (i + 1)
  | 0, i, neg, out, hf, hi, hb => by omega
  | f + 1, i, neg, out, hf, hi, hb => by
    have hlen := push_len hv (f + 1) i neg out hf hi
    obtain ⟨facts, hs⟩ := hv i hi
    rw [impl_eq]; unfold F0
    by_cases hbig : 24 < out.length
    · rw [decide_eq_true (by omega), cond_true]
      exact ⟨out, 0, rfl, fun h => by omega, fun _ => hbig, by omega⟩
    · rw [decide_eq_false (by omega), cond_false]
      clear hlen
      unfold push
      rw [inb_true hi, Int.toNat_natCast, cond_true]
      simp only
      generalize xs.getD i (0, 0, 0, 0) = t at hs
      obtain ⟨op, n, a, b⟩ := t
      unfold TimeStep at hs
      simp only at hs ⊢
      have h3 : 3 ^ (i + 1) = 3 ^ i + 3 ^ i + 3 ^ i := by rw [Nat.pow_succ]; omega
      have h0 : 0 < 3 ^ i := Nat.pow_pos (by omega)
      have hp : ∀ c : Nat, c < i → 3 ^ (c + 1) ≤ 3 ^ i := fun c hc => Nat.pow_le_pow_right (by omega) (by omega)
      by_cases h2 : op = 2
      · have ea : a = (a.toNat : Int) := by omega
        have := hp a.toNat (by omega)
        obtain ⟨o, m, e1, e2, e3, e4⟩ := law hv f a.toNat (!neg) out (by omega) (by omega) (by omega)
        rw [if_pos h2, show (op == 2) = true by simpa using h2, cond_true]
        rw [← ea] at e1
        rw [e1]
        exact ⟨o, m, rfl, e2, e3, by omega⟩
      · rw [if_neg h2, show (op == 2) = false by simpa using h2, cond_false]
        by_cases h1 : op ≤ 1
        · rw [if_pos h1]
          have q1 := put_len out (op, n, a, b)
          have q2 := put_len (put out (op, n, a, b)).1 (2, 0, ((put out (op, n, a, b)).2 : Int), ((put out (op, n, a, b)).2 : Int))
          have l1 := impl_pushing_put.law (op, n, a, b) xs out (big24_le (by omega))
          have l2 := impl_pushing_put.law (2, 0, ((put out (op, n, a, b)).2 : Int), ((put out (op, n, a, b)).2 : Int)) xs (put out (op, n, a, b)).1 (big24_le (by omega))
          have h01 : op = 0 ∨ op = 1 := by omega
          refine ⟨(if neg then put (put out (op, n, a, b)).1 (2, 0, ((put out (op, n, a, b)).2 : Int), ((put out (op, n, a, b)).2 : Int)) else put out (op, n, a, b)).1, ((if neg then put (put out (op, n, a, b)).1 (2, 0, ((put out (op, n, a, b)).2 : Int), ((put out (op, n, a, b)).2 : Int)) else put out (op, n, a, b)).2 : Nat), ?_, fun _ => ⟨rfl, rfl⟩, fun h => h, ?_⟩
          · have hone : ∀ y, y = (bif neg then Option.bind (impl_pushing_put.impl ((2, 0, ((put out (op, n, a, b)).2 : Int), ((put out (op, n, a, b)).2 : Int)), xs, (put out (op, n, a, b)).1, ())) fun y2 => some (y2.1, y2.2.1, y2.2.2.1, ()) else some (((put out (op, n, a, b)).2 : Int), xs, (put out (op, n, a, b)).1, ())) → y = (some ((((if neg then put (put out (op, n, a, b)).1 (2, 0, ((put out (op, n, a, b)).2 : Int), ((put out (op, n, a, b)).2 : Int)) else put out (op, n, a, b)).2 : Nat) : Int), xs, (if neg then put (put out (op, n, a, b)).1 (2, 0, ((put out (op, n, a, b)).2 : Int), ((put out (op, n, a, b)).2 : Int)) else put out (op, n, a, b)).1, ()) : Option PO) := by
              rintro y rfl
              cases neg with
              | true => rw [cond_true, l2]; rfl
              | false => rfl
            apply hone
            rcases h01 with rfl | rfl
            · rw [show ((0 : Int) == 0) = true by rfl, cond_true, l1, Option.bind_some]
            · rw [show ((1 : Int) == 0) = false by rfl, cond_false, show ((1 : Int) == 1) = true by rfl, cond_true, l1, Option.bind_some]
          · cases neg <;> simp only [if_true, Bool.false_eq_true, if_false] <;> omega
        · rw [if_neg h1, show (op == 0) = false by simp; omega, cond_false, show (op == 1) = false by simp; omega, cond_false]
          have ea : a = (a.toNat : Int) := by omega
          have eb : b = (b.toNat : Int) := by omega
          have g1 := hp a.toNat (by omega)
          have g2 := hp b.toNat (by omega)
          have q1 := push_len hv f a.toNat neg out (by omega) (by omega)
          have q2 := push_len hv f b.toNat neg (push xs f a.toNat neg out).1 (by omega) (by omega)
          obtain ⟨o1, m1, r1, r2, r3, r4⟩ := law hv f a.toNat neg out (by omega) (by omega) (by omega)
          obtain ⟨o2, m2, s1, s2, s3, s4⟩ := law hv f b.toNat neg o1 (by omega) (by omega) (by omega)
          rw [← ea] at r1
          rw [← eb] at s1
          have l17 : ∀ (x y : Int) (o : List I4), o.length ≤ big24 → L17 impl (neg, x, y, xs, op, n, a, b, o, ()) = some (((put o (if neg then turned op else op, 0, x, y)).2 : Int), xs, (put o (if neg then turned op else op, 0, x, y)).1, ()) := by
            intro x y o ho
            rw [L17_eq]; unfold F17
            cases neg with
            | true =>
              have : mapGet (.int .i64) (.int .i64) (mapPut (.int .i64) (.int .i64) (mapPut (.int .i64) (.int .i64) (mapPut (.int .i64) (.int .i64) (mapPut (.int .i64) (.int .i64) (mapPut (.int .i64) (.int .i64) [] (3 : Int) (4 : Int)) (4 : Int) (3 : Int)) (6 : Int) (7 : Int)) (7 : Int) (6 : Int)) (5 : Int) (5 : Int)) op = turned op := by
                have : op = 3 ∨ op = 4 ∨ op = 5 ∨ op = 6 ∨ op = 7 := by omega
                rcases this with rfl | rfl | rfl | rfl | rfl <;> rfl
              rw [this, cond_true, impl_pushing_put.law _ _ _ (big24_le ho)]
              rfl
            | false =>
              rw [cond_false, impl_pushing_put.law _ _ _ (big24_le ho)]
              rfl
          rw [L13_eq]; unfold F13
          rw [r1, Option.bind_some]
          by_cases h5 : op = 5
          · rw [if_pos h5, show (op != 5) = false by simpa using h5, cond_false]
            simp only
            rw [l17 _ _ _ (by omega)]
            refine ⟨_, _, rfl, fun h => ?_, fun h => ?_, ?_⟩
            · have z := put_len (push xs f a.toNat neg out).1 (if neg then turned op else op, 0, ((push xs f a.toNat neg out).2 : Int), ((push xs f a.toNat neg out).2 : Int))
              obtain ⟨z1, z2⟩ := r2 (by omega)
              rw [z1, z2]
              exact ⟨rfl, rfl⟩
            · have z := put_len o1 (if neg then turned op else op, 0, m1, m1)
              rcases Nat.lt_or_ge 24 (push xs f a.toNat neg out).1.length with c | c
              · have := r3 c
                omega
              · obtain ⟨z1, z2⟩ := r2 c
                rw [z1, z2]; exact h
            · have z := put_len o1 (if neg then turned op else op, 0, m1, m1)
              omega
          · rw [if_neg h5, show (op != 5) = true by simpa using h5, cond_true]
            simp only
            rw [s1, Option.bind_some]
            simp only
            rw [l17 _ _ _ (by omega)]
            have z := put_len (push xs f b.toNat neg (push xs f a.toNat neg out).1).1 (if neg then turned op else op, 0, ((push xs f a.toNat neg out).2 : Int), ((push xs f b.toNat neg (push xs f a.toNat neg out).1).2 : Int))
            have z' := put_len o2 (if neg then turned op else op, 0, m1, m2)
            have mono : o1.length ≤ o2.length ∨ 24 < o1.length := by
              rcases Nat.lt_or_ge 24 o1.length with c | c
              · exact .inr c
              · refine .inl ?_
                have y1 := push_len hv f b.toNat neg o1 (by omega) (by omega)
                rcases Nat.lt_or_ge 24 (push xs f b.toNat neg o1).1.length with c2 | c2
                · have := s3 c2; omega
                · rw [(s2 c2).1]; omega
            refine ⟨_, _, rfl, fun h => ?_, fun h => ?_, by omega⟩
            · obtain ⟨z1, z2⟩ := r2 (by omega)
              rw [z1] at s2
              obtain ⟨z3, z4⟩ := s2 (by omega)
              rw [z2, z3, z4]
              exact ⟨rfl, rfl⟩
            · rcases Nat.lt_or_ge 24 (push xs f a.toNat neg out).1.length with c | c
              · have c2 := r3 c
                have y1 := push_len hv f b.toNat neg o1 (by omega) (by omega)
                have := s3 (by omega)
                omega
              · obtain ⟨z1, z2⟩ := r2 c
                rw [z1] at s2 s3
                rcases Nat.lt_or_ge 24 (push xs f b.toNat neg (push xs f a.toNat neg out).1).1.length with c2 | c2
                · have := s3 c2
                  omega
                · obtain ⟨z3, z4⟩ := s2 c2
                  rw [z2, z3, z4]; exact h
end impl_pushing_of

theorem push_last {xs : List I4} (hv : Steps xs) : ∀ f i neg out, i < f → i < xs.length → Closed out → Closed (push xs f i neg out).1 ∧ ((push xs f i neg out).1 = out ∨ (push xs f i neg out).2 + 1 = (push xs f i neg out).1.length)
  | 0, i, neg, out, hf, hi, hc => by omega
  | f + 1, i, neg, out, hf, hi, hc => by
    obtain ⟨facts, hs⟩ := hv i hi
    unfold push
    simp only
    generalize xs.getD i (0, 0, 0, 0) = t at hs
    obtain ⟨op, n, a, b⟩ := t
    unfold TimeStep at hs
    simp only at hs ⊢
    by_cases h2 : op = 2
    · rw [if_pos h2]
      exact push_last hv f a.toNat (!neg) out (by omega) (by omega) hc
    · rw [if_neg h2]
      by_cases h1 : op ≤ 1
      · rw [if_pos h1]
        have c1 := put_closed (t := (op, n, a, b)) hc (fun h => absurd (show (2 : Int) ≤ op from h) (by omega))
        have q1 := put_len out (op, n, a, b)
        have p1 := put_last out (op, n, a, b)
        by_cases hn : neg
        · rw [if_pos hn]
          refine ⟨put_closed c1 (fun _ => ⟨by simp only; omega, by simp only; omega⟩), ?_⟩
          rcases p1 with p1 | p1
          · rw [p1]; exact put_last _ _
          · exact .inr (put_new c1 (by simp) (.inl (by simp only; omega))).1
        · rw [if_neg hn]; exact ⟨c1, p1⟩
      · rw [if_neg h1]
        have hop : (2 : Int) ≤ if neg then turned op else op := by
          split
          · unfold turned
            split
            · omega
            · split
              · omega
              · split
                · omega
                · split <;> omega
          · omega
        obtain ⟨c1, p1⟩ := push_last hv f a.toNat neg out (by omega) (by omega) hc
        have q1 := push_len hv f a.toNat neg out (by omega) (by omega)
        by_cases h5 : op = 5
        · rw [if_pos h5]
          refine ⟨put_closed c1 (fun _ => ⟨by simp only; omega, by simp only; omega⟩), ?_⟩
          rcases p1 with p1 | p1
          · rw [p1]; exact put_last _ _
          · exact .inr (put_new c1 hop (.inl (by simp only; omega))).1
        · rw [if_neg h5]
          obtain ⟨c2, p2⟩ := push_last hv f b.toNat neg (push xs f a.toNat neg out).1 (by omega) (by omega) c1
          have q2 := push_len hv f b.toNat neg (push xs f a.toNat neg out).1 (by omega) (by omega)
          refine ⟨put_closed c2 (fun _ => ⟨by simp only; omega, by simp only; omega⟩), ?_⟩
          rcases p2 with p2 | p2
          · rw [p2]
            rcases p1 with p1 | p1
            · rw [p1]; exact put_last _ _
            · refine .inr (put_new c1 hop (.inl ?_)).1
              simp only; omega
          · exact .inr (put_new c2 hop (.inr (by simp only; omega))).1

theorem steps_of {xs : List I4} {facts : Int} (h : timesOK xs facts = true) : Steps xs ∧ 1 ≤ xs.length ∧ xs.length ≤ 24 := by
  unfold timesOK at h
  simp only [Bool.and_eq_true, in3_iff, range_all, decide_eq_true_eq] at h
  exact ⟨fun i hi => ⟨facts, h.2.2 i hi⟩, by omega, by omega⟩
/-- what is pushed -/
def pushed (xs : List I4) (facts : Int) : List I4 :=
  if timesOK xs facts = true then (if 24 < (push xs xs.length (xs.length - 1) false []).1.length then [] else (push xs xs.length (xs.length - 1) false []).1) else []
theorem push_all {xs : List I4} {facts : Int} (h : timesOK xs facts = true) : (push xs xs.length (xs.length - 1) false []).2 + 1 = (push xs xs.length (xs.length - 1) false []).1.length := by
  obtain ⟨hs, h1, h2⟩ := steps_of h
  have e1 := push_last hs xs.length (xs.length - 1) false [] (by omega) (by omega) (fun j hj => absurd hj (by simp))
  have e2 := push_len hs xs.length (xs.length - 1) false [] (by omega) (by omega)
  rcases e1.2 with e | e
  · rw [e] at e2; simp at e2
  · exact e
theorem push_big {xs : List I4} {facts : Int} (h : timesOK xs facts = true) : 0 + 3 ^ (xs.length - 1 + 1) ≤ big24 := by
  obtain ⟨hs, h1, h2⟩ := steps_of h
  unfold big24
  have : 3 ^ (xs.length - 1 + 1) ≤ 3 ^ 24 := Nat.pow_le_pow_right (by omega) (by omega)
  omega

namespace impl_Pushed
theorem law (xs : List I4) (facts : Int) : impl (xs, facts, ()) = some (pushed xs facts, ()) := by
  rw [impl_eq]; unfold F0
  rw [impl_TimesValid.law, Option.bind_some]
  unfold pushed
  cases h : timesOK xs facts with
  | false => rfl
  | true =>
    obtain ⟨hs, h1, h2⟩ := steps_of h
    have e := push_all h
    simp only [Bool.not_true, cond_false, if_true]
    obtain ⟨o, n, l1, l2, l3, l4⟩ := impl_pushing_of.law hs xs.length (xs.length - 1) false [] (by omega) (by omega) (push_big h)
    rw [wI_small (n := (xs.length : Int) - 1) (by omega) (by omega), show (xs.length : Int) - 1 = ((xs.length - 1 : Nat) : Int) by omega, l1, Option.bind_some]
    simp only
    by_cases hbig : 24 < (push xs xs.length (xs.length - 1) false []).1.length
    · have := l3 hbig
      rw [if_pos hbig, decide_eq_true (by omega), cond_true]
    · obtain ⟨z1, z2⟩ := l2 (by omega)
      rw [if_neg hbig, z1, z2, decide_eq_false (by omega), cond_false, wI_small (by omega) (by omega)]
      rw [decide_eq_true (by omega), decide_eq_true (by omega)]
      simp only [Bool.and_self, cond_true, List.drop_zero, Nat.sub_zero]
      rw [List.take_of_length_le (by omega), impl_clone_of.law _ (by omega)]
      rfl
end impl_Pushed
theorem pushed_len (xs : List I4) (facts : Int) : (pushed xs facts).length ≤ 24 := by
  unfold pushed
  split
  · split
    · simp
    · omega
  · simp
/-! ### formulas of time are drawn -/
namespace spec_l20Draw
theorem law (facts later : Int) (code : List Int) (p : Int) (h : Src code p) (hp : p ≤ 1000) : ∃ list q, impl (facts, later, code, p, ()) = some (list, code, q, ()) ∧ 2 ≤ list.length ∧ list.length ≤ 8 ∧ p ≤ q ∧ q ≤ p + 50 := by
  have key : ∀ (k : Nat) (t2 q : Int) (r0 : List I4), k ≤ 8 → Src code q → q + 5 * (k : Int) ≤ 2100 → r0.length + k ≤ 8 → ∃ list q', L3 (facts, t2, (k : Int), code, q, r0, ()) = some (list, code, q', ()) ∧ list.length = r0.length + k ∧ q ≤ q' ∧ q' ≤ q + 5 * (k : Int) := by
    intro k
    induction k with
    | zero =>
      intro t2 q r0 _ _ _ _
      rw [L3_eq]; unfold F3
      exact ⟨r0, q, rfl, by simp, by omega, by omega⟩
    | succ k ih =>
      intro t2 q r0 hk hS hq hr
      have h0 := hS.2.2.1
      have fin : ∀ (t2' q1 : Int) (t : I4), q ≤ q1 → q1 ≤ q + 5 → ∃ list q', L3 (facts, t2', wI (((k + 1 : Nat) : Int) - 1), code, q1, r0 ++ [t], ()) = some (list, code, q', ()) ∧ list.length = r0.length + (k + 1) ∧ q ≤ q' ∧ q' ≤ q + 5 * ((k + 1 : Nat) : Int) := by
        intro t2' q1 t h1 h2
        rw [wI_small (by omega) (by omega), show ((k + 1 : Nat) : Int) - 1 = (k : Int) by omega]
        obtain ⟨l, q', e1, e2, e3, e4⟩ := ih t2' q1 (r0 ++ [t]) (by omega) (hS.at (by omega) (by omega)) (by omega) (by simp only [List.length_append, List.length_cons, List.length_nil]; omega)
        exact ⟨l, q', e1, by rw [e2]; simp only [List.length_append, List.length_cons, List.length_nil]; omega, by omega, by omega⟩
      have h8 : ∀ t9 q1 : Int, q ≤ q1 → q1 ≤ q + 1 → ∃ list q', L8 L3 (facts, t2, ((k + 1 : Nat) : Int), t9, code, q1, r0, ()) = some (list, code, q', ()) ∧ list.length = r0.length + (k + 1) ∧ q ≤ q' ∧ q' ≤ q + 5 * ((k + 1 : Nat) : Int) := by
        intro t9 q1 h1 h2
        obtain ⟨v1, p1, _, _⟩ := spec_l40Rd_pick.law facts code q1 (hS.at (by omega) (by omega)) (by omega)
        obtain ⟨v4, p4, _, _⟩ := spec_l40Rd_pick.law 2 code q1 (hS.at (by omega) (by omega)) (by omega)
        obtain ⟨v5, p5, _, _⟩ := spec_l40Rd_pick.law (r0.length : Int) code (q1 + 1) (hS.at (by omega) (by omega)) (by omega)
        obtain ⟨v6, p6, _, _⟩ := spec_l40Rd_pick.law (r0.length : Int) code (q1 + 1 + 1) (hS.at (by omega) (by omega)) (by omega)
        have fits : ∀ t : I4, decide ((r0.length + [t].length) * 32 ≤ 140737488355328) = true := fun t => decide_eq_true (by simp only [List.length_append, List.length_cons, List.length_nil]; omega)
        rw [L8_eq]; unfold F8
        simp only [p1, p4, p5, p6, Option.bind_some, spec_l20One.law, fits, cond_true]
        cases (r0.length : Int) == 0
        · cases decide (t9 ≤ 1)
          · cases (t9 == 2 || t9 == 5) <;> cases decide (t9 ≥ 5) <;> exact fin _ _ _ (by omega) (by omega)
          · cases facts == 0 <;> cases t9 == 0 <;> cases decide ((r0.length : Int) > 0) <;> exact fin _ _ _ (by omega) (by omega)
        · cases facts == 0 <;> cases t9 == 0 <;> cases decide ((r0.length : Int) > 0) <;> exact fin _ _ _ (by omega) (by omega)
      obtain ⟨v, _, pv⟩ := spec_l40Rd_num.law [1, 1, 2, 3, 4, 5, 6, 7, 6, 7, 0] code q (by simp) hS (by omega)
      rw [L3_eq]; unfold F3
      rw [decide_eq_true (show ((k + 1 : Nat) : Int) > 0 by omega), cond_true, pv, Option.bind_some]
      cases decide (v ≥ 5) <;> cases t2 == 0 <;> exact h8 _ _ (show q ≤ q + 1 by omega) (show q + 1 ≤ q + 1 by omega)
  obtain ⟨v, pv, _, hv⟩ := spec_l40Rd_pick.law 7 code p h (by omega)
  have hv := hv (by omega)
  have h0 := h.2.2.1
  obtain ⟨l, q, e1, e2, e3, e4⟩ := key (2 + v).toNat later (p + 1) [] (by omega) (h.at (by omega) (by omega)) (by omega) (by simp; omega)
  rw [impl_eq]; unfold F0
  rw [pv, Option.bind_some, wI_small (n := 2 + v) (by omega) (by omega)]
  rw [show (((2 + v).toNat : Nat) : Int) = 2 + v by omega] at e1
  simp only [List.length_nil] at e2
  exact ⟨l, q, e1, by omega, by omega, by omega, by omega⟩
end spec_l20Draw
namespace spec_l20Any
theorem law (facts later : Int) (code : List Int) (p : Int) (h : Src code p) (hp : p ≤ 1000) : ∃ list q, impl (facts, later, code, p, ()) = some (list, code, q, ()) ∧ list.length ≤ 8 ∧ p ≤ q ∧ q ≤ p + 60 := by
  have h0 := h.2.2.1
  obtain ⟨l, q, e1, e2, e3, e4, e5⟩ := spec_l20Draw.law facts later code p h hp
  have S : ∀ x : Int, q ≤ x → x ≤ q + 10 → Src code x := fun x h1 h2 => h.at (by omega) (by omega)
  obtain ⟨v1, p1, _, _⟩ := spec_l40Rd_pick.law 14 code q (S _ (by omega) (by omega)) (by omega)
  obtain ⟨v2, p2, _, g2⟩ := spec_l40Rd_pick.law (l.length : Int) code (q + 1) (S _ (by omega) (by omega)) (by omega)
  obtain ⟨v3, p3, _, _⟩ := spec_l40Rd_pick.law 4 code (q + 1 + 1) (S _ (by omega) (by omega)) (by omega)
  obtain ⟨v4, _, p4⟩ := spec_l40Rd_num.law [-1, 8, 2, 6] code (q + 1 + 1 + 1) (by simp) (S _ (by omega) (by omega)) (by omega)
  obtain ⟨v5, _, p5⟩ := spec_l40Rd_num.law [facts, -1, 1] code (q + 1 + 1 + 1) (by simp) (S _ (by omega) (by omega)) (by omega)
  obtain ⟨v6, _, p6⟩ := spec_l40Rd_num.law [v2, -1] code (q + 1 + 1 + 1) (by simp) (S _ (by omega) (by omega)) (by omega)
  obtain ⟨v7, _, p7⟩ := spec_l40Rd_num.law [v2, -1, 0] code (q + 1 + 1 + 1) (by simp) (S _ (by omega) (by omega)) (by omega)
  have g2 := g2 (by omega)
  rw [impl_eq]; unfold F0
  rw [e1, Option.bind_some]
  simp only [p1, p2, p3, p4, p5, p6, p7, Option.bind_some, inb_int g2.1 g2.2, cond_true]
  cases v1 == 0
  · exact ⟨_, _, rfl, by omega, by omega, by omega⟩
  · cases v3 == 0
    · cases v3 == 1
      · cases v3 == 2
        · exact ⟨_, _, rfl, by simp only [List.length_set]; omega, by omega, by omega⟩
        · exact ⟨_, _, rfl, by simp only [List.length_set]; omega, by omega, by omega⟩
      · exact ⟨_, _, rfl, by simp only [List.length_set]; omega, by omega, by omega⟩
    · exact ⟨_, _, rfl, by simp only [List.length_set]; omega, by omega, by omega⟩
end spec_l20Any
theorem times_at {xs : List I4} {facts : Int} (h : timesOK xs facts = true) : (0 ≤ facts ∧ facts ≤ 4) ∧ 1 ≤ xs.length ∧ xs.length ≤ 24 ∧ ∀ i, i < xs.length → TimeStep (xs.getD i (0, 0, 0, 0)) i facts := by
  unfold timesOK at h
  simp only [Bool.and_eq_true, in3_iff, range_all, decide_eq_true_eq] at h
  exact ⟨h.1, by omega, by omega, fun i hi => h.2.2 i hi⟩
/-! ### what is pushed is in order, and nots stand on facts alone -/
def GoodT (facts : Int) (out : List I4) : Prop := ∀ i, i < out.length → TimeStep (out.getD i (0, 0, 0, 0)) i facts ∧ ((out.getD i (0, 0, 0, 0)).1 = 2 → (out.getD (out.getD i (0, 0, 0, 0)).2.2.1.toNat (0, 0, 0, 0)).1 ≤ 1)
theorem get_left {out : List I4} {t : I4} {i : Nat} (h : i < out.length) : (out ++ [t]).getD i (0, 0, 0, 0) = out.getD i (0, 0, 0, 0) := by
  rw [List.getD_eq_getElem?_getD, List.getElem?_append_left h, List.getD_eq_getElem?_getD]
theorem get_new {out : List I4} {t : I4} : (out ++ [t]).getD out.length (0, 0, 0, 0) = t := by simp [List.getD_eq_getElem?_getD]
theorem put_at (out : List I4) (t : I4) : (put out t).1.getD (put out t).2 (0, 0, 0, 0) = t := by
  unfold put
  by_cases h : atI out t < out.length
  · rw [if_pos h]; exact atI_get h
  · have := atI_le out t
    rw [if_neg h, show atI out t = out.length by omega]; exact get_new
theorem step_a {t : I4} {i facts : Int} (h : TimeStep t i facts) (h2 : t.1 = 2) : 0 ≤ t.2.2.1 ∧ t.2.2.1 < i := by
  unfold TimeStep at h; omega
theorem step_mk {op a b i facts : Int} (h2 : 2 ≤ op) (h7 : op ≤ 7) (ha : 0 ≤ a ∧ a ≤ i - 1) (hb : 0 ≤ b ∧ b ≤ i - 1) (he : op = 2 ∨ op = 5 → b = a) : TimeStep (op, 0, a, b) i facts := .inr (.inr ⟨h2, h7, rfl, ha.1, ha.2, hb.1, hb.2, he⟩)
theorem put_good {facts : Int} {out : List I4} {t : I4} (h : GoodT facts out) (ht : TimeStep t out.length facts) (hn : t.1 = 2 → (out.getD t.2.2.1.toNat (0, 0, 0, 0)).1 ≤ 1) : GoodT facts (put out t).1 := by
  unfold put
  by_cases hp : atI out t < out.length
  · rw [if_pos hp]; exact h
  · rw [if_neg hp]
    intro i hi
    simp only [List.length_append, List.length_cons, List.length_nil] at hi
    rcases Nat.lt_or_ge i out.length with c | c
    · rw [get_left c]
      obtain ⟨h1, h2⟩ := h i c
      refine ⟨h1, fun e => ?_⟩
      have := step_a h1 e
      rw [get_left (by omega)]
      exact h2 e
    · have : i = out.length := by omega
      subst this
      rw [get_new]
      refine ⟨ht, fun e => ?_⟩
      have := step_a ht e
      rw [get_left (by omega)]
      exact hn e
theorem push_good {xs : List I4} {facts : Int} (hv : ∀ i, i < xs.length → TimeStep (xs.getD i (0, 0, 0, 0)) i facts) : ∀ f i neg out, i < f → i < xs.length → GoodT facts out → GoodT facts (push xs f i neg out).1
  | 0, i, neg, out, hf, hi, hc => by omega
  | f + 1, i, neg, out, hf, hi, hc => by
    have hS : Steps xs := fun i hi => ⟨facts, hv i hi⟩
    have hs := hv i hi
    unfold push
    simp only
    generalize xs.getD i (0, 0, 0, 0) = t at hs
    obtain ⟨op, n, a, b⟩ := t
    unfold TimeStep at hs
    simp only at hs ⊢
    by_cases h2 : op = 2
    · rw [if_pos h2]
      exact push_good hv f a.toNat (!neg) out (by omega) (by omega) hc
    · rw [if_neg h2]
      by_cases h1 : op ≤ 1
      · rw [if_pos h1]
        have c1 := put_good (t := (op, n, a, b)) hc (by unfold TimeStep; simp only; omega) (fun h => absurd (show op = 2 from h) h2)
        have q1 := put_len out (op, n, a, b)
        have p1 := put_at out (op, n, a, b)
        by_cases hn : neg
        · rw [if_pos hn]
          refine put_good c1 (step_mk (by omega) (by omega) (by omega) (by omega) (fun _ => rfl)) (fun _ => ?_)
          simp only [Int.toNat_natCast, p1]
          exact h1
        · rw [if_neg hn]; exact c1
      · rw [if_neg h1]
        have hop : 3 ≤ (if neg then turned op else op) ∧ (if neg then turned op else op) ≤ 7 ∧ ((if neg then turned op else op) = 5 → op = 5) := by
          unfold turned; split <;> grind
        have c1 := push_good hv f a.toNat neg out (by omega) (by omega) hc
        have q1 := push_len hS f a.toNat neg out (by omega) (by omega)
        by_cases h5 : op = 5
        · rw [if_pos h5]
          exact put_good c1 (step_mk (by omega) (by omega) (by omega) (by omega) (fun _ => rfl)) (fun h => absurd (show (if neg then turned op else op) = 2 from h) (by omega))
        · rw [if_neg h5]
          have c2 := push_good hv f b.toNat neg (push xs f a.toNat neg out).1 (by omega) (by omega) c1
          have q2 := push_len hS f b.toNat neg (push xs f a.toNat neg out).1 (by omega) (by omega)
          exact put_good c2 (step_mk (by omega) (by omega) (by omega) (by omega) (fun h => by omega)) (fun h => absurd (show (if neg then turned op else op) = 2 from h) (by omega))
theorem pushed_good (xs : List I4) (facts : Int) : pushed xs facts = [] ∨ (timesOK (pushed xs facts) facts = true ∧ GoodT facts (pushed xs facts)) := by
  unfold pushed
  by_cases h : timesOK xs facts = true
  rotate_left
  · rw [if_neg h]; exact .inl rfl
  rw [if_pos h]
  obtain ⟨hf, hl1, hl2, hv⟩ := times_at h
  have g := push_good hv xs.length (xs.length - 1) false [] (by omega) (by omega) (fun i hi => absurd hi (by simp))
  have e := push_all h
  by_cases hb : 24 < (push xs xs.length (xs.length - 1) false []).1.length
  · rw [if_pos hb]; exact .inl rfl
  · rw [if_neg hb]
    refine .inr ⟨?_, g⟩
    unfold timesOK
    simp only [Bool.and_eq_true, in3_iff, range_all, decide_eq_true_eq]
    exact ⟨hf, by omega, fun i hi => (g i hi).1⟩
theorem u8_wf {n : Int} (h : (Lit.int .u8 n).wf = true) : 0 ≤ n ∧ n ≤ 255 := by
  simp only [Lit.wf, Bool.and_eq_true, decide_eq_true_eq] at h
  exact ⟨h.1, h.2⟩
/-! ### rows over a word that goes round -/
def nxt (s n i : Nat) : Nat := if i + 1 < n then i + 1 else s
def swp (g : Nat → Int → Int) (s n : Nat) : Nat → List Int → List Int
  | 0, row => row
  | k + 1, row => swp g s n k (row.set k (g k (row.getD (nxt s n k) 0)))
def swps (g : Nat → Int → Int) (s n : Nat) : Nat → List Int → List Int
  | 0, row => row
  | m + 1, row => swps g s n m (swp g s n n row)
/-- what stands d places from the end behind a sweep, if x stood where the word goes on -/
def Gv (g : Nat → Int → Int) (n : Nat) (x : Int) : Nat → Int
  | 0 => g (n - 1) x
  | d + 1 => g (n - 1 - (d + 1)) (Gv g n x d)
theorem swp_length (g : Nat → Int → Int) (s n : Nat) : ∀ (k : Nat) (row : List Int), (swp g s n k row).length = row.length
  | 0, _ => rfl
  | k + 1, row => by unfold swp; rw [swp_length]; simp
theorem getD_set {row : List Int} {i j : Nat} {v : Int} (hi : i < row.length) : (row.set i v).getD j 0 = if j = i then v else row.getD j 0 := by
  rw [List.getD_eq_getElem?_getD, List.getElem?_set, List.getD_eq_getElem?_getD]
  by_cases h : i = j
  · subst h; simp [hi]
  · rw [if_neg h, if_neg (fun e => h e.symm)]
theorem swp_get {g : Nat → Int → Int} {s n : Nat} {x : Int} : ∀ (k : Nat) (row : List Int), row.length = n → k < n → (∀ i, k ≤ i → i < n → row.getD i 0 = Gv g n x (n - 1 - i)) → ∀ i, i < n → (swp g s n k row).getD i 0 = Gv g n x (n - 1 - i)
  | 0, row, _, _, h, i, hi => h i (by omega) hi
  | k + 1, row, hl, hk, h, i, hi => by
    unfold swp
    refine swp_get k _ (by simp [hl]) (by omega) (fun j hj hjn => ?_) i hi
    rw [getD_set (by omega)]
    by_cases e : j = k
    · subst e
      rw [if_pos rfl, show nxt s n j = j + 1 by unfold nxt; rw [if_pos (by omega)], h (j + 1) (by omega) (by omega)]
      obtain ⟨d, hd⟩ : ∃ d, n - 1 - j = d + 1 := ⟨n - 1 - j - 1, by omega⟩
      rw [show n - 1 - (j + 1) = d by omega, hd]
      show g j _ = g (n - 1 - (d + 1)) _
      rw [show n - 1 - (d + 1) = j by omega]
    · rw [if_neg e]
      exact h j (by omega) hjn
theorem sweep_get {g : Nat → Int → Int} {s n : Nat} {row : List Int} (hl : row.length = n) (hn : 0 < n) {i : Nat} (hi : i < n) : (swp g s n n row).getD i 0 = Gv g n (row.getD s 0) (n - 1 - i) := by
  obtain ⟨m, rfl⟩ : ∃ m, n = m + 1 := ⟨n - 1, by omega⟩
  unfold swp
  have e : nxt s (m + 1) m = s := by unfold nxt; rw [if_neg (by omega)]
  rw [e]
  refine swp_get (x := row.getD s 0) m _ (by simp [hl]) (by omega) (fun j hj hjn => ?_) i hi
  have : j = m := by omega
  subst this
  rw [getD_set (by omega), if_pos rfl, show j + 1 - 1 - j = 0 by omega]
  rfl
def Bit (x : Int) : Prop := x = 0 ∨ x = 1
/-- a step that only goes up -/
def Mono (g : Nat → Int → Int) (n : Nat) : Prop := ∀ i, i < n → Bit (g i 0) ∧ Bit (g i 1) ∧ g i 0 ≤ g i 1
theorem Gv_mono {g : Nat → Int → Int} {n : Nat} (h : Mono g n) (hn : 0 < n) : ∀ d, d < n → Bit (Gv g n 0 d) ∧ Bit (Gv g n 1 d) ∧ Gv g n 0 d ≤ Gv g n 1 d
  | 0, _ => h (n - 1) (by omega)
  | d + 1, hd => by
    obtain ⟨a, b, c⟩ := Gv_mono h hn d (by omega)
    have hg := h (n - 1 - (d + 1)) (by omega)
    unfold Gv
    rcases a with a | a <;> rcases b with b | b <;> rw [a, b]
    · exact ⟨hg.1, hg.1, Int.le_refl _⟩
    · exact hg
    · omega
    · exact ⟨hg.2.1, hg.2.1, Int.le_refl _⟩
theorem Gv_bit {g : Nat → Int → Int} {n : Nat} (h : Mono g n) (hn : 0 < n) {x : Int} (hx : Bit x) {d : Nat} (hd : d < n) : Bit (Gv g n x d) := by
  have := Gv_mono h hn d hd
  rcases hx with rfl | rfl
  · exact this.1
  · exact this.2.1
theorem list_ext {x y : List Int} (hl : x.length = y.length) (h : ∀ i, i < x.length → x.getD i 0 = y.getD i 0) : x = y := by
  refine List.ext_getElem hl fun i h1 h2 => ?_
  have := h i h1
  rwa [getD_eq h1, getD_eq h2] at this
/-- two sweeps are enough -/
theorem sweep_again {g : Nat → Int → Int} {s n : Nat} {row : List Int} (h : Mono g n) (hl : row.length = n) (hs : s < n) (hx : Bit (row.getD s 0)) : swp g s n n (swp g s n n (swp g s n n row)) = swp g s n n (swp g s n n row) := by
  have l1 : (swp g s n n row).length = n := by rw [swp_length, hl]
  have l2 : (swp g s n n (swp g s n n row)).length = n := by rw [swp_length, l1]
  have hn : 0 < n := by omega
  refine list_ext (by rw [swp_length]) fun i hi => ?_
  rw [swp_length, l2] at hi
  rw [sweep_get l2 hn hi, sweep_get l1 hn hi]
  congr 1
  rw [sweep_get l1 hn hs, sweep_get hl hn hs]
  have hm := Gv_mono h hn (n - 1 - s) (by omega)
  rcases hx with e | e <;> rw [e]
  · rcases hm.1 with q | q
    · rw [q, q]
    · have : Gv g n 1 (n - 1 - s) = 1 := by rcases hm.2.1 with p | p <;> omega
      rw [q, this]
  · rcases hm.2.1 with q | q
    · have : Gv g n 0 (n - 1 - s) = 0 := by rcases hm.1 with p | p <;> omega
      rw [q, this]
    · rw [q, q]
theorem sweeps_two {g : Nat → Int → Int} {s n : Nat} {row : List Int} (h : Mono g n) (hl : row.length = n) (hs : s < n) (hx : Bit (row.getD s 0)) : ∀ m, swps g s n (m + 2) row = swps g s n 2 row
  | 0 => rfl
  | m + 1 => by
    have l1 : (swp g s n n row).length = n := by rw [swp_length, hl]
    have hb : Bit ((swp g s n n row).getD s 0) := by
      rw [sweep_get hl (by omega) hs]
      exact Gv_bit h (by omega) hx (by omega)
    show swps g s n (m + 2) (swp g s n n row) = _
    rw [sweeps_two h l1 hs hb m]
    exact sweep_again h hl hs hx
/-! ### formulas of time over a word that goes round -/
def gU (A B : List Int) (i : Nat) (x : Int) : Int := if B.getD i 0 = 1 ∨ (A.getD i 0 = 1 ∧ x = 1) then 1 else 0
def gR (A B : List Int) (i : Nat) (x : Int) : Int := if B.getD i 0 = 1 ∧ (A.getD i 0 = 1 ∨ x = 1) then 1 else 0
def ofN (n : Nat) (f : Nat → Int) : List Int := (List.range n).map f
theorem ofN_length (n : Nat) (f : Nat → Int) : (ofN n f).length = n := by simp [ofN]
theorem ofN_get {n i : Nat} (f : Nat → Int) (h : i < n) : (ofN n f).getD i 0 = f i := by
  unfold ofN
  rw [getD_eq (by simpa using h)]
  simp
def timeRow (all : List (List Int)) (s n : Nat) (rows : List (List Int)) (t : I4) : List Int :=
  if t.1 = 0 then ofN n (fun _ => 1)
  else if t.1 = 1 then ofN n fun i => (all.getD i []).getD t.2.1.toNat 0
  else if t.1 = 2 then ofN n fun i => 1 - (rows.getD t.2.2.1.toNat []).getD i 0
  else if t.1 = 3 then ofN n fun i => if (rows.getD t.2.2.1.toNat []).getD i 0 = 1 ∧ (rows.getD t.2.2.2.toNat []).getD i 0 = 1 then 1 else 0
  else if t.1 = 4 then ofN n fun i => if (rows.getD t.2.2.1.toNat []).getD i 0 = 1 ∨ (rows.getD t.2.2.2.toNat []).getD i 0 = 1 then 1 else 0
  else if t.1 = 5 then ofN n fun i => (rows.getD t.2.2.1.toNat []).getD (nxt s n i) 0
  else if t.1 = 6 then swps (gU (rows.getD t.2.2.1.toNat []) (rows.getD t.2.2.2.toNat [])) s n 2 (List.replicate n 0)
  else swps (gR (rows.getD t.2.2.1.toNat []) (rows.getD t.2.2.2.toNat [])) s n 2 (List.replicate n 1)
theorem swps_length (g : Nat → Int → Int) (s n : Nat) : ∀ (m : Nat) (row : List Int), (swps g s n m row).length = row.length
  | 0, _ => rfl
  | m + 1, row => by unfold swps; rw [swps_length, swp_length]
theorem timeRow_length (all : List (List Int)) (s n : Nat) (rows : List (List Int)) (t : I4) : (timeRow all s n rows t).length = n := by
  unfold timeRow
  split
  · exact ofN_length _ _
  split
  · exact ofN_length _ _
  split
  · exact ofN_length _ _
  split
  · exact ofN_length _ _
  split
  · exact ofN_length _ _
  split
  · exact ofN_length _ _
  split <;> rw [swps_length] <;> simp
/-- the rows of all steps -/
def timeRows (all : List (List Int)) (s n : Nat) : List I4 → List (List Int) → List (List Int)
  | [], out => out
  | t :: r, out => timeRows all s n r (out ++ [timeRow all s n out t])
theorem timeRows_append (all : List (List Int)) (s n : Nat) : ∀ (x y : List I4) (out : List (List Int)), timeRows all s n (x ++ y) out = timeRows all s n y (timeRows all s n x out)
  | [], _, _ => rfl
  | t :: r, y, out => by rw [List.cons_append]; exact timeRows_append all s n r y _
theorem timeRows_pre (all : List (List Int)) (s n : Nat) : ∀ (x : List I4) (out : List (List Int)), ∃ z, timeRows all s n x out = out ++ z ∧ z.length = x.length
  | [], out => ⟨[], by simp [timeRows], rfl⟩
  | t :: r, out => by
    obtain ⟨z, h, hl⟩ := timeRows_pre all s n r (out ++ [timeRow all s n out t])
    exact ⟨timeRow all s n out t :: z, by unfold timeRows; rw [h]; simp, by simp [hl]⟩
section
variable {all : List (List Int)} {s n : Nat}
def RT (all : List (List Int)) (s n : Nat) (o : List I4) : List (List Int) := timeRows all s n o []
theorem RT_length (o : List I4) : (RT all s n o).length = o.length := by
  obtain ⟨z, h, hl⟩ := timeRows_pre all s n o []
  unfold RT
  rw [h, List.nil_append, hl]
theorem RT_snoc (o : List I4) (t : I4) : RT all s n (o ++ [t]) = RT all s n o ++ [timeRow all s n (RT all s n o) t] := by
  unfold RT
  rw [timeRows_append]
  rfl
theorem RT_get_left {o z : List I4} {i : Nat} (h : i < o.length) : (RT all s n (o ++ z)).getD i [] = (RT all s n o).getD i [] := by
  unfold RT
  rw [timeRows_append]
  obtain ⟨y, hy, _⟩ := timeRows_pre all s n z (timeRows all s n o [])
  have hl : (timeRows all s n o []).length = o.length := RT_length o
  rw [hy, List.getD_eq_getElem?_getD, List.getElem?_append_left (by omega), ← List.getD_eq_getElem?_getD]
theorem timeRow_left {facts : Int} {o z : List I4} {t : I4} (h : TimeStep t o.length facts) : timeRow all s n (RT all s n (o ++ z)) t = timeRow all s n (RT all s n o) t := by
  unfold TimeStep at h
  by_cases h2 : 2 ≤ t.1
  · have ea : (RT all s n (o ++ z)).getD t.2.2.1.toNat [] = (RT all s n o).getD t.2.2.1.toNat [] := RT_get_left (by omega)
    have eb : (RT all s n (o ++ z)).getD t.2.2.2.toNat [] = (RT all s n o).getD t.2.2.2.toNat [] := RT_get_left (by omega)
    unfold timeRow
    rw [ea, eb]
  · unfold timeRow
    by_cases h0 : t.1 = 0
    · rw [if_pos h0, if_pos h0]
    · rw [if_neg h0, if_neg h0, if_pos (by omega), if_pos (by omega)]
def StepsT (facts : Int) (o : List I4) : Prop := ∀ i, i < o.length → TimeStep (o.getD i (0, 0, 0, 0)) i facts
theorem RT_get {facts : Int} {o : List I4} (hg : StepsT facts o) {i : Nat} (hi : i < o.length) : (RT all s n o).getD i [] = timeRow all s n (RT all s n o) (o.getD i (0, 0, 0, 0)) := by
  have hsplit : o = (o.take i ++ [o.getD i (0, 0, 0, 0)]) ++ o.drop (i + 1) := by
    rw [List.append_assoc, List.singleton_append, ← drop_cons (0, 0, 0, 0) hi, List.take_append_drop]
  have h1 := hg i hi
  have hl : (o.take i).length = i := by rw [List.length_take]; omega
  generalize hA : o.take i = A at hsplit hl
  generalize hB : o.drop (i + 1) = B at hsplit
  generalize o.getD i (0, 0, 0, 0) = t at hsplit h1 ⊢
  subst hsplit
  rw [RT_get_left (by simp; omega), RT_snoc]
  have e : (RT all s n A ++ [timeRow all s n (RT all s n A) t]).getD i [] = timeRow all s n (RT all s n A) t := by
    rw [List.getD_eq_getElem?_getD, List.getElem?_append_right (by rw [RT_length]; omega), RT_length, hl]; simp
  rw [e, List.append_assoc, timeRow_left (facts := facts) (hl ▸ h1)]
theorem RT_row {o : List I4} {i : Nat} (hi : i < o.length) : ((RT all s n o).getD i []).length = n := by
  have hsplit : o = (o.take i ++ [o.getD i (0, 0, 0, 0)]) ++ o.drop (i + 1) := by
    rw [List.append_assoc, List.singleton_append, ← drop_cons (0, 0, 0, 0) hi, List.take_append_drop]
  have hl : (o.take i).length = i := by rw [List.length_take]; omega
  generalize hA : o.take i = A at hsplit hl
  generalize hB : o.drop (i + 1) = B at hsplit
  generalize o.getD i (0, 0, 0, 0) = t at hsplit
  subst hsplit
  rw [RT_get_left (by simp; omega), RT_snoc, List.getD_eq_getElem?_getD, List.getElem?_append_right (by rw [RT_length]; omega), RT_length, hl]
  simp [timeRow_length]
theorem RT_put {facts : Int} {out : List I4} {t : I4} (hg : StepsT facts out) (hG : StepsT facts (put out t).1) (ht : TimeStep t out.length facts) : (RT all s n (put out t).1).getD (put out t).2 [] = timeRow all s n (RT all s n out) t := by
  have hl := put_len out t
  have hs : ∃ z, (put out t).1 = out ++ z := by
    unfold put
    by_cases hi : atI out t < out.length
    · exact ⟨[], by simp [hi]⟩
    · exact ⟨[t], by simp [hi]⟩
  obtain ⟨z, hz⟩ := hs
  rw [RT_get hG hl.2.2, put_at, hz, timeRow_left (facts := facts) ht]
end
/-! ### contraries -/
/-- the same row, or its contrary -/
def Same (neg : Bool) (n : Nat) (x y : List Int) : Prop := x.length = n ∧ y.length = n ∧ ∀ p, p < n → y.getD p 0 = if neg = true then 1 - x.getD p 0 else x.getD p 0
def Bits (n : Nat) (x : List Int) : Prop := ∀ p, p < n → Bit (x.getD p 0)
theorem nxt_lt {s n i : Nat} (hs : s < n) : nxt s n i < n := by unfold nxt; split <;> omega
theorem swp_same {g g' : Nat → Int → Int} {s n : Nat} {neg : Bool} (hs : s < n) (hg : ∀ i x, i < n → Bit x → g' i (if neg = true then 1 - x else x) = (if neg = true then 1 - g i x else g i x) ∧ Bit (g i x)) :
    ∀ (k : Nat) (x y : List Int), k ≤ n → Bits n x → Same neg n x y → Bits n (swp g s n k x) ∧ Same neg n (swp g s n k x) (swp g' s n k y)
  | 0, x, y, _, hb, h => ⟨hb, h⟩
  | k + 1, x, y, hk, hb, ⟨h1, h2, h3⟩ => by
    unfold swp
    have hn := nxt_lt (i := k) hs
    have q := hg k (x.getD (nxt s n k) 0) (by omega) (hb _ hn)
    refine swp_same hs hg k _ _ (by omega) (fun p hp => ?_) ⟨by simp [h1], by simp [h2], fun p hp => ?_⟩
    · rw [getD_set (by omega)]
      by_cases e : p = k
      · rw [if_pos e]; exact q.2
      · rw [if_neg e]; exact hb p hp
    · rw [getD_set (by omega), getD_set (by omega)]
      by_cases e : p = k
      · rw [if_pos e, if_pos e, h3 _ hn]; exact q.1
      · rw [if_neg e, if_neg e]; exact h3 p hp
theorem swps_same {g g' : Nat → Int → Int} {s n : Nat} {neg : Bool} (hs : s < n) (hg : ∀ i x, i < n → Bit x → g' i (if neg = true then 1 - x else x) = (if neg = true then 1 - g i x else g i x) ∧ Bit (g i x)) :
    ∀ (m : Nat) (x y : List Int), Bits n x → Same neg n x y → Bits n (swps g s n m x) ∧ Same neg n (swps g s n m x) (swps g' s n m y)
  | 0, x, y, hb, h => ⟨hb, h⟩
  | m + 1, x, y, hb, h => by
    obtain ⟨a, b⟩ := swp_same hs hg n x y (Nat.le_refl _) hb h
    exact swps_same hs hg m _ _ a b
theorem gU_mono (A B : List Int) (n : Nat) : Mono (gU A B) n := fun i _ => by
  unfold gU Bit
  generalize B.getD i 0 = y
  generalize A.getD i 0 = z
  by_cases b : y = 1 <;> by_cases a : z = 1 <;> simp [a, b]
theorem gR_mono (A B : List Int) (n : Nat) : Mono (gR A B) n := fun i _ => by
  unfold gR Bit
  generalize B.getD i 0 = y
  generalize A.getD i 0 = z
  by_cases b : y = 1 <;> by_cases a : z = 1 <;> simp [a, b]
theorem neg_ur {A B A' B' : List Int} {n : Nat} (ba : Bits n A) (bb : Bits n B) (ha : Same true n A A') (hb : Same true n B B') {i : Nat} {x : Int} (hi : i < n) (hx : Bit x) : gR A' B' i (1 - x) = 1 - gU A B i x ∧ gU A' B' i (1 - x) = 1 - gR A B i x ∧ Bit (gU A B i x) ∧ Bit (gR A B i x) := by
  have h1 := ha.2.2 i hi
  have h2 := hb.2.2 i hi
  rw [if_pos rfl] at h1 h2
  have c1 := ba i hi
  have c2 := bb i hi
  unfold gU gR
  rw [h1, h2]
  unfold Bit at *
  rcases c1 with c1 | c1 <;> rcases c2 with c2 | c2 <;> rcases hx with hx | hx <;> rw [c1, c2, hx] <;> simp
theorem bit_gu (A B : List Int) (i : Nat) (x : Int) : Bit (gU A B i x) ∧ Bit (gR A B i x) := by
  unfold gU gR Bit
  constructor <;> split <;> simp
theorem same_false {n : Nat} {x y : List Int} (h : Same false n x y) : y = x := by
  obtain ⟨h1, h2, h3⟩ := h
  exact list_ext (by rw [h1, h2]) fun p hp => by
    have := h3 p (by omega)
    simpa using this
theorem same_refl {n : Nat} {x : List Int} (h : x.length = n) : Same false n x x := ⟨h, h, fun p hp => by simp⟩
theorem same_flip {neg : Bool} {n : Nat} {x y z : List Int} (h : Same neg n y z) (h2 : Same true n x y) : Same (!neg) n x z := by
  refine ⟨h2.1, h.2.1, fun p hp => ?_⟩
  have a := h.2.2 p hp
  have b := h2.2.2 p hp
  rw [if_pos rfl] at b
  rw [a, b]
  cases neg <;> simp <;> omega
section
variable {all : List (List Int)} {s n : Nat}
def WordB (all : List (List Int)) (n : Nat) (facts : Int) : Prop := ∀ p, p < n → ∀ k : Nat, (k : Int) < facts → Bit ((all.getD p []).getD k 0)
theorem rep_get {v : Int} {p : Nat} (h : p < n) : (List.replicate n v).getD p 0 = v := by
  rw [getD_eq (by simpa using h)]; simp
theorem timeRow_bits {facts : Int} {rows : List (List Int)} {t : I4} {i : Int} (hs : s < n) (hw : WordB all n facts) (ht : TimeStep t i facts) (ha : 2 ≤ t.1 → Bits n (rows.getD t.2.2.1.toNat [])) (hb : 2 ≤ t.1 → Bits n (rows.getD t.2.2.2.toNat [])) : Bits n (timeRow all s n rows t) := by
  unfold TimeStep at ht
  intro p hp
  have h2 : 2 ≤ t.1 → Bit ((rows.getD t.2.2.1.toNat []).getD p 0) ∧ Bit ((rows.getD t.2.2.2.toNat []).getD p 0) := fun h => ⟨ha h p hp, hb h p hp⟩
  have sw : ∀ (g : Nat → Int → Int) (v : Int), (∀ i x, Bit (g i x)) → Bit v → Bit ((swps g s n 2 (List.replicate n v)).getD p 0) := by
    intro g v hg hv
    have := swps_same (g := g) (g' := g) (neg := false) hs (fun i x _ _ => ⟨by simp, hg i x⟩) 2 (List.replicate n v) (List.replicate n v) (fun q hq => by rw [rep_get hq]; exact hv) (same_refl (by simp))
    exact this.1 p hp
  unfold timeRow
  by_cases c0 : t.1 = 0
  · rw [if_pos c0, ofN_get _ hp]; exact .inr rfl
  rw [if_neg c0]
  by_cases c1 : t.1 = 1
  · rw [if_pos c1, ofN_get _ hp]
    exact hw p hp _ (by omega)
  rw [if_neg c1]
  obtain ⟨x1, x2⟩ := h2 (by omega)
  by_cases c2 : t.1 = 2
  · rw [if_pos c2, ofN_get _ hp]
    unfold Bit at *; omega
  rw [if_neg c2]
  by_cases c3 : t.1 = 3
  · rw [if_pos c3, ofN_get _ hp]; unfold Bit; split <;> simp
  rw [if_neg c3]
  by_cases c4 : t.1 = 4
  · rw [if_pos c4, ofN_get _ hp]; unfold Bit; split <;> simp
  rw [if_neg c4]
  by_cases c5 : t.1 = 5
  · rw [if_pos c5, ofN_get _ hp]
    exact ha (by omega) _ (nxt_lt hs)
  rw [if_neg c5]
  by_cases c6 : t.1 = 6
  · rw [if_pos c6]; exact sw _ _ (fun i x => (bit_gu _ _ i x).1) (.inl rfl)
  · rw [if_neg c6]; exact sw _ _ (fun i x => (bit_gu _ _ i x).2) (.inr rfl)
theorem RT_bits {facts : Int} {o : List I4} (hs : s < n) (hw : WordB all n facts) (hg : StepsT facts o) : ∀ f i, i < f → i < o.length → Bits n ((RT all s n o).getD i [])
  | 0, i, h, _ => by omega
  | f + 1, i, hf, hi => by
    have ht := hg i hi
    rw [RT_get hg hi]
    refine timeRow_bits hs hw ht (fun h2 => RT_bits hs hw hg f _ ?_ ?_) (fun h2 => RT_bits hs hw hg f _ ?_ ?_) <;> (unfold TimeStep at ht; omega)
/-- a step of rows that are contrary is contrary, if its operation is turned -/
theorem timeRow_neg {rows rows' : List (List Int)} {t t' : I4} (hs : s < n) (h3 : 3 ≤ t.1) (h7 : t.1 ≤ 7) (ht' : t'.1 = turned t.1)
    (ba : Bits n (rows.getD t.2.2.1.toNat [])) (bb : Bits n (rows.getD t.2.2.2.toNat [])) (ha : Same true n (rows.getD t.2.2.1.toNat []) (rows'.getD t'.2.2.1.toNat [])) (hb : Same true n (rows.getD t.2.2.2.toNat []) (rows'.getD t'.2.2.2.toNat [])) :
    Same true n (timeRow all s n rows t) (timeRow all s n rows' t') := by
  refine ⟨timeRow_length _ _ _ _ _, timeRow_length _ _ _ _ _, ?_⟩
  have sw : ∀ (g g' : Nat → Int → Int) (v : Int), (∀ i x, i < n → Bit x → g' i (1 - x) = 1 - g i x ∧ Bit (g i x)) → Bit v → ∀ p, p < n → (swps g' s n 2 (List.replicate n (1 - v))).getD p 0 = 1 - (swps g s n 2 (List.replicate n v)).getD p 0 := by
    intro g g' v hg hv p hp
    have := swps_same (g := g) (g' := g') (neg := true) hs (fun i x hi hx => by simpa using hg i x hi hx) 2 (List.replicate n v) (List.replicate n (1 - v)) (fun q hq => by rw [rep_get hq]; exact hv) ⟨by simp, by simp, fun q hq => by rw [rep_get hq, rep_get hq]; simp⟩
    have := this.2.2.2 p hp
    simpa using this
  intro p hp
  rw [if_pos rfl]
  have e1 := ha.2.2 p hp
  have e2 := hb.2.2 p hp
  rw [if_pos rfl] at e1 e2
  have c1 := ba p hp
  have c2 := bb p hp
  have hcase : t.1 = 3 ∨ t.1 = 4 ∨ t.1 = 5 ∨ t.1 = 6 ∨ t.1 = 7 := by omega
  unfold turned at ht'
  unfold timeRow
  rcases hcase with h | h | h | h | h
  · have h' : t'.1 = 4 := by rw [ht', h]; rfl
    simp only [h, h']
    simp only [show ¬ ((4 : Int) = 0) by omega, show ¬ ((4 : Int) = 1) by omega, show ¬ ((4 : Int) = 2) by omega, show ¬ ((4 : Int) = 3) by omega, show ¬ ((3 : Int) = 0) by omega, show ¬ ((3 : Int) = 1) by omega, show ¬ ((3 : Int) = 2) by omega, if_false, if_true]
    rw [ofN_get _ hp, ofN_get _ hp, e1, e2]
    unfold Bit at c1 c2
    rcases c1 with c1 | c1 <;> rcases c2 with c2 | c2 <;> rw [c1, c2] <;> simp
  · have h' : t'.1 = 3 := by rw [ht', h]; rfl
    simp only [h, h']
    simp only [show ¬ ((4 : Int) = 0) by omega, show ¬ ((4 : Int) = 1) by omega, show ¬ ((4 : Int) = 2) by omega, show ¬ ((4 : Int) = 3) by omega, show ¬ ((3 : Int) = 0) by omega, show ¬ ((3 : Int) = 1) by omega, show ¬ ((3 : Int) = 2) by omega, if_false, if_true]
    rw [ofN_get _ hp, ofN_get _ hp, e1, e2]
    unfold Bit at c1 c2
    rcases c1 with c1 | c1 <;> rcases c2 with c2 | c2 <;> rw [c1, c2] <;> simp
  · have h' : t'.1 = 5 := by rw [ht', h]; rfl
    simp only [h, h']
    simp only [show ¬ ((5 : Int) = 0) by omega, show ¬ ((5 : Int) = 1) by omega, show ¬ ((5 : Int) = 2) by omega, show ¬ ((5 : Int) = 3) by omega, show ¬ ((5 : Int) = 4) by omega, if_false, if_true]
    rw [ofN_get _ hp, ofN_get _ hp]
    have := ha.2.2 (nxt s n p) (nxt_lt hs)
    rwa [if_pos rfl] at this
  · have h' : t'.1 = 7 := by rw [ht', h]; rfl
    simp only [h, h']
    simp only [show ¬ ((7 : Int) = 0) by omega, show ¬ ((7 : Int) = 1) by omega, show ¬ ((7 : Int) = 2) by omega, show ¬ ((7 : Int) = 3) by omega, show ¬ ((7 : Int) = 4) by omega, show ¬ ((7 : Int) = 5) by omega, show ¬ ((7 : Int) = 6) by omega,
      show ¬ ((6 : Int) = 0) by omega, show ¬ ((6 : Int) = 1) by omega, show ¬ ((6 : Int) = 2) by omega, show ¬ ((6 : Int) = 3) by omega, show ¬ ((6 : Int) = 4) by omega, show ¬ ((6 : Int) = 5) by omega, if_false, if_true]
    exact sw _ _ 0 (fun i x hi hx => ⟨(neg_ur ba bb ha hb hi hx).1, (bit_gu _ _ i x).1⟩) (.inl rfl) p hp
  · have h' : t'.1 = 6 := by rw [ht', h]; rfl
    simp only [h, h']
    simp only [show ¬ ((7 : Int) = 0) by omega, show ¬ ((7 : Int) = 1) by omega, show ¬ ((7 : Int) = 2) by omega, show ¬ ((7 : Int) = 3) by omega, show ¬ ((7 : Int) = 4) by omega, show ¬ ((7 : Int) = 5) by omega, show ¬ ((7 : Int) = 6) by omega,
      show ¬ ((6 : Int) = 0) by omega, show ¬ ((6 : Int) = 1) by omega, show ¬ ((6 : Int) = 2) by omega, show ¬ ((6 : Int) = 3) by omega, show ¬ ((6 : Int) = 4) by omega, show ¬ ((6 : Int) = 5) by omega, if_false, if_true]
    exact sw _ _ 1 (fun i x hi hx => ⟨(neg_ur ba bb ha hb hi hx).2.1, (bit_gu _ _ i x).2⟩) (.inr rfl) p hp
theorem timeRow_eq {rows rows' : List (List Int)} {t t' : I4} (h2 : 2 ≤ t.1) (ht' : t'.1 = t.1) (ha : rows'.getD t'.2.2.1.toNat [] = rows.getD t.2.2.1.toNat []) (hb : rows'.getD t'.2.2.2.toNat [] = rows.getD t.2.2.2.toNat []) : timeRow all s n rows' t' = timeRow all s n rows t := by
  unfold timeRow
  rw [ht', ha, hb]
  by_cases h0 : t.1 = 0
  · omega
  rw [if_neg h0, if_neg h0]
  by_cases h1 : t.1 = 1
  · omega
  rw [if_neg h1, if_neg h1]
theorem put_pre' (out : List I4) (t : I4) : ∃ z, (put out t).1 = out ++ z := by
  unfold put
  by_cases hi : atI out t < out.length
  · exact ⟨[], by simp [hi]⟩
  · exact ⟨[t], by simp [hi]⟩
theorem goodT_steps {facts : Int} {out : List I4} (h : GoodT facts out) : StepsT facts out := fun i hi => (h i hi).1
/-- what is pushed is worth what it was, or the contrary -/
theorem push_sem {xs : List I4} {facts : Int} (hs : s < n) (hw : WordB all n facts) (hv : StepsT facts xs) : ∀ f i neg out, i < f → i < xs.length → GoodT facts out →
    (∃ z, (push xs f i neg out).1 = out ++ z) ∧ Same neg n ((RT all s n xs).getD i []) ((RT all s n (push xs f i neg out).1).getD (push xs f i neg out).2 [])
  | 0, i, neg, out, hf, _, _ => by omega
  | f + 1, i, neg, out, hf, hi, hg => by
    have hS : Steps xs := fun i hi => ⟨facts, hv i hi⟩
    have ht := hv i hi
    have hB := fun j hj => RT_bits hs hw hv xs.length j hj hj
    have G := push_good hv (f + 1) i neg out hf hi hg
    rw [RT_get hv hi]
    unfold push at G ⊢
    simp only at G ⊢
    generalize htt : xs.getD i (0, 0, 0, 0) = t at ht G ⊢
    by_cases h2 : t.1 = 2
    · rw [if_pos h2]
      have hlt : t.2.2.1.toNat < i := by unfold TimeStep at ht; omega
      obtain ⟨p1, p2⟩ := push_sem hs hw hv f t.2.2.1.toNat (!neg) out (by omega) (by omega) hg
      refine ⟨p1, ?_⟩
      have := same_flip (x := timeRow all s n (RT all s n xs) t) p2 ⟨timeRow_length _ _ _ _ _, RT_row (by omega), fun p hp => ?_⟩
      · simpa using this
      · rw [if_pos rfl]
        unfold timeRow
        rw [if_neg (by omega), if_neg (by omega), if_pos h2, ofN_get _ hp]
        omega
    · rw [if_neg h2] at G ⊢
      by_cases h1 : t.1 ≤ 1
      · rw [if_pos h1] at G ⊢
        have ht' : TimeStep t out.length facts := by unfold TimeStep at ht ⊢; omega
        have g1 := put_good hg ht' (fun h => absurd h h2)
        have e1 := RT_put (all := all) (s := s) (n := n) (goodT_steps hg) (goodT_steps g1) ht'
        have leaf : ∀ rows, timeRow all s n rows t = timeRow all s n (RT all s n xs) t := by
          intro rows
          unfold timeRow
          by_cases h0 : t.1 = 0
          · rw [if_pos h0, if_pos h0]
          · rw [if_neg h0, if_neg h0, if_pos (by unfold TimeStep at ht; omega), if_pos (by unfold TimeStep at ht; omega)]
        rw [leaf] at e1
        cases neg with
        | false =>
          simp only [Bool.false_eq_true, if_false]
          refine ⟨put_pre' _ _, ?_⟩
          rw [e1]
          exact same_refl (timeRow_length _ _ _ _ _)
        | true =>
          simp only [if_true] at G ⊢
          have q1 := put_len out t
          have ht2 : TimeStep (2, 0, ((put out t).2 : Int), ((put out t).2 : Int)) ((put out t).1.length : Int) facts := .inr (.inr ⟨by simp only; omega, by simp only; omega, rfl, by simp only; omega, by simp only; omega, by simp only; omega, by simp only; omega, fun _ => rfl⟩)
          have e2 := RT_put (all := all) (s := s) (n := n) (goodT_steps g1) (goodT_steps G) ht2
          obtain ⟨z1, y1⟩ := put_pre' out t
          obtain ⟨z2, y2⟩ := put_pre' (put out t).1 (2, 0, ((put out t).2 : Int), ((put out t).2 : Int))
          refine ⟨⟨z1 ++ z2, by rw [y2, y1, List.append_assoc]⟩, ?_⟩
          rw [e2]
          refine ⟨timeRow_length _ _ _ _ _, timeRow_length _ _ _ _ _, fun p hp => ?_⟩
          rw [if_pos rfl]
          show (timeRow all s n (RT all s n (put out t).1) (2, 0, ((put out t).2 : Int), ((put out t).2 : Int))).getD p 0 = _
          have : timeRow all s n (RT all s n (put out t).1) (2, 0, ((put out t).2 : Int), ((put out t).2 : Int)) = ofN n fun i => 1 - ((RT all s n (put out t).1).getD (put out t).2 []).getD i 0 := rfl
          rw [this, ofN_get _ hp, e1]
      · rw [if_neg h1] at G ⊢
        have hlt : t.2.2.1.toNat < i ∧ t.2.2.2.toNat < i := by unfold TimeStep at ht; omega
        have h37 : 3 ≤ t.1 ∧ t.1 ≤ 7 := by unfold TimeStep at ht; omega
        have hfive : t.1 = 5 → t.2.2.2 = t.2.2.1 := by unfold TimeStep at ht; omega
        obtain ⟨⟨z1, y1⟩, p2⟩ := push_sem hs hw hv f t.2.2.1.toNat neg out (by omega) (by omega) hg
        have g1 := push_good hv f t.2.2.1.toNat neg out (by omega) (by omega) hg
        have q1 := push_len hS f t.2.2.1.toNat neg out (by omega) (by omega)
        have hop : 3 ≤ (if neg then turned t.1 else t.1) ∧ (if neg then turned t.1 else t.1) ≤ 7 ∧ ((if neg then turned t.1 else t.1) = 5 → t.1 = 5) := by
          unfold turned; split <;> grind
        have fin : ∀ (o2 : List I4) (a b : Nat), GoodT facts o2 → GoodT facts (put o2 ((if neg then turned t.1 else t.1), 0, (a : Int), (b : Int))).1 → a < o2.length → b < o2.length → (t.1 = 5 → b = a) → (∃ z, o2 = out ++ z) →
            Same neg n ((RT all s n xs).getD t.2.2.1.toNat []) ((RT all s n o2).getD a []) → Same neg n ((RT all s n xs).getD t.2.2.2.toNat []) ((RT all s n o2).getD b []) →
            (∃ z, (put o2 ((if neg then turned t.1 else t.1), 0, (a : Int), (b : Int))).1 = out ++ z) ∧ Same neg n (timeRow all s n (RT all s n xs) t) ((RT all s n (put o2 ((if neg then turned t.1 else t.1), 0, (a : Int), (b : Int))).1).getD (put o2 ((if neg then turned t.1 else t.1), 0, (a : Int), (b : Int))).2 []) := by
          intro o2 a b g2 g3 ha hb hab ⟨z, hz⟩ sa sb
          have hst : TimeStep ((if neg then turned t.1 else t.1), 0, (a : Int), (b : Int)) (o2.length : Int) facts := .inr (.inr ⟨by simp only; omega, by simp only; omega, rfl, by simp only; omega, by simp only; omega, by simp only; omega, by simp only; omega, fun h => by simp only at h ⊢; rw [hab (by omega)]⟩)
          have e2 := RT_put (all := all) (s := s) (n := n) (goodT_steps g2) (goodT_steps g3) hst
          obtain ⟨z2, y2⟩ := put_pre' o2 ((if neg then turned t.1 else t.1), 0, (a : Int), (b : Int))
          refine ⟨⟨z ++ z2, by rw [y2, hz, List.append_assoc]⟩, ?_⟩
          rw [e2]
          cases neg with
          | false =>
            simp only [Bool.false_eq_true, if_false]
            have te : timeRow all s n (RT all s n o2) (t.1, 0, (a : Int), (b : Int)) = timeRow all s n (RT all s n xs) t := timeRow_eq (by omega) rfl (by simp only [Int.toNat_natCast]; exact same_false sa) (by simp only [Int.toNat_natCast]; exact same_false sb)
            rw [te]
            exact same_refl (timeRow_length _ _ _ _ _)
          | true =>
            exact timeRow_neg hs h37.1 h37.2 rfl (hB _ (by omega)) (hB _ (by omega)) (by simp only [Int.toNat_natCast]; exact sa) (by simp only [Int.toNat_natCast]; exact sb)
        by_cases h5 : t.1 = 5
        · rw [if_pos h5] at G ⊢
          exact fin _ _ _ g1 G q1.2.2 q1.2.2 (fun _ => rfl) ⟨z1, y1⟩ p2 (by rw [hfive h5]; exact p2)
        · rw [if_neg h5] at G ⊢
          obtain ⟨⟨z2, y2⟩, p3⟩ := push_sem hs hw hv f t.2.2.2.toNat neg _ (by omega) (by omega) g1
          have g2 := push_good hv f t.2.2.2.toNat neg _ (by omega) (by omega) g1
          have q2 := push_len hS f t.2.2.2.toNat neg (push xs f t.2.2.1.toNat neg out).1 (by omega) (by omega)
          refine fin _ _ _ g2 G (by omega) q2.2.2 (fun h => absurd h h5) ⟨z1 ++ z2, by rw [y2, y1, List.append_assoc]⟩ ?_ p3
          rw [y2, RT_get_left q1.2.2]
          exact p2
end
def letterOK (facts : Int) (x : List Int) : Bool := decide ((x.length : Int) = facts) && x.all fun b => in3 b 0 1
def wordOK (stem loop : List (List Int)) (facts : Int) : Bool := in3 facts 0 4 && (decide (0 < loop.length) && (decide (stem.length + loop.length ≤ 60) && (stem.all (letterOK facts) && loop.all (letterOK facts))))
theorem word_of {stem loop : List (List Int)} {facts : Int} (h : wordOK stem loop facts = true) : (0 ≤ facts ∧ facts ≤ 4) ∧ 0 < loop.length ∧ stem.length + loop.length ≤ 60 ∧ ∀ x ∈ stem ++ loop, letterOK facts x = true := by
  unfold wordOK at h
  simp only [Bool.and_eq_true, decide_eq_true_eq, in3_iff, List.all_eq_true] at h
  exact ⟨h.1, h.2.1, h.2.2.1, fun x hx => by
    rcases List.mem_append.1 hx with hx | hx
    · exact h.2.2.2.1 x hx
    · exact h.2.2.2.2 x hx⟩
theorem word_bits {stem loop : List (List Int)} {facts : Int} (h : wordOK stem loop facts = true) : WordB (stem ++ loop) (stem.length + loop.length) facts := by
  intro p hp k hk
  have hx : (stem ++ loop).getD p [] ∈ stem ++ loop := getD_mem (by simpa using hp)
  have := (word_of h).2.2.2 _ hx
  unfold letterOK at this
  simp only [Bool.and_eq_true, decide_eq_true_eq, List.all_eq_true] at this
  have hb := this.2 (((stem ++ loop).getD p []).getD k 0) (getD_mem (by omega))
  rw [in3_iff] at hb
  unfold Bit; omega
def holds (xs : List I4) (stem loop : List (List Int)) (facts : Int) : Bool := timesOK xs facts && (wordOK stem loop facts && (((RT (stem ++ loop) stem.length (stem.length + loop.length) xs).getD (xs.length - 1) []).getD 0 0 == 1))
def contrary (xs : List I4) (facts : Int) : List I4 := if timesOK xs facts = true ∧ xs.length ≠ 24 then xs ++ [(2, 0, (xs.length : Int) - 1, (xs.length : Int) - 1)] else []
theorem timesOK_iff {xs : List I4} {facts : Int} : timesOK xs facts = true ↔ (0 ≤ facts ∧ facts ≤ 4) ∧ 1 ≤ xs.length ∧ xs.length ≤ 24 ∧ StepsT facts xs := by
  unfold timesOK StepsT
  simp only [Bool.and_eq_true, in3_iff, range_all, decide_eq_true_eq]
  constructor
  · rintro ⟨a, b, c⟩; exact ⟨a, by omega, by omega, c⟩
  · rintro ⟨a, b, c, d⟩; exact ⟨a, by omega, d⟩
theorem contrary_ok {xs : List I4} {facts : Int} (h : timesOK xs facts = true) (hl : xs.length < 24) : contrary xs facts = xs ++ [(2, 0, (xs.length : Int) - 1, (xs.length : Int) - 1)] ∧ timesOK (contrary xs facts) facts = true := by
  obtain ⟨a, b, c, d⟩ := timesOK_iff.1 h
  have e : contrary xs facts = xs ++ [(2, 0, (xs.length : Int) - 1, (xs.length : Int) - 1)] := by
    unfold contrary
    rw [if_pos ⟨h, by omega⟩]
  refine ⟨e, ?_⟩
  rw [e, timesOK_iff]
  refine ⟨a, by simp, by simp; omega, fun i hi => ?_⟩
  simp only [List.length_append, List.length_singleton] at hi
  rcases Nat.lt_or_ge i xs.length with c1 | c1
  · rw [get_left c1]; exact d i c1
  · have : i = xs.length := by omega
    subst this
    rw [get_new]
    exact .inr (.inr ⟨by simp only; omega, by simp only; omega, rfl, by simp only; omega, by simp only; omega, by simp only; omega, by simp only; omega, fun _ => rfl⟩)
theorem holds_contrary {xs : List I4} {stem loop : List (List Int)} {facts : Int} (h : timesOK xs facts = true) (hl : xs.length < 24) (hw : wordOK stem loop facts = true) : holds (contrary xs facts) stem loop facts = !holds xs stem loop facts := by
  obtain ⟨e, ho⟩ := contrary_ok h hl
  obtain ⟨a, b, c, d⟩ := timesOK_iff.1 h
  have hwl := (word_of hw).2.1
  unfold holds
  rw [ho, hw, h, e]
  simp only [Bool.true_and]
  have hb := RT_bits (s := stem.length) (n := stem.length + loop.length) (by omega) (word_bits hw) d xs.length (xs.length - 1) (by omega) (by omega) 0 (by omega)
  rw [RT_snoc, List.length_append, List.length_singleton, Nat.add_sub_cancel]
  have e1 : (RT (stem ++ loop) stem.length (stem.length + loop.length) xs ++ [timeRow (stem ++ loop) stem.length (stem.length + loop.length) (RT (stem ++ loop) stem.length (stem.length + loop.length) xs) (2, 0, (xs.length : Int) - 1, (xs.length : Int) - 1)]).getD xs.length [] =
      ofN (stem.length + loop.length) fun i => 1 - ((RT (stem ++ loop) stem.length (stem.length + loop.length) xs).getD ((xs.length : Int) - 1).toNat []).getD i 0 := by
    rw [List.getD_eq_getElem?_getD, List.getElem?_append_right (by rw [RT_length]; exact Nat.le_refl _), RT_length, Nat.sub_self]
    rfl
  rw [e1, ofN_get _ (by omega), show ((xs.length : Int) - 1).toNat = xs.length - 1 by omega]
  unfold Bit at hb
  rcases hb with hb | hb <;> rw [hb] <;> rfl
theorem holds_pushed {xs : List I4} {stem loop : List (List Int)} {facts : Int} (h : timesOK xs facts = true) (hw : wordOK stem loop facts = true) (hp : pushed xs facts ≠ []) : holds (pushed xs facts) stem loop facts = holds xs stem loop facts := by
  obtain ⟨a, b, c, d⟩ := timesOK_iff.1 h
  have hwl := (word_of hw).2.1
  have hg := (pushed_good xs facts).resolve_left hp
  have e := push_all h
  have sem := push_sem (s := stem.length) (n := stem.length + loop.length) (by omega) (word_bits hw) d xs.length (xs.length - 1) false [] (by omega) (by omega) (fun i hi => absurd hi (by simp))
  have hd : pushed xs facts = (push xs xs.length (xs.length - 1) false []).1 := by
    unfold pushed at hp ⊢
    rw [if_pos h] at hp ⊢
    by_cases hb : 24 < (push xs xs.length (xs.length - 1) false []).1.length
    · rw [if_pos hb] at hp; exact absurd rfl hp
    · rw [if_neg hb]
  unfold holds
  rw [hg.1, h]
  rw [hd, show (push xs xs.length (xs.length - 1) false []).1.length - 1 = (push xs xs.length (xs.length - 1) false []).2 by omega, same_false sem.2]
/-! ### words are in order -/
namespace spec_l6Are
theorem law (xs : List Int) (hl : xs.length ≤ 1048576) : impl (xs, ()) = some (xs.all fun b => in3 b 0 1, ()) := by
  rw [impl_eq]; unfold F0
  have h := up_list0 (R := PO) xs 0 (fun i => L2 (xs, (i : Int), ())) (fun _ r => some (r.all fun b => in3 b 0 1, ())) (by
    show L2 _ = _
    rw [L2_eq]; unfold F2
    simp) (fun i hi ih => by
    show L2 _ = _
    rw [L2_eq]; unfold F2
    rw [lt_len, inb_true hi, Int.toNat_natCast, spec_l1In.law, wI_succ (by omega), Option.bind_some]
    simp only [hi, decide_true, cond_true, List.all_cons]
    cases in3 (xs.getD i 0) 0 1 with
    | false => rfl
    | true => exact ih)
  exact h
end spec_l6Are
namespace spec_l20Letters
theorem law (ls : List (List Int)) (facts : Int) (hl : ls.length ≤ 1048576) (hf : facts ≤ 1048576) : impl (ls, facts, ()) = some (ls.all (letterOK facts), ()) := by
  rw [impl_eq]; unfold F0
  have h := up_list0 (R := PO) ls [] (fun i => L2 (ls, facts, (i : Int), ())) (fun _ r => some (r.all (letterOK facts), ())) (by
    show L2 _ = _
    rw [L2_eq]; unfold F2
    simp) (fun i hi ih => by
    show L2 _ = _
    rw [L2_eq]; unfold F2
    rw [lt_len, inb_true hi, Int.toNat_natCast, wI_succ (by omega), bne_dec]
    simp only [hi, decide_true, cond_true, List.all_cons]
    by_cases e : ((ls.getD i []).length : Int) = facts
    · rw [decide_eq_true e, Bool.not_true, cond_false, spec_l6Are.law _ (by omega), Option.bind_some]
      rw [show letterOK facts (ls.getD i []) = (ls.getD i []).all fun b => in3 b 0 1 by unfold letterOK; rw [decide_eq_true e, Bool.true_and]]
      cases (ls.getD i []).all fun b => in3 b 0 1 with
      | false => rfl
      | true => exact ih
    · rw [decide_eq_false e, Bool.not_false, cond_true]
      rw [show letterOK facts (ls.getD i []) = false by unfold letterOK; rw [decide_eq_false e]; rfl]
      rfl)
  exact h
end spec_l20Letters
namespace spec_WordValid
theorem law (stem loop : List (List Int)) (facts : Int) (hl : stem.length + loop.length ≤ 1000) : impl (stem, loop, facts, ()) = some (wordOK stem loop facts, ()) := by
  rw [impl_eq]; unfold F0
  rw [spec_l1In.law, Option.bind_some]
  unfold wordOK
  cases h1 : in3 facts 0 4 with
  | false => rfl
  | true =>
    rw [in3_iff] at h1
    rw [wI_small (by omega) (by omega), spec_l20Letters.law _ _ (by omega) (by omega), spec_l20Letters.law _ _ (by omega) (by omega)]
    by_cases h2 : 0 < loop.length
    · rw [decide_eq_true (p := (loop.length : Int) > 0) (by omega), decide_eq_true h2]
      by_cases h3 : stem.length + loop.length ≤ 60
      · rw [decide_eq_true (p := (stem.length : Int) + (loop.length : Int) ≤ 60) (by omega), decide_eq_true h3]
        simp only [cond_true, Option.bind_some, Bool.true_and]
        cases stem.all (letterOK facts) <;> rfl
      · rw [decide_eq_false (p := (stem.length : Int) + (loop.length : Int) ≤ 60) (by omega), decide_eq_false h3]; rfl
    · rw [decide_eq_false (p := (loop.length : Int) > 0) (by omega), decide_eq_false h2]; rfl
end spec_WordValid
namespace impl_bitsValid_1
theorem law (x : Int) : impl (x, ()) = some (!in3 x 0 1, ()) := by
  rw [impl_eq]; unfold F0
  rw [impl_in.law]; rfl
end impl_bitsValid_1
namespace slices_IndexFunc_of_1
theorem law (xs : List Int) (hl : xs.length ≤ 1048576) : impl (xs, ()) = some (goIdx (fun x => !in3 x 0 1) 0 xs, ()) := by
  rw [impl_eq]; unfold F0
  have h := up_list0 (R := PO) xs 0 (fun i => L2 (xs, (xs.length : Int), (i : Int), ())) (fun i r => some (goIdx (fun x => !in3 x 0 1) i r, ())) (by
    show L2 _ = _
    rw [L2_eq]; unfold F2
    simp [goIdx]) (fun i hi ih => by
    show L2 _ = _
    rw [L2_eq]; unfold F2
    rw [lt_len, inb_true hi, Int.toNat_natCast, impl_bitsValid_1.law, wI_succ (by omega), Option.bind_some]
    simp only [hi, decide_true, cond_true, goIdx_cons]
    cases in3 (xs.getD i 0) 0 1 with
    | false => rfl
    | true => exact ih)
  exact h
end slices_IndexFunc_of_1
namespace slices_ContainsFunc_of_1
theorem law (xs : List Int) (hl : xs.length ≤ 1048576) : impl (xs, ()) = some (xs.any fun x => !in3 x 0 1, ()) := by
  rw [impl_eq]; unfold F0
  rw [slices_IndexFunc_of_1.law _ hl, Option.bind_some, goIdx_any]
end slices_ContainsFunc_of_1
namespace impl_bitsValid
theorem law (xs : List Int) (hl : xs.length ≤ 1048576) : impl (xs, ()) = some (xs.all fun b => in3 b 0 1, ()) := by
  rw [impl_eq]; unfold F0
  rw [slices_ContainsFunc_of_1.law _ hl, Option.bind_some, any_not (fun b => in3 b 0 1)]
end impl_bitsValid
namespace impl_letterOk
theorem law (x : List Int) (facts : Int) (hf : facts ≤ 1048576) : impl (x, facts, ()) = some (letterOK facts x, ()) := by
  rw [impl_eq]; unfold F0 letterOK
  by_cases e : (x.length : Int) = facts
  · rw [show ((x.length : Int) == facts) = true by simpa using e, cond_true, impl_bitsValid.law _ (by omega), decide_eq_true e]; rfl
  · rw [show ((x.length : Int) == facts) = false by simpa using e, cond_false, decide_eq_false e]; rfl
end impl_letterOk
namespace impl_WordValid_1
theorem law (x : List Int) (facts : Int) (hf : facts ≤ 1048576) : impl (x, facts, ()) = some (!letterOK facts x, facts, ()) := by
  rw [impl_eq]; unfold F0
  rw [impl_letterOk.law _ _ hf]; rfl
end impl_WordValid_1
namespace slices_IndexFunc_of
theorem law (ls : List (List Int)) (facts : Int) (hl : ls.length ≤ 1048576) (hf : facts ≤ 1048576) : impl (ls, facts, ()) = some (goIdx (fun x => !letterOK facts x) 0 ls, facts, ()) := by
  rw [impl_eq]; unfold F0
  have h := up_list0 (R := PO) ls [] (fun i => L2 (ls, (ls.length : Int), (i : Int), facts, ())) (fun i r => some (goIdx (fun x => !letterOK facts x) i r, facts, ())) (by
    show L2 _ = _
    rw [L2_eq]; unfold F2
    simp [goIdx]) (fun i hi ih => by
    show L2 _ = _
    rw [L2_eq]; unfold F2
    rw [lt_len, inb_true hi, Int.toNat_natCast, impl_WordValid_1.law _ _ hf, wI_succ (by omega), Option.bind_some]
    simp only [hi, decide_true, cond_true, goIdx_cons]
    cases letterOK facts (ls.getD i []) with
    | false => rfl
    | true => exact ih)
  exact h
end slices_IndexFunc_of
namespace slices_ContainsFunc_of
theorem law (ls : List (List Int)) (facts : Int) (hl : ls.length ≤ 1048576) (hf : facts ≤ 1048576) : impl (ls, facts, ()) = some (ls.any fun x => !letterOK facts x, facts, ()) := by
  rw [impl_eq]; unfold F0
  rw [slices_IndexFunc_of.law _ _ hl hf, Option.bind_some, goIdx_any]
end slices_ContainsFunc_of
namespace impl_WordValid
theorem law (stem loop : List (List Int)) (facts : Int) (hl : stem.length + loop.length ≤ 1000) : impl (stem, loop, facts, ()) = some (wordOK stem loop facts, ()) := by
  rw [impl_eq]; unfold F0
  rw [impl_in.law, Option.bind_some]
  unfold wordOK
  cases h1 : in3 facts 0 4 with
  | false => rfl
  | true =>
    rw [in3_iff] at h1
    rw [wI_small (by omega) (by omega), slices_ContainsFunc_of.law _ _ (by omega) (by omega)]
    by_cases h2 : 0 < loop.length
    · rw [decide_eq_true (p := (loop.length : Int) > 0) (by omega), decide_eq_true h2]
      by_cases h3 : stem.length + loop.length ≤ 60
      · rw [decide_eq_true (p := (stem.length : Int) + (loop.length : Int) ≤ 60) (by omega), decide_eq_true h3]
        simp only [cond_true, Option.bind_some, Bool.true_and]
        rw [slices_ContainsFunc_of.law _ _ (by omega) (by omega), any_not, Option.bind_some, any_not]
        cases stem.all (letterOK facts) <;> rfl
      · rw [decide_eq_false (p := (stem.length : Int) + (loop.length : Int) ≤ 60) (by omega), decide_eq_false h3]; rfl
    · rw [decide_eq_false (p := (loop.length : Int) > 0) (by omega), decide_eq_false h2]; rfl
end impl_WordValid
/-! ### rows of formulas, as they are computed -/
def gStep (all : List (List Int)) (s n : Nat) (rows : List (List Int)) (t : I4) (i : Nat) (x : Int) : Int :=
  if t.1 = 0 then 1
  else if t.1 = 1 then (all.getD i []).getD t.2.1.toNat 0
  else if t.1 = 2 then 1 - (rows.getD t.2.2.1.toNat []).getD i 0
  else if t.1 = 3 then if (rows.getD t.2.2.1.toNat []).getD i 0 = 1 ∧ (rows.getD t.2.2.2.toNat []).getD i 0 = 1 then 1 else 0
  else if t.1 = 4 then if (rows.getD t.2.2.1.toNat []).getD i 0 = 1 ∨ (rows.getD t.2.2.2.toNat []).getD i 0 = 1 then 1 else 0
  else if t.1 = 5 then (rows.getD t.2.2.1.toNat []).getD (nxt s n i) 0
  else if t.1 = 6 then gU (rows.getD t.2.2.1.toNat []) (rows.getD t.2.2.2.toNat []) i x
  else gR (rows.getD t.2.2.1.toNat []) (rows.getD t.2.2.2.toNat []) i x
theorem Gv_const (f : Nat → Int) (n : Nat) (x : Int) : ∀ d, Gv (fun i _ => f i) n x d = f (n - 1 - d)
  | 0 => rfl
  | d + 1 => rfl
theorem swp_const (f : Nat → Int) {s n : Nat} {row : List Int} (hl : row.length = n) (hn : 0 < n) : swp (fun i _ => f i) s n n row = ofN n f := by
  refine list_ext (by rw [swp_length, hl, ofN_length]) fun i hi => ?_
  rw [swp_length, hl] at hi
  rw [sweep_get hl hn hi, Gv_const, ofN_get _ hi, show n - 1 - (n - 1 - i) = i by omega]
theorem swps_const (f : Nat → Int) {s n : Nat} {row : List Int} (hl : row.length = n) (hn : 0 < n) : swps (fun i _ => f i) s n 2 row = ofN n f := by
  show swp _ s n n (swp _ s n n row) = _
  exact swp_const f (by rw [swp_length, hl]) hn
theorem timeRow_swps {all : List (List Int)} {s n : Nat} {rows : List (List Int)} {t : I4} (hn : 0 < n) (h7 : t.1 ≤ 7) (h0 : 0 ≤ t.1) : swps (gStep all s n rows t) s n 2 (List.replicate n (if t.1 = 7 then 1 else 0)) = timeRow all s n rows t := by
  have hl : (List.replicate n (if t.1 = 7 then (1 : Int) else 0)).length = n := by simp
  obtain ⟨op, f, a, b⟩ := t
  simp only at h7 h0
  rcases (by omega : op = 0 ∨ op = 1 ∨ op = 2 ∨ op = 3 ∨ op = 4 ∨ op = 5 ∨ op = 6 ∨ op = 7) with rfl | rfl | rfl | rfl | rfl | rfl | rfl | rfl
  · exact swps_const _ hl hn
  · exact swps_const _ hl hn
  · exact swps_const _ hl hn
  · exact swps_const _ hl hn
  · exact swps_const _ hl hn
  · exact swps_const _ hl hn
  · rfl
  · rfl
namespace slices_Grow_of
theorem law (n : Int) (h0 : 0 ≤ n) (h1 : n ≤ 1000) : impl (n, ()) = some ([], ()) := by
  rw [impl_eq]; unfold F0
  rw [decide_eq_false (by omega), cond_false, L3_eq]; unfold F3
  rw [show wI (n - 0) = n by rw [wI_small (by omega) (by omega)]; omega]
  by_cases h : n > 0
  · rw [decide_eq_true h, cond_true, decide_eq_true (p := 1 ≤ n) (by omega), decide_eq_true (p := n * 24 ≤ _) (by omega)]
    simp only [Bool.and_self, cond_true]
    rw [decide_eq_true (by omega)]
    rfl
  · rw [decide_eq_false h]; rfl
end slices_Grow_of
namespace slices_Concat_of
theorem law (x y : List (List Int)) (h : x.length + y.length ≤ 1000) : impl ([x, y], ()) = some (x ++ y, ()) := by
  rw [impl_eq]; unfold F0
  rw [L3_eq]; unfold F3
  show (bif decide (wI (0 + (x.length : Int)) < 0) then none else L3 ([x, y], wI (0 + (x.length : Int)), [x, y], 2, 1, ())) = _
  rw [show wI (0 + (x.length : Int)) = (x.length : Int) by rw [wI_small (by omega) (by omega)]; omega, decide_eq_false (by omega), cond_false, L3_eq]; unfold F3
  show (bif decide (wI ((x.length : Int) + (y.length : Int)) < 0) then none else L3 ([x, y], wI ((x.length : Int) + (y.length : Int)), [x, y], 2, 2, ())) = _
  rw [wI_small (by omega) (by omega), decide_eq_false (by omega), cond_false, L3_eq]; unfold F3
  show (Option.bind (slices_Grow_of.impl ((x.length : Int) + (y.length : Int), ())) fun y0 => L11 ([x, y], 2, 0, y0.1, ())) = _
  rw [slices_Grow_of.law _ (by omega) (by omega), Option.bind_some, L11_eq]; unfold F11
  show (bif decide ((0 + x.length) * 24 ≤ 140737488355328) then L11 ([x, y], 2, 1, [] ++ x, ()) else none) = _
  rw [decide_eq_true (by omega), cond_true, L11_eq]; unfold F11
  show (bif decide ((x.length + y.length) * 24 ≤ 140737488355328) then L11 ([x, y], 2, 2, x ++ y, ()) else none) = _
  rw [decide_eq_true (by omega), cond_true, L11_eq]; unfold F11
  rfl
end slices_Concat_of
namespace impl_timesOn_1
theorem law (stem : List (List Int)) {p n : Nat} (hp : p < n) (hn : n ≤ 1000) : impl ((p : Int), (n : Int), stem, ()) = some ((nxt stem.length n p : Int), (n : Int), stem, ()) := by
  rw [impl_eq]; unfold F0 nxt
  rw [wI_succ (by omega)]
  by_cases h : p + 1 = n
  · rw [show (((p + 1 : Nat) : Int) == (n : Int)) = true by simp; omega, cond_true, if_neg (by omega)]
  · rw [show (((p + 1 : Nat) : Int) == (n : Int)) = false by simp; omega, cond_false, if_pos (by omega)]
end impl_timesOn_1
namespace impl_timesOn_2
theorem law {all rows stem : List (List Int)} {n i p : Nat} {facts : Int} {t : I4} {s10 : List Int} (ht : TimeStep t i facts) (hi : i ≤ rows.length) (hr : ∀ j, j < i → (rows.getD j []).length = n ∧ Bits n (rows.getD j []))
    (hw : ∀ p, p < n → ((all.getD p []).length : Int) = facts) (hall : all.length = n) (hn : n ≤ 1000) (hs : stem.length < n) (hp : p < n) (hl : s10.length = n) (hx : Bit (s10.getD (nxt stem.length n p) 0)) :
    impl ((p : Int), t.1, t.2.1, t.2.2.1, t.2.2.2, rows, all, (n : Int), stem, s10, ()) = some (gStep all stem.length n rows t p (s10.getD (nxt stem.length n p) 0), t.1, t.2.1, t.2.2.1, t.2.2.2, rows, all, (n : Int), stem, s10, ()) := by
  obtain ⟨op, f, a, b⟩ := t
  rw [impl_eq]; unfold F0 gStep
  unfold TimeStep at ht
  simp only at ht ⊢
  have hnx := nxt_lt (i := p) hs
  have g1 := impl_timesOn_1.law stem hp hn
  by_cases h1 : op ≤ 1
  · rw [decide_eq_false (by omega), cond_false, L4_eq]; unfold F4
    rcases (by omega : op = 0 ∨ op = 1) with rfl | rfl
    · rfl
    · simp only [Int.reduceBEq, Int.reduceEq, cond_false, cond_true, if_false, if_true]
      rw [L8_eq]; unfold F8
      have := hw p hp
      rw [inb_true (by omega), Int.toNat_natCast, inb_int (by omega) (by omega)]
      rfl
  · have ha : 0 ≤ a ∧ a < i := by omega
    have hb : 0 ≤ b ∧ b < i := by omega
    obtain ⟨la, ba⟩ := hr a.toNat (by omega)
    obtain ⟨lb, bb⟩ := hr b.toNat (by omega)
    rw [decide_eq_true (by omega), cond_true, L3_eq]; unfold F3
    rw [inb_int ha.1 (by omega), inb_int hb.1 (by omega), inb_true (i := p) (by omega), inb_true (i := p) (by omega), Int.toNat_natCast]
    simp only [cond_true]
    rw [L4_eq]; unfold F4
    have c1 := ba p hp
    have c2 := bb p hp
    have c3 := ba _ hnx
    rcases (by omega : op = 2 ∨ op = 3 ∨ op = 4 ∨ op = 5 ∨ op = 6 ∨ op = 7) with rfl | rfl | rfl | rfl | rfl | rfl
    · simp only [Int.reduceBEq, Int.reduceEq, cond_false, cond_true, if_false, if_true]
      unfold Bit at c1
      rw [wI_small (by omega) (by omega)]
    · simp only [Int.reduceBEq, Int.reduceEq, cond_false, cond_true, if_false, if_true]
      rcases c1 with c1 | c1 <;> rcases c2 with c2 | c2 <;> rw [c1, c2] <;> rfl
    · simp only [Int.reduceBEq, Int.reduceEq, cond_false, cond_true, if_false, if_true]
      rcases c1 with c1 | c1 <;> rcases c2 with c2 | c2 <;> rw [c1, c2] <;> rfl
    · simp only [Int.reduceBEq, Int.reduceEq, cond_false, cond_true, if_false, if_true]
      rw [L16_eq]; unfold F16
      rw [inb_int ha.1 (by omega), g1, Option.bind_some, inb_true (by omega), Int.toNat_natCast]
      rfl
    · simp only [Int.reduceBEq, Int.reduceEq, cond_false, cond_true, if_false, if_true]
      rw [L18_eq]; unfold F18
      rw [g1, Option.bind_some, inb_true (by omega), Int.toNat_natCast]
      unfold gU
      rcases c1 with c1 | c1 <;> rcases c2 with c2 | c2 <;> rcases hx with hx | hx <;> rw [c1, c2, hx] <;> rfl
    · simp only [Int.reduceBEq, Int.reduceEq, cond_false, cond_true, if_false, if_true]
      rw [L19_eq]; unfold F19
      rw [g1, Option.bind_some, inb_true (by omega), Int.toNat_natCast]
      unfold gR
      rcases c1 with c1 | c1 <;> rcases c2 with c2 | c2 <;> rcases hx with hx | hx <;> rw [c1, c2, hx] <;> rfl
end impl_timesOn_2
theorem gStep_rows {all : List (List Int)} {s n : Nat} {rows rows' : List (List Int)} {t : I4} {i facts : Int} (ht : TimeStep t i facts) (ha : 2 ≤ t.1 → rows'.getD t.2.2.1.toNat [] = rows.getD t.2.2.1.toNat []) (hb : 2 ≤ t.1 → rows'.getD t.2.2.2.toNat [] = rows.getD t.2.2.2.toNat []) : gStep all s n rows' t = gStep all s n rows t := by
  funext p x
  unfold gStep
  by_cases h2 : 2 ≤ t.1
  · rw [ha h2, hb h2]
  · unfold TimeStep at ht
    by_cases h0 : t.1 = 0
    · rw [if_pos h0, if_pos h0]
    · rw [if_neg h0, if_neg h0, if_pos (by omega), if_pos (by omega)]
theorem gStep_bit {all rows : List (List Int)} {s n i : Nat} {facts : Int} {t : I4} (hs : s < n) (ht : TimeStep t i facts) (hw : WordB all n facts) (hr : ∀ j, j < i → Bits n (rows.getD j [])) {p : Nat} {x : Int} (hp : p < n) : Bit (gStep all s n rows t p x) := by
  unfold TimeStep at ht
  unfold gStep
  by_cases h0 : t.1 = 0
  · rw [if_pos h0]; exact .inr rfl
  rw [if_neg h0]
  by_cases h1 : t.1 = 1
  · rw [if_pos h1]; exact hw p hp _ (by omega)
  rw [if_neg h1]
  have c1 := hr t.2.2.1.toNat (by omega) p hp
  have c2 := hr t.2.2.2.toNat (by omega) p hp
  have c3 := hr t.2.2.1.toNat (by omega) _ (nxt_lt (i := p) hs)
  by_cases h2 : t.1 = 2
  · rw [if_pos h2]; unfold Bit at *; omega
  rw [if_neg h2]
  by_cases h3 : t.1 = 3
  · rw [if_pos h3]; unfold Bit; split <;> omega
  rw [if_neg h3]
  by_cases h4 : t.1 = 4
  · rw [if_pos h4]; unfold Bit; split <;> omega
  rw [if_neg h4]
  by_cases h5 : t.1 = 5
  · rw [if_pos h5]; exact c3
  rw [if_neg h5]
  by_cases h6 : t.1 = 6
  · rw [if_pos h6]; exact (bit_gu _ _ _ _).1
  rw [if_neg h6]
  exact (bit_gu _ _ _ _).2
namespace impl_timesOn
section
variable {all rows stem : List (List Int)} {xs : List I4} {n i : Nat} {facts : Int} {t : I4}
theorem sweep (ht : TimeStep t i facts) (hi : i ≤ rows.length) (hr : ∀ j, j < i → (rows.getD j []).length = n ∧ Bits n (rows.getD j [])) (hB : WordB all n facts)
    (hw : ∀ p, p < n → ((all.getD p []).length : Int) = facts) (hall : all.length = n) (hn : n ≤ 1000) (hs : stem.length < n) (m l i' : Int) : ∀ (k : Nat) (row : List Int), k ≤ n → row.length = n → Bits n row →
    L21 L6 (L19 L6) (i', (k : Int) - 1, xs, l, i', m, (n : Int), t.1, t.2.1, t.2.2.1, t.2.2.2, all, stem, rows, row, ()) = L19 L6 (i', xs, l, i', wI (m + 1), (n : Int), t.1, t.2.1, t.2.2.1, t.2.2.2, all, stem, rows, swp (gStep all stem.length n rows t) stem.length n k row, ()) ∧ Bits n (swp (gStep all stem.length n rows t) stem.length n k row)
  | 0, row, _, _, hb => by
    refine ⟨?_, hb⟩
    rw [L21_eq]; unfold F21
    rw [decide_eq_false (by omega)]
    rfl
  | k + 1, row, hk, hl, hb => by
    have hnx := nxt_lt (i := k) hs
    have hbit := gStep_bit (rows := rows) (x := row.getD (nxt stem.length n k) 0) hs ht hB (fun j hj => (hr j hj).2) (show k < n by omega)
    have ih := sweep ht hi hr hB hw hall hn hs m l i' k (row.set k (gStep all stem.length n rows t k (row.getD (nxt stem.length n k) 0))) (by omega) (by simp [hl]) (fun p hp => by
      rw [getD_set (by omega)]
      split
      · exact hbit
      · exact hb p hp)
    refine ⟨?_, ih.2⟩
    refine Eq.trans ?_ ih.1
    rw [L21_eq]; unfold F21
    rw [decide_eq_true (by omega), cond_true, L23_eq]; unfold F23
    rw [show ((k + 1 : Nat) : Int) - 1 = (k : Int) by omega, impl_timesOn_2.law ht hi hr hw hall hn hs (by omega) hl (hb _ hnx), Option.bind_some]
    simp only
    rw [inb_true (by omega), cond_true, wI_pred (by omega), Int.toNat_natCast]
theorem fill (v l i' : Int) (hn : n ≤ 1000) : ∀ (d j : Nat) (row : List Int), j + d = n → row.length = n → (∀ q, q < j → row.getD q 0 = v) →
    L14 L6 (i', v, xs, l, i', (n : Int), (j : Int), (n : Int), t.1, t.2.1, t.2.2.1, t.2.2.2, all, stem, rows, row, ()) = L19 L6 (i', xs, l, i', 0, (n : Int), t.1, t.2.1, t.2.2.1, t.2.2.2, all, stem, rows, List.replicate n v, ())
  | 0, j, row, hj, hl, hq => by
    rw [L14_eq]; unfold F14
    rw [decide_eq_false (by omega), cond_false]
    have : row = List.replicate n v := list_ext (by simp [hl]) fun q h => by
      rw [hq q (by omega), getD_eq (by simp; omega)]; simp
    rw [this]
  | d + 1, j, row, hj, hl, hq => by
    rw [L14_eq]; unfold F14
    rw [decide_eq_true (by omega), cond_true, inb_true (by omega), cond_true, wI_succ (by omega), Int.toNat_natCast]
    exact fill v l i' hn d (j + 1) (row.set j v) (by omega) (by simp [hl]) fun q h => by
      rw [getD_set (by omega)]
      split
      · rfl
      · exact hq q (by omega)
end
theorem law {stem loop : List (List Int)} {xs : List I4} {facts : Int} (hx : timesOK xs facts = true) (hw : wordOK stem loop facts = true) : impl (xs, stem, loop, ()) = some (RT (stem ++ loop) stem.length (stem.length + loop.length) xs, ()) := by
  obtain ⟨hf, h1, h24, hv⟩ := timesOK_iff.1 hx
  obtain ⟨_, hlp, h60, hlet⟩ := word_of hw
  have hB := word_bits hw
  rw [impl_eq]; unfold F0
  rw [slices_Concat_of.law _ _ (by omega), Option.bind_some]
  rw [decide_eq_true (p := 0 ≤ (xs.length : Int)) (by omega), decide_eq_true (p := (xs.length : Int) ≤ xs.length) (by omega), decide_eq_true (p := (xs.length : Int) * 24 ≤ _) (by omega)]
  simp only [Bool.and_self, cond_true, Int.toNat_natCast]
  have hal : (stem ++ loop).length = stem.length + loop.length := by simp
  rw [hal]
  have hs : stem.length < stem.length + loop.length := by omega
  generalize stem ++ loop = all at *
  generalize stem.length + loop.length = n at *
  have hwl : ∀ p, p < n → ((all.getD p []).length : Int) = facts := fun p hp => by
    have := hlet (all.getD p []) (getD_mem (by omega))
    unfold letterOK at this
    simp only [Bool.and_eq_true, decide_eq_true_eq] at this
    exact this.1
  have key : ∀ d i, i + d = xs.length → L6 (xs, (xs.length : Int), (i : Int), (n : Int), all, stem, RT all stem.length n (xs.take i) ++ List.replicate d [], ()) = some (RT all stem.length n xs, ()) := by
    intro d
    induction d with
    | zero =>
      intro i hi
      rw [L6_eq]; unfold F6
      rw [decide_eq_false (by omega), cond_false, List.take_of_length_le (by omega)]
      simp
    | succ d ih =>
      intro i hi
      have hi' : i < xs.length := by omega
      have e := ih (i + 1) (by omega)
      rw [take_snoc (0, 0, 0, 0) hi', RT_snoc] at e
      have ht := hv i hi'
      have hlr : (RT all stem.length n (xs.take i)).length = i := by rw [RT_length, List.length_take]; omega
      have hget : ∀ j, j < i → (RT all stem.length n (xs.take i)).getD j [] = (RT all stem.length n xs).getD j [] := by
        intro j hj
        have := RT_get_left (all := all) (s := stem.length) (n := n) (o := xs.take i) (z := xs.drop i) (i := j) (by rw [List.length_take]; omega)
        rw [List.take_append_drop] at this
        exact this.symm
      generalize hT : xs.getD i (0, 0, 0, 0) = t at e ht
      generalize RT all stem.length n (xs.take i) = R at *
      have hrl : (R ++ List.replicate (d + 1) ([] : List Int)).length = i + (d + 1) := by simp [hlr]
      have hset : ∀ v, (R ++ List.replicate (d + 1) ([] : List Int)).set i v = R ++ [v] ++ List.replicate d [] := by
        intro v
        rw [List.set_append_right _ _ (by omega), hlr, Nat.sub_self, List.replicate_succ]
        simp
      have hleft : ∀ j, j < i → (R ++ List.replicate (d + 1) ([] : List Int)).getD j [] = R.getD j [] := fun j hj => by
        rw [List.getD_eq_getElem?_getD, List.getElem?_append_left (by omega), ← List.getD_eq_getElem?_getD]
      have hr : ∀ j, j < i → ((R ++ List.replicate (d + 1) ([] : List Int)).getD j []).length = n ∧ Bits n ((R ++ List.replicate (d + 1) ([] : List Int)).getD j []) := fun j hj => by
        rw [hleft j hj, hget j hj]
        exact ⟨RT_row (by omega), RT_bits hs hB hv xs.length j (by omega) (by omega)⟩
      have h07 : 0 ≤ t.1 ∧ t.1 ≤ 7 := by unfold TimeStep at ht; omega
      have hst : gStep all stem.length n (R ++ List.replicate (d + 1) ([] : List Int)) t = gStep all stem.length n R t := gStep_rows ht (fun h2 => hleft _ (by unfold TimeStep at ht; omega)) (fun h2 => hleft _ (by unfold TimeStep at ht; omega))
      rw [← hset, ← timeRow_swps (by omega) h07.2 h07.1, ← hst] at e
      generalize R ++ List.replicate (d + 1) ([] : List Int) = rows at *
      have fin : ∀ v, v = (if t.1 = 7 then (1 : Int) else 0) → L13 L6 ((i : Int), v, xs, (xs.length : Int), (i : Int), (n : Int), t.1, t.2.1, t.2.2.1, t.2.2.2, all, stem, rows, List.replicate n 0, ()) = some (RT all stem.length n xs, ()) := by
        intro v hv'
        rw [← hv'] at e
        have hbv : Bits n (List.replicate n v) := fun p hp => by
          rw [rep_get hp, hv']; unfold Bit; split <;> omega
        rw [L13_eq]; unfold F13
        rw [List.length_replicate]
        refine Eq.trans (show _ = _ from fill (n := n) v _ _ (by omega) n 0 (List.replicate n 0) (by omega) (by simp) (fun q h => by omega)) ?_
        have s1 := sweep (xs := xs) ht (by omega) hr hB hwl hal (by omega) hs 0 (xs.length : Int) (i : Int) n (List.replicate n v) (Nat.le_refl _) (by simp) hbv
        have s2 := sweep (xs := xs) ht (by omega) hr hB hwl hal (by omega) hs 1 (xs.length : Int) (i : Int) n _ (Nat.le_refl _) (by rw [swp_length]; simp) s1.2
        rw [L19_eq]; unfold F19
        rw [decide_eq_true (by omega), cond_true, wI_pred (by omega), s1.1, L19_eq]; unfold F19
        rw [show wI (0 + 1) = 1 from rfl, decide_eq_true (by omega), cond_true, wI_pred (by omega), s2.1, L19_eq]; unfold F19
        rw [show wI (1 + 1) = 2 from rfl, decide_eq_false (by omega), cond_false, inb_true (by omega), cond_true, wI_succ (by omega), Int.toNat_natCast]
        exact e
      rw [L6_eq]; unfold F6
      rw [decide_eq_true (by omega), cond_true, inb_true hi', cond_true, decide_eq_true (p := 0 ≤ (n : Int)) (by omega), decide_eq_true (p := (n : Int) ≤ n) (by omega), decide_eq_true (p := (n : Int) * 8 ≤ _) (by omega)]
      simp only [Bool.and_self, cond_true, Int.toNat_natCast]
      rw [hT]
      by_cases h7 : t.1 = 7
      · rw [show (t.1 == 7) = true by simpa using h7, cond_true]
        exact fin 1 (by rw [if_pos h7])
      · rw [show (t.1 == 7) = false by simpa using h7, cond_false]
        exact fin 0 (by rw [if_neg h7])
  have := key xs.length 0 (by omega)
  simpa [RT, timeRows] using this
end impl_timesOn
def rowsOn (xs : List I4) (stem loop : List (List Int)) (facts : Int) : List (List Int) := if timesOK xs facts = true ∧ wordOK stem loop facts = true then RT (stem ++ loop) stem.length (stem.length + loop.length) xs else []
theorem holds_rows (xs : List I4) (stem loop : List (List Int)) (facts : Int) : (bif !(rowsOn xs stem loop facts).isEmpty then
    bif inb (wI (((rowsOn xs stem loop facts).length : Int) - 1)) (rowsOn xs stem loop facts).length then
      bif inb 0 ((rowsOn xs stem loop facts).getD (wI (((rowsOn xs stem loop facts).length : Int) - 1)).toNat []).length then
        some (((rowsOn xs stem loop facts).getD (wI (((rowsOn xs stem loop facts).length : Int) - 1)).toNat []).getD 0 0 == 1, ())
      else none
    else none
  else some (false, ())) = some (holds xs stem loop facts, ()) := by
  unfold rowsOn holds
  by_cases h : timesOK xs facts = true ∧ wordOK stem loop facts = true
  · obtain ⟨hx, hw⟩ := h
    obtain ⟨_, h1, h24, _⟩ := timesOK_iff.1 hx
    have hl := (word_of hw).2.1
    rw [if_pos ⟨hx, hw⟩, hx, hw]
    have hr := RT_row (all := stem ++ loop) (s := stem.length) (n := stem.length + loop.length) (o := xs) (i := xs.length - 1) (by omega)
    have hrl : (RT (stem ++ loop) stem.length (stem.length + loop.length) xs).length = xs.length := RT_length _
    rw [hrl, wI_pred (by omega), show ((xs.length : Int) - 1) = ((xs.length - 1 : Nat) : Int) by omega, inb_true (by omega), Int.toNat_natCast, hr, inb_int (by omega) (by omega)]
    rw [show (RT (stem ++ loop) stem.length (stem.length + loop.length) xs).isEmpty = false by rw [← Bool.not_eq_true, List.isEmpty_iff_length_eq_zero]; omega]
    rfl
  · rw [if_neg h]
    have : (timesOK xs facts && (wordOK stem loop facts && (((RT (stem ++ loop) stem.length (stem.length + loop.length) xs).getD (xs.length - 1) []).getD 0 0 == 1))) = false := by
      cases h1 : timesOK xs facts
      · rfl
      · cases h2 : wordOK stem loop facts
        · rfl
        · exact absurd ⟨h1, h2⟩ h
    rw [this]; rfl
namespace impl_TimesOn
theorem law (xs : List I4) (stem loop : List (List Int)) (facts : Int) (hl : stem.length + loop.length ≤ 1000) : impl (xs, stem, loop, facts, ()) = some (rowsOn xs stem loop facts, ()) := by
  rw [impl_eq]; unfold F0 rowsOn
  rw [impl_TimesValid.law, Option.bind_some]
  cases h1 : timesOK xs facts with
  | false => rfl
  | true =>
    rw [impl_WordValid.law _ _ _ hl]
    cases h2 : wordOK stem loop facts with
    | false => rfl
    | true =>
      rw [if_pos ⟨rfl, rfl⟩]
      simp only [Bool.not_true, cond_false, Option.bind_some]
      rw [impl_timesOn.law h1 h2, Option.bind_some]
      obtain ⟨_, h1, h24, _⟩ := timesOK_iff.1 h1
      have hrl : (RT (stem ++ loop) stem.length (stem.length + loop.length) xs).length = xs.length := RT_length _
      rw [show (RT (stem ++ loop) stem.length (stem.length + loop.length) xs).isEmpty = false by rw [← Bool.not_eq_true, List.isEmpty_iff_length_eq_zero]; omega]
      rfl
end impl_TimesOn
namespace impl_HoldsOn
theorem law (xs : List I4) (stem loop : List (List Int)) (facts : Int) (hl : stem.length + loop.length ≤ 1000) : impl (xs, stem, loop, facts, ()) = some (holds xs stem loop facts, ()) := by
  rw [impl_eq]; unfold F0
  rw [impl_TimesOn.law _ _ _ _ hl, Option.bind_some]
  exact holds_rows xs stem loop facts
end impl_HoldsOn
/-! ### rows of formulas, as the reference computes them -/
namespace spec_l1Truth
theorem law (b : Bool) : impl (b, ()) = some (if b = true then 1 else 0, ()) := by cases b <;> rfl
end spec_l1Truth
namespace spec_l20Next
theorem law {p n : Nat} (s : Nat) (hp : p < n) (hn : n ≤ 1000) : impl ((p : Int), (s : Int), (n : Int), ()) = some ((nxt s n p : Int), ()) := by
  rw [impl_eq]; unfold F0 nxt
  rw [wI_succ (by omega)]
  by_cases h : p + 1 < n
  · rw [decide_eq_true (by omega), cond_true, if_pos h]
  · rw [decide_eq_false (by omega), cond_false, if_neg h]
end spec_l20Next
namespace spec_l3At
theorem law (stem loop : List (List Int)) {p : Nat} (hp : p < stem.length + loop.length) (hn : stem.length + loop.length ≤ 1000) : impl (stem, loop, (p : Int), ()) = some ((stem ++ loop).getD p [], ()) := by
  rw [impl_eq]; unfold F0
  by_cases h : p < stem.length
  · rw [decide_eq_true (by omega), cond_true, inb_true h, cond_true, Int.toNat_natCast, List.getD_eq_getElem?_getD, List.getD_eq_getElem?_getD, List.getElem?_append_left h]
  · have e : Int.tmod (wI ((p : Int) - (stem.length : Int))) (loop.length : Int) = ((p - stem.length : Nat) : Int) := by
      rw [wI_small (by omega) (by omega), Int.tmod_eq_of_lt (by omega) (by omega)]; omega
    rw [decide_eq_false (by omega), cond_false, decide_eq_false (by omega), cond_false, e, inb_true (by omega), cond_true, Int.toNat_natCast, List.getD_eq_getElem?_getD, List.getD_eq_getElem?_getD, List.getElem?_append_right (by omega)]
end spec_l3At
namespace spec_l20Later
section
variable {rows : List (List Int)} {n s i : Nat} {op f a b : Int}
theorem sweep {g : Nat → Int → Int} (hg : (op = 6 ∧ g = gU (rows.getD a.toNat []) (rows.getD b.toNat [])) ∨ (op = 7 ∧ g = gR (rows.getD a.toNat []) (rows.getD b.toNat []))) (ha : 0 ≤ a ∧ a < rows.length) (hb : 0 ≤ b ∧ b < rows.length)
    (la : (rows.getD a.toNat []).length = n) (lb : (rows.getD b.toNat []).length = n) (hn : n ≤ 1000) (hs : s < n) (m : Int) : ∀ (k : Nat) (row : List Int), k ≤ n → row.length = n →
    L12 L9 (rows, (s : Int), (n : Int), m, (k : Int) - 1, op, f, a, b, row, ()) = L9 (rows, (s : Int), (n : Int), wI (m + 1), op, f, a, b, swp g s n k row, ())
  | 0, row, _, _ => by
    rw [L12_eq]; unfold F12
    rw [decide_eq_false (by omega)]
    rfl
  | k + 1, row, hk, hl => by
    have hnx := nxt_lt (i := k) hs
    refine Eq.trans ?_ (sweep hg ha hb la lb hn hs m k (row.set k (g k (row.getD (nxt s n k) 0))) (by omega) (by simp [hl]))
    rw [L12_eq]; unfold F12
    rw [show ((k + 1 : Nat) : Int) - 1 = (k : Int) by omega, decide_eq_true (by omega), cond_true, inb_int ha.1 (by omega), inb_int hb.1 (by omega), inb_true (by omega), inb_true (by omega), spec_l20Next.law s (by omega) hn, Option.bind_some]
    simp only [cond_true, Int.toNat_natCast]
    rw [inb_true (by omega), inb_true (by omega), wI_pred (by omega)]
    simp only [cond_true, spec_l1Truth.law, Option.bind_some]
    generalize rows.getD a.toNat [] = A at *
    generalize rows.getD b.toNat [] = B at *
    rcases hg with ⟨rfl, rfl⟩ | ⟨rfl, rfl⟩
    · simp only [Int.reduceBEq, cond_true]
      by_cases h1 : B.getD k 0 = 1
      · rw [show (B.getD k 0 == 1) = true by rw [h1]; rfl, cond_true]
        rw [show gU A B k (row.getD (nxt s n k) 0) = 1 from if_pos (.inl h1)]; rfl
      · rw [show (B.getD k 0 == 1) = false by rw [beq_eq_false_iff_ne]; exact h1, cond_false]
        by_cases h2 : A.getD k 0 = 1
        · rw [show (A.getD k 0 == 1) = true by rw [h2]; rfl, cond_true]
          by_cases h3 : row.getD (nxt s n k) 0 = 1
          · rw [show (row.getD (nxt s n k) 0 == 1) = true by rw [h3]; rfl]
            rw [show gU A B k (row.getD (nxt s n k) 0) = 1 from if_pos (.inr ⟨h2, h3⟩)]; rfl
          · rw [show (row.getD (nxt s n k) 0 == 1) = false by rw [beq_eq_false_iff_ne]; exact h3]
            rw [show gU A B k (row.getD (nxt s n k) 0) = 0 from if_neg (by grind)]; rfl
        · rw [show (A.getD k 0 == 1) = false by rw [beq_eq_false_iff_ne]; exact h2, cond_false]
          rw [show gU A B k (row.getD (nxt s n k) 0) = 0 from if_neg (by grind)]; rfl
    · simp only [Int.reduceBEq, cond_false]
      by_cases h1 : B.getD k 0 = 1
      · rw [show (B.getD k 0 == 1) = true by rw [h1]; rfl, cond_true]
        by_cases h2 : A.getD k 0 = 1
        · rw [show (A.getD k 0 == 1) = true by rw [h2]; rfl, cond_true]
          rw [show gR A B k (row.getD (nxt s n k) 0) = 1 from if_pos ⟨h1, .inl h2⟩]; rfl
        · rw [show (A.getD k 0 == 1) = false by rw [beq_eq_false_iff_ne]; exact h2, cond_false]
          by_cases h3 : row.getD (nxt s n k) 0 = 1
          · rw [show (row.getD (nxt s n k) 0 == 1) = true by rw [h3]; rfl]
            rw [show gR A B k (row.getD (nxt s n k) 0) = 1 from if_pos ⟨h1, .inr h3⟩]; rfl
          · rw [show (row.getD (nxt s n k) 0 == 1) = false by rw [beq_eq_false_iff_ne]; exact h3]
            rw [show gR A B k (row.getD (nxt s n k) 0) = 0 from if_neg (by grind)]; rfl
      · rw [show (B.getD k 0 == 1) = false by rw [beq_eq_false_iff_ne]; exact h1, cond_false]
        rw [show gR A B k (row.getD (nxt s n k) 0) = 0 from if_neg (by grind)]; rfl
theorem sweepsL {g : Nat → Int → Int} (hg : (op = 6 ∧ g = gU (rows.getD a.toNat []) (rows.getD b.toNat [])) ∨ (op = 7 ∧ g = gR (rows.getD a.toNat []) (rows.getD b.toNat []))) (ha : 0 ≤ a ∧ a < rows.length) (hb : 0 ≤ b ∧ b < rows.length)
    (la : (rows.getD a.toNat []).length = n) (lb : (rows.getD b.toNat []).length = n) (hn : n ≤ 1000) (hs : s < n) : ∀ (d m : Nat) (row : List Int), m + d = n + 1 → row.length = n →
    L9 (rows, (s : Int), (n : Int), (m : Int), op, f, a, b, row, ()) = some (swps g s n d row, ())
  | 0, m, row, hm, _ => by
    rw [L9_eq]; unfold F9
    rw [decide_eq_false (by omega)]
    rfl
  | d + 1, m, row, hm, hl => by
    rw [L9_eq]; unfold F9
    rw [decide_eq_true (by omega), cond_true, wI_pred (by omega), sweep hg ha hb la lb hn hs m n row (Nat.le_refl _) hl, wI_succ (by omega)]
    exact sweepsL hg ha hb la lb hn hs d (m + 1) _ (by omega) (by rw [swp_length, hl])
theorem law {g : Nat → Int → Int} (hg : (op = 6 ∧ g = gU (rows.getD a.toNat []) (rows.getD b.toNat [])) ∨ (op = 7 ∧ g = gR (rows.getD a.toNat []) (rows.getD b.toNat []))) (ha : 0 ≤ a ∧ a < rows.length) (hb : 0 ≤ b ∧ b < rows.length)
    (la : (rows.getD a.toNat []).length = n) (lb : (rows.getD b.toNat []).length = n) (hn : n ≤ 1000) (hs : s < n) : impl ((op, f, a, b), rows, (s : Int), (n : Int), ()) = some (swps g s n 2 (List.replicate n (if op = 7 then 1 else 0)), ()) := by
  rw [impl_eq]; unfold F0
  have hm : Mono g n := by
    rcases hg with ⟨_, rfl⟩ | ⟨_, rfl⟩
    · exact gU_mono _ _ _
    · exact gR_mono _ _ _
  have key : ∀ d j, j + d = n → L3 (rows, (s : Int), (n : Int), (j : Int), op, f, a, b, List.replicate j (if op = 7 then 1 else 0), ()) = L9 (rows, (s : Int), (n : Int), 0, op, f, a, b, List.replicate n (if op = 7 then 1 else 0), ()) := by
    intro d
    induction d with
    | zero =>
      intro j hj
      rw [L3_eq]; unfold F3
      rw [decide_eq_false (by omega), show j = n by omega]
      rfl
    | succ d ih =>
      intro j hj
      rw [L3_eq]; unfold F3
      have e := ih (j + 1) (by omega)
      rw [List.replicate_succ'] at e
      rw [decide_eq_true (by omega), cond_true, wI_succ (by omega), List.length_replicate]
      by_cases h7 : op = 7
      · rw [if_pos h7] at e ⊢
        rw [show (op == 7) = true by simpa using h7, cond_true]
        show (bif decide ((j + 1) * 8 ≤ 140737488355328) then _ else _) = _
        rw [decide_eq_true (by omega)]
        exact e
      · rw [if_neg h7] at e ⊢
        rw [show (op == 7) = false by simpa using h7, cond_false]
        show (bif decide ((j + 1) * 8 ≤ 140737488355328) then _ else _) = _
        rw [decide_eq_true (by omega)]
        exact e
  refine Eq.trans (key n 0 (by omega)) ?_
  refine Eq.trans (sweepsL hg ha hb la lb hn hs (n + 1) 0 _ (by omega) (by simp)) ?_
  obtain ⟨q, rfl⟩ : ∃ q, n = q + 1 := ⟨n - 1, by omega⟩
  rw [sweeps_two hm (by simp) hs (by rw [rep_get hs]; unfold Bit; split <;> omega) q]
end
end spec_l20Later
namespace spec_l20Row
theorem law {rows stem loop : List (List Int)} {facts : Int} {t : I4} {i : Nat} (ht : TimeStep t i facts) (hi : i = rows.length) (hw : wordOK stem loop facts = true) (hr : ∀ j, j < i → (rows.getD j []).length = stem.length + loop.length ∧ Bits (stem.length + loop.length) (rows.getD j [])) :
    impl (t, rows, stem, loop, ()) = some (timeRow (stem ++ loop) stem.length (stem.length + loop.length) rows t, ()) := by
  obtain ⟨op, f, a, b⟩ := t
  obtain ⟨hf, hlp, h60, hlet⟩ := word_of hw
  rw [impl_eq]; unfold F0
  unfold TimeStep at ht
  simp only at ht ⊢
  rw [show wI ((stem.length : Int) + (loop.length : Int)) = ((stem.length + loop.length : Nat) : Int) by rw [wI_small (by omega) (by omega)]; omega]
  have hs : stem.length < stem.length + loop.length := by omega
  by_cases h6 : op ≥ 6
  · have ha : 0 ≤ a ∧ a < rows.length := by omega
    have hb : 0 ≤ b ∧ b < rows.length := by omega
    have la := (hr a.toNat (by omega)).1
    have lb := (hr b.toNat (by omega)).1
    rw [decide_eq_true h6, cond_true]
    rcases (by omega : op = 6 ∨ op = 7) with rfl | rfl
    · rw [spec_l20Later.law (.inl ⟨rfl, rfl⟩) ha hb la lb (by omega) hs, Option.bind_some]; rfl
    · rw [spec_l20Later.law (.inr ⟨rfl, rfl⟩) ha hb la lb (by omega) hs, Option.bind_some]; rfl
  · rw [decide_eq_false h6, cond_false]
    have step : ∀ p r, p < stem.length + loop.length → r.length = p → L6 (rows, stem, loop, ((stem.length + loop.length : Nat) : Int), (p : Int), op, f, a, b, r, ()) = L6 (rows, stem, loop, ((stem.length + loop.length : Nat) : Int), ((p + 1 : Nat) : Int), op, f, a, b, r ++ [gStep (stem ++ loop) stem.length (stem.length + loop.length) rows (op, f, a, b) p 0], ()) := by
      intro p r hp hrl
      have fits : ∀ v : Int, decide ((r.length + [v].length) * 8 ≤ 140737488355328) = true := fun v => decide_eq_true (by simp only [List.length_append, List.length_cons, List.length_nil]; omega)
      rw [L6_eq]; unfold F6 gStep
      rw [decide_eq_true (by omega), cond_true, wI_succ (by omega)]
      simp only
      by_cases h1 : op ≤ 1
      · rcases (by omega : op = 0 ∨ op = 1) with rfl | rfl
        · simp only [Int.reduceBEq, Int.reduceEq, cond_false, cond_true, if_false, if_true, fits]
        · simp only [Int.reduceBEq, Int.reduceEq, cond_false, cond_true, if_false, if_true]
          rw [L10_eq]; unfold F10
          have hlet' := hlet ((stem ++ loop).getD p []) (getD_mem (by simpa using hp))
          unfold letterOK at hlet'
          simp only [Bool.and_eq_true, decide_eq_true_eq] at hlet'
          rw [spec_l3At.law stem loop hp (by omega), Option.bind_some]
          simp only
          rw [inb_int (by omega) (by omega), cond_true, fits, cond_true, wI_succ (by omega)]
      · have ha : 0 ≤ a ∧ a < rows.length := by omega
        have hb : 0 ≤ b ∧ b < rows.length := by omega
        obtain ⟨la, ba⟩ := hr a.toNat (by omega)
        obtain ⟨lb, bb⟩ := hr b.toNat (by omega)
        have c1 := ba p hp
        have c2 := bb p hp
        have hnx := nxt_lt (i := p) hs
        rcases (by omega : op = 2 ∨ op = 3 ∨ op = 4 ∨ op = 5) with rfl | rfl | rfl | rfl
        · simp only [Int.reduceBEq, Int.reduceEq, cond_false, cond_true, if_false, if_true]
          rw [inb_int ha.1 (by omega), inb_true (by omega), cond_true, cond_true, fits, cond_true, Int.toNat_natCast, wI_small (n := 1 - _) (by unfold Bit at c1; omega) (by unfold Bit at c1; omega)]
        · simp only [Int.reduceBEq, Int.reduceEq, cond_false, cond_true, if_false, if_true]
          rw [L14_eq]; unfold F14
          rw [inb_int ha.1 (by omega), inb_int hb.1 (by omega), inb_true (by omega), inb_true (by omega), wI_succ (by omega), Int.toNat_natCast]
          simp only [cond_true, fits]
          rcases c1 with c1 | c1 <;> rcases c2 with c2 | c2 <;> rw [c1, c2] <;> rfl
        · simp only [Int.reduceBEq, Int.reduceEq, cond_false, cond_true, if_false, if_true]
          rw [L16_eq]; unfold F16
          rw [inb_int ha.1 (by omega), inb_int hb.1 (by omega), inb_true (by omega), inb_true (by omega), wI_succ (by omega), Int.toNat_natCast]
          simp only [cond_true, fits, spec_l1Truth.law, Option.bind_some]
          rcases c1 with c1 | c1 <;> rcases c2 with c2 | c2 <;> rw [c1, c2] <;> rfl
        · simp only [Int.reduceBEq, Int.reduceEq, cond_false, cond_true, if_false, if_true]
          rw [L18_eq]; unfold F18
          rw [inb_int ha.1 (by omega), spec_l20Next.law _ hp (by omega), Option.bind_some, cond_true]
          simp only
          rw [inb_true (by omega), cond_true, fits, cond_true, wI_succ (by omega), Int.toNat_natCast]
    have key : ∀ d p, p + d = stem.length + loop.length → L6 (rows, stem, loop, ((stem.length + loop.length : Nat) : Int), (p : Int), op, f, a, b, (List.range p).map (fun q => gStep (stem ++ loop) stem.length (stem.length + loop.length) rows (op, f, a, b) q 0), ()) = some (ofN (stem.length + loop.length) (fun q => gStep (stem ++ loop) stem.length (stem.length + loop.length) rows (op, f, a, b) q 0), ()) := by
      intro d
      induction d with
      | zero =>
        intro p hp
        rw [L6_eq]; unfold F6
        rw [decide_eq_false (by omega), cond_false, show p = stem.length + loop.length by omega]
        rfl
      | succ d ih =>
        intro p hp
        rw [step p _ (by omega) (by simp)]
        have e := ih (p + 1) (by omega)
        rw [List.range_succ, List.map_append] at e
        exact e
    refine Eq.trans (key _ 0 (Nat.zero_add _)) ?_
    congr 2
    rcases (by omega : op = 0 ∨ op = 1 ∨ op = 2 ∨ op = 3 ∨ op = 4 ∨ op = 5) with rfl | rfl | rfl | rfl | rfl | rfl <;> rfl
end spec_l20Row
namespace spec_TimesOn
theorem law (xs : List I4) (stem loop : List (List Int)) (facts : Int) (hl : stem.length + loop.length ≤ 1000) : impl (xs, stem, loop, facts, ()) = some (rowsOn xs stem loop facts, ()) := by
  rw [impl_eq]; unfold F0 rowsOn
  rw [spec_TimesValid.law, Option.bind_some]
  cases hx : timesOK xs facts with
  | false => rfl
  | true =>
    rw [spec_WordValid.law _ _ _ hl]
    cases hw : wordOK stem loop facts with
    | false => rfl
    | true =>
      rw [if_pos ⟨rfl, rfl⟩]
      simp only [Bool.not_true, cond_false, Option.bind_some]
      obtain ⟨_, h1, h24, hv⟩ := timesOK_iff.1 hx
      have hlp := (word_of hw).2.1
      have hB := word_bits hw
      have key : ∀ d i, i + d = xs.length → L5 (xs, stem, loop, (i : Int), RT (stem ++ loop) stem.length (stem.length + loop.length) (xs.take i), ()) = some (RT (stem ++ loop) stem.length (stem.length + loop.length) xs, ()) := by
        intro d
        induction d with
        | zero =>
          intro i hi
          rw [L5_eq]; unfold F5
          rw [decide_eq_false (by omega), cond_false, List.take_of_length_le (by omega)]
        | succ d ih =>
          intro i hi
          have hi' : i < xs.length := by omega
          have e := ih (i + 1) (by omega)
          rw [take_snoc (0, 0, 0, 0) hi', RT_snoc] at e
          have hlr : (RT (stem ++ loop) stem.length (stem.length + loop.length) (xs.take i)).length = i := by rw [RT_length, List.length_take]; omega
          rw [L5_eq]; unfold F5
          rw [decide_eq_true (by omega), cond_true, inb_true hi', cond_true, Int.toNat_natCast, spec_l20Row.law (hv i hi') hlr.symm hw (fun j hj => by
            have := RT_get_left (all := stem ++ loop) (s := stem.length) (n := stem.length + loop.length) (o := xs.take i) (z := xs.drop i) (i := j) (by rw [List.length_take]; omega)
            rw [List.take_append_drop] at this
            rw [← this]
            exact ⟨RT_row (by omega), RT_bits (by omega) hB hv xs.length j (by omega) (by omega)⟩), Option.bind_some, wI_succ (by omega), hlr]
          simp only
          rw [decide_eq_true (by simp only [List.length_append, List.length_cons, List.length_nil]; omega)]
          exact e
      rw [L3_eq]; unfold F3
      exact key xs.length 0 (by omega)
end spec_TimesOn
namespace spec_HoldsOn
theorem law (xs : List I4) (stem loop : List (List Int)) (facts : Int) (hl : stem.length + loop.length ≤ 1000) : impl (xs, stem, loop, facts, ()) = some (holds xs stem loop facts, ()) := by
  rw [impl_eq]; unfold F0
  rw [spec_TimesOn.law _ _ _ _ hl, Option.bind_some, pos_len]
  exact holds_rows xs stem loop facts
end spec_HoldsOn
/-! ### the contrary -/
namespace slices_Clone_of
theorem law (xs : List I4) (h0 : 0 < xs.length) (hx : xs.length ≤ 1048576) : impl (xs, ()) = some (xs, ()) := by
  rw [impl_eq]; unfold F0
  rw [show xs.isEmpty = false by rw [← Bool.not_eq_true, List.isEmpty_iff_length_eq_zero]; omega]
  show (bif decide ((0 + xs.length) * 32 ≤ 140737488355328) then some ([] ++ xs, ()) else none) = _
  rw [decide_eq_true (by omega)]
  rfl
end slices_Clone_of
namespace slices_Clip_of
theorem law (xs : List I4) : impl (xs, ()) = some (xs, ()) := by
  rw [impl_eq]; unfold F0
  simp
end slices_Clip_of
namespace impl_Contrary
theorem law (xs : List I4) (facts : Int) : impl (xs, facts, ()) = some (contrary xs facts, ()) := by
  rw [impl_eq]; unfold F0 contrary
  rw [impl_TimesValid.law, Option.bind_some]
  cases hx : timesOK xs facts with
  | false => rfl
  | true =>
    obtain ⟨_, h1, h24, hv⟩ := timesOK_iff.1 hx
    simp only [Bool.not_true, cond_false, true_and]
    by_cases h : xs.length = 24
    · rw [show ((xs.length : Int) == 24) = true by rw [h]; rfl, cond_true, if_neg (fun q => q h)]
    · rw [show ((xs.length : Int) == 24) = false by rw [beq_eq_false_iff_ne]; omega, cond_false, if_pos h, L3_eq]; unfold F3
      rw [slices_Clone_of.law _ (by omega) (by omega), Option.bind_some, slices_Clip_of.law, Option.bind_some, wI_pred (by omega)]
      simp only
      rw [decide_eq_true (by simp only [List.length_append, List.length_cons, List.length_nil]; omega)]
      show (Option.bind (impl_clone_of.impl _) _) = _
      rw [impl_clone_of.law _ (by simp only [List.length_append, List.length_cons, List.length_nil]; omega)]
      rfl
end impl_Contrary
/-! ### words are drawn -/
namespace spec_l20Word
theorem law (facts k : Int) (code : List Int) (p : Int) (hf : 0 ≤ facts ∧ facts ≤ 4) (hk : 0 ≤ k ∧ k ≤ 8) (h : Src code p) (hp : p ≤ 10000) : ∃ list q, impl (facts, k, code, p, ()) = some (list, code, q, ()) ∧ list.length ≤ 8 ∧ p ≤ q ∧ q ≤ p + 32 := by
  have inner : ∀ (d : Nat) (t8 t10 q : Int) (r0 : List (List Int)) (r1 : List Int), t10 + d = facts → 0 ≤ t10 → r1.length + d ≤ 8 → r0.length + 1 ≤ 8 → 0 ≤ t8 ∧ t8 ≤ 8 → p ≤ q → q + (d : Int) ≤ 20000 → ∃ list q', L7 L3 (facts, k, t8, t10, code, q, r0, r1, ()) = L3 (facts, k, t8 + 1, code, q', r0 ++ [list], ()) ∧ q ≤ q' ∧ q' ≤ q + d := by
    intro d
    induction d with
    | zero =>
      intro t8 t10 q r0 r1 hd h0 hr1 hr0 ht hq hq2
      rw [L7_eq]; unfold F7
      rw [decide_eq_false (by omega), cond_false, decide_eq_true (by simp only [List.length_append, List.length_cons, List.length_nil]; omega), cond_true, wI_small (by omega) (by omega)]
      exact ⟨r1, q, rfl, by omega, by omega⟩
    | succ d ih =>
      intro t8 t10 q r0 r1 hd h0 hr1 hr0 ht hq hq2
      have h00 := h.2.2.1
      obtain ⟨v, e, _, _⟩ := spec_l40Rd_pick.law 2 code q (h.at (by omega) (by omega)) (by omega)
      rw [L7_eq]; unfold F7
      rw [decide_eq_true (by omega), cond_true, e, Option.bind_some]
      simp only
      rw [decide_eq_true (by simp only [List.length_append, List.length_cons, List.length_nil]; omega), cond_true, wI_small (by omega) (by omega)]
      obtain ⟨l, q', e2, h1, h2⟩ := ih t8 (t10 + 1) (q + 1) r0 (r1 ++ [v]) (by omega) (by omega) (by simp only [List.length_append, List.length_cons, List.length_nil]; omega) hr0 ht (by omega) (by omega)
      exact ⟨l, q', e2, by omega, by omega⟩
  have key : ∀ (d : Nat) (t8 q : Int) (r0 : List (List Int)), t8 + d = k → 0 ≤ t8 → r0.length + d ≤ 8 → p ≤ q → q + 4 * (d : Int) ≤ 10100 → ∃ list q', L3 (facts, k, t8, code, q, r0, ()) = some (list, code, q', ()) ∧ list.length ≤ 8 ∧ q ≤ q' ∧ q' ≤ q + 4 * (d : Int) := by
    intro d
    induction d with
    | zero =>
      intro t8 q r0 hd h0 hr0 hq _
      rw [L3_eq]; unfold F3
      rw [decide_eq_false (by omega), cond_false]
      exact ⟨r0, q, rfl, by omega, by omega, by omega⟩
    | succ d ih =>
      intro t8 q r0 hd h0 hr0 hq hq2
      rw [L3_eq]; unfold F3
      rw [decide_eq_true (by omega), cond_true]
      obtain ⟨l, q1, e1, h1, h2⟩ := inner facts.toNat t8 0 q r0 [] (by omega) (by omega) (by simp only [List.length_append, List.length_cons, List.length_nil]; omega) (by omega) (by omega) hq (by omega)
      obtain ⟨l2, q2, e2, h3, h4, h5⟩ := ih (t8 + 1) q1 (r0 ++ [l]) (by omega) (by omega) (by simp only [List.length_append, List.length_cons, List.length_nil]; omega) (by omega) (by omega)
      exact ⟨l2, q2, e1.trans e2, h3, by omega, by omega⟩
  rw [impl_eq]; unfold F0
  obtain ⟨l, q, e, h1, h2, h3⟩ := key k.toNat 0 p [] (by omega) (by omega) (by simp only [List.length_append, List.length_cons, List.length_nil]; omega) (by omega) (by omega)
  exact ⟨l, q, e, h1, h2, by omega⟩
end spec_l20Word
namespace spec_l20On
theorem law (code : List Int) (hc : ∀ x ∈ code, 0 ≤ x ∧ x ≤ 255) : ∃ facts xs stem loop, impl (code, ()) = some (facts, xs, stem, loop, ()) ∧ xs.length ≤ 8 ∧ stem.length + loop.length ≤ 1000 := by
  obtain ⟨c, e1, S⟩ := spec_l40Open.law code hc
  obtain ⟨f, hf, e2⟩ := spec_l40Rd_num.law [1, 2, 2, 0] c 0 (by simp) S (by omega)
  have hf' : 0 ≤ f ∧ f ≤ 4 := by simp at hf; omega
  obtain ⟨l, q, e3, h1, h2, h3⟩ := spec_l20Any.law f 4 c (0 + 1) (S.at (by omega) (by omega)) (by omega)
  obtain ⟨v, e4, _, g4⟩ := spec_l40Rd_pick.law 4 c q (S.at (by omega) (by omega)) (by omega)
  obtain ⟨w1, q1, e5, a1, a2, a3⟩ := spec_l20Word.law f v c (q + 1) hf' (by omega) (S.at (by omega) (by omega)) (by omega)
  obtain ⟨v2, e6, _, g6⟩ := spec_l40Rd_pick.law 4 c q1 (S.at (by omega) (by omega)) (by omega)
  obtain ⟨w2, q2, e7, b1, b2, b3⟩ := spec_l20Word.law f (1 + v2) c (q1 + 1) hf' (by omega) (S.at (by omega) (by omega)) (by omega)
  obtain ⟨v3, e8, _, _⟩ := spec_l40Rd_pick.law 16 c q2 (S.at (by omega) (by omega)) (by omega)
  obtain ⟨v4, e9, _, _⟩ := spec_l40Rd_pick.law 2 c (q2 + 1) (S.at (by omega) (by omega)) (by omega)
  rw [impl_eq]; unfold F0
  simp only [e1, e2, e3, e4, e5, e6, Option.bind_some, wI_small (n := 1 + v2) (by omega) (by omega), e7, e8, e9]
  have fits : decide ((w1.length + [([2] : List Int)].length) * 24 ≤ 140737488355328) = true := decide_eq_true (by simp only [List.length_append, List.length_cons, List.length_nil]; omega)
  rw [fits]
  cases v3 == 0
  · exact ⟨_, _, _, _, rfl, by omega, by omega⟩
  · cases v4 == 0
    · exact ⟨_, _, _, _, rfl, by omega, by simp only [List.length_append, List.length_cons, List.length_nil]; omega⟩
    · exact ⟨_, _, _, _, rfl, by omega, by simp only [List.length_append, List.length_cons, List.length_nil]; omega⟩
end spec_l20On
namespace spec_DrawHoldsOn
theorem law (code : List Int) (hc : ∀ x ∈ code, 0 ≤ x ∧ x ≤ 255) : ∃ facts xs stem loop, impl (code, ()) = some (facts, xs, stem, loop, ()) ∧ xs.length ≤ 8 ∧ stem.length + loop.length ≤ 1000 := by
  obtain ⟨facts, xs, stem, loop, e, h1, h2⟩ := spec_l20On.law code hc
  rw [impl_eq]; unfold F0
  rw [e]
  exact ⟨facts, xs, stem, loop, rfl, h1, h2⟩
end spec_DrawHoldsOn
/-! ### the law -/
namespace laws_FnContrary
theorem law (code : List Int) (hc : ∀ x ∈ code, 0 ≤ x ∧ x ≤ 255) : impl (code, ()) = some (true, ()) := by
  obtain ⟨facts, xs, stem, loop, e, h8, hl⟩ := spec_DrawHoldsOn.law code hc
  rw [impl_eq]; unfold F0
  by_cases hbig : (code.length : Int) > 1048576
  · rw [decide_eq_true hbig]; rfl
  rw [decide_eq_false hbig, cond_false]
  simp only [e, Option.bind_some, impl_HoldsOn.law _ _ _ _ hl, spec_HoldsOn.law _ _ _ _ hl, impl_WordValid.law _ _ _ hl, spec_WordValid.law _ _ _ hl, beq_self_eq_true, Bool.not_true, cond_false]
  rw [L7_eq]; unfold F7
  rw [spec_TimesValid.law, spec_WordValid.law _ _ _ hl, Option.bind_some, Option.bind_some]
  cases hx : timesOK xs facts with
  | false => simp [holds, hx]
  | true =>
    cases hw : wordOK stem loop facts with
    | false => simp [holds, hw]
    | true =>
      simp only [Bool.not_true, cond_false]
      rw [L9_eq]; unfold F9
      have e1 := holds_contrary hx (by omega) hw
      have ho := (contrary_ok hx (by omega)).2
      simp only [impl_Contrary.law, impl_Pushed.law, Option.bind_some, impl_HoldsOn.law _ _ _ _ hl, e1]
      have hb : (!((!holds xs stem loop facts) == holds xs stem loop facts)) = true := by cases holds xs stem loop facts <;> rfl
      rw [hb, cond_true]
      by_cases hp : pushed (contrary xs facts) facts = []
      · rw [hp]; rfl
      · rw [holds_pushed ho hw hp, e1, hb]
        cases ((pushed (contrary xs facts) facts).length : Int) == 0 <;> rfl
end laws_FnContrary
end Go.Proofs.YtjjepjfjikefiaaB
