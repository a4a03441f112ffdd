/- The plain law: what the functions compute, in plain Lean. -/
import Derived.Test.YtambmmpilakgoaaDoorKFnPushed
import Derived.Test.YtambmmpilakgoaaDoorP0
set_option linter.unusedVariables false
set_option linter.unusedSimpArgs false
set_option maxRecDepth 10000
set_option synthInstance.maxSize 10000
set_option synthInstance.maxHeartbeats 400000
namespace Go.Proofs.YtambmmpilakgoaaDoorB
open Go
namespace spec_l1In
theorem law (x a b : Int) : impl (x, a, b, ()) = some (in3 x a b, ()) := by
  rw [impl_eq]; unfold F0
  rw [cond_ret]
  congr 2
  rw [Bool.eq_iff_iff, in3_iff]
  simp only [cond_iff, decide_eq_true_eq, Bool.false_eq_true, and_false, or_false]
end spec_l1In
namespace impl_in
theorem law (x a b : Int) : impl (x, a, b, ()) = some (in3 x a b, ()) := by
  rw [impl_eq]; unfold F0
  rw [cond_ret]
  congr 2
  rw [Bool.eq_iff_iff, in3_iff]
  simp only [cond_iff, decide_eq_true_eq, Bool.false_eq_true, and_false, or_false]
end impl_in
/-! ### loops over a list -/
theorem drop_cons {α : Type} {xs : List α} {i : Nat} (d : α) (h : i < xs.length) : xs.drop i = xs.getD i d :: xs.drop (i + 1) := by
  rw [List.drop_eq_getElem_cons h, getD_eq h]
/-- a loop that goes up along a list, and what it computes along what is left -/
theorem up_list {α S R : Type} (xs : List α) (d : α) (I : Nat → S → Prop) (L : Nat → S → Option R) (g : Nat → List α → S → Option R)
    (hn : ∀ s, I xs.length s → L xs.length s = g xs.length [] s)
    (hc : ∀ i s, i < xs.length → I i s → (∀ s', I (i + 1) s' → L (i + 1) s' = g (i + 1) (xs.drop (i + 1)) s') → L i s = g i (xs.getD i d :: xs.drop (i + 1)) s) :
    ∀ s, I 0 s → L 0 s = g 0 xs s := by
  have key : ∀ k i s, i + k = xs.length → I i s → L i s = g i (xs.drop i) s := by
    intro k
    induction k with
    | zero =>
      intro i s hi hI
      have : i = xs.length := by omega
      subst this
      rw [List.drop_length]
      exact hn s hI
    | succ k ih =>
      intro i s hi hI
      rw [drop_cons d (by omega)]
      exact hc i s (by omega) hI fun s' hI' => ih (i + 1) s' (by omega) hI'
  intro s hI
  have := key xs.length 0 s (by omega) hI
  rwa [List.drop_zero] at this
theorem inb_eq (i : Int) (n : Nat) : inb i n = (decide (0 ≤ i) && decide (i < n)) := rfl
theorem cast_lt (i n : Nat) : decide ((i : Int) < (n : Int)) = decide (i < n) := by simp
theorem up_list0 {α R : Type} (xs : List α) (d : α) (L : Nat → Option R) (g : Nat → List α → Option R) (hn : L xs.length = g xs.length [])
    (hc : ∀ i, i < xs.length → L (i + 1) = g (i + 1) (xs.drop (i + 1)) → L i = g i (xs.getD i d :: xs.drop (i + 1))) : L 0 = g 0 xs :=
  up_list (S := Unit) xs d (fun _ _ => True) (fun i _ => L i) (fun i r _ => g i r) (fun _ _ => hn) (fun i _ hi _ ih => hc i hi (ih () trivial)) () trivial
theorem decide_cons {α : Type} [DecidableEq α] (a b : α) (x y : List α) : decide (a :: x = b :: y) = (decide (a = b) && decide (x = y)) := by
  rw [Bool.eq_iff_iff]; simp
theorem bne_dec {α : Type} [DecidableEq α] (a b : α) : (a != b) = !decide (a = b) := by
  by_cases h : a = b <;> simp [h]
theorem isEmpty_len {α : Type} (xs : List α) : ((xs.length : Int) == 0) = xs.isEmpty := by cases xs <;> simp <;> omega
theorem pos_len {α : Type} (xs : List α) : decide ((xs.length : Int) > 0) = !xs.isEmpty := by cases xs <;> simp <;> omega
theorem take_snoc {α : Type} {xs : List α} {i : Nat} (d : α) (h : i < xs.length) : xs.take (i + 1) = xs.take i ++ [xs.getD i d] := by
  rw [List.take_add_one, List.getElem?_eq_getElem h, getD_eq h]; rfl
theorem lit_wf {n : Int} (h : (Lit.int .i64 n).wf = true) : -9223372036854775808 ≤ n ∧ n ≤ 9223372036854775807 := by
  simp only [Lit.wf, Bool.and_eq_true, decide_eq_true_eq] at h
  exact ⟨h.1, h.2⟩
/-- the first of a kind -/
def goIdx {α : Type} (p : α → Bool) : Nat → List α → Int
  | _, [] => -1
  | i, x :: r => bif p x then (i : Int) else goIdx p (i + 1) r
theorem goIdx_cons {α : Type} (p : α → Bool) (i : Nat) (x : α) (r : List α) : goIdx p i (x :: r) = bif p x then (i : Int) else goIdx p (i + 1) r := rfl
theorem goIdx_any {α : Type} (p : α → Bool) : ∀ (r : List α) (i : Nat), decide (goIdx p i r ≥ 0) = r.any p
  | [], _ => rfl
  | x :: r, i => by
    unfold goIdx
    rw [List.any_cons, ← goIdx_any p r (i + 1)]
    cases p x with
    | true => simp
    | false => rfl
theorem any_not {α : Type} (p : α → Bool) (r : List α) : (!r.any fun x => !p x) = r.all p := by
  induction r with
  | nil => rfl
  | cons x r ih => rw [List.any_cons, List.all_cons, ← ih]; cases p x <;> rfl
/-! ### what is drawn -/
/-- a source that is not used up -/
def Src (code : List Int) (p : Int) : Prop := code.length ≤ 2000 ∧ (∀ x ∈ code, 0 ≤ x ∧ x ≤ 255) ∧ 0 ≤ p ∧ p ≤ 1000000000
theorem Src.next {code : List Int} {p : Int} (h : Src code p) (hp : p < 1000000000) : Src code (p + 1) := ⟨h.1, h.2.1, by have := h.2.2; omega, by omega⟩
theorem Src.at {code : List Int} {p q : Int} (h : Src code p) (h0 : 0 ≤ q) (h1 : q ≤ 1000000000) : Src code q := ⟨h.1, h.2.1, h0, h1⟩
theorem xor_nonneg {x y : Int} (hx : 0 ≤ x) (hx2 : x < 4611686018427387904) (hy : 0 ≤ y) (hy2 : y < 4611686018427387904) : 0 ≤ xorI .i64 x y := by
  unfold xorI
  have e1 : (BitVec.ofInt 64 x).toNat = x.toNat := by rw [BitVec.toNat_ofInt]; omega
  have e2 : (BitVec.ofInt 64 y).toNat = y.toNat := by rw [BitVec.toNat_ofInt]; omega
  have h : (BitVec.ofInt 64 x ^^^ BitVec.ofInt 64 y).toNat < 2 ^ 62 := by
    rw [BitVec.toNat_xor, e1, e2]
    exact Nat.xor_lt_two_pow (by omega) (by omega)
  show 0 ≤ wI _
  rw [show IntKind.i64.bits = 64 from rfl, wI_small (by omega) (by omega)]
  omega
theorem tmod_lt {a n : Int} (ha : 0 ≤ a) (hn : 0 < n) : 0 ≤ Int.tmod a n ∧ Int.tmod a n < n := ⟨Int.tmod_nonneg _ ha, Int.tmod_lt_of_pos _ hn⟩
theorem code_get {code : List Int} (h : ∀ x ∈ code, 0 ≤ x ∧ x ≤ 255) (i : Nat) : 0 ≤ code.getD i 0 ∧ code.getD i 0 ≤ 255 := by
  rcases Nat.lt_or_ge i code.length with hi | hi
  · exact h _ (getD_mem hi)
  · rw [List.getD_eq_getElem?_getD, List.getElem?_eq_none hi]; simp
namespace spec_l40Open
theorem law (code : List Int) (h : ∀ x ∈ code, 0 ≤ x ∧ x ≤ 255) : ∃ c, impl (code, ()) = some (c, 0, ()) ∧ Src c 0 := by
  rw [impl_eq]; unfold F0
  by_cases hl : (code.length : Int) > 2000
  · rw [decide_eq_true hl, decide_eq_true (show (2000 : Int) ≤ (code.length : Int) by omega)]
    exact ⟨_, rfl, by simp; omega, fun x hx => h x (List.mem_of_mem_take (List.mem_of_mem_drop hx)), by omega, by omega⟩
  · rw [decide_eq_false hl]
    exact ⟨_, rfl, by omega, h, by omega, by omega⟩
end spec_l40Open
namespace spec_l40Rd_pick
theorem law (n : Int) (code : List Int) (p : Int) (h : Src code p) (hp : p < 1000000000) : ∃ v, impl (n, code, p, ()) = some (v, code, p + 1, ()) ∧ (n < 1 → v = 0) ∧ (1 ≤ n → 0 ≤ v ∧ v < n) := by
  obtain ⟨h1, h2, h3, h4⟩ := h
  rw [impl_eq]; unfold F0
  rw [wI_small (n := p + 1) (by omega) (by omega)]
  by_cases hn : n < 1
  · rw [decide_eq_true hn]
    exact ⟨0, rfl, fun _ => rfl, fun h => by omega⟩
  rw [decide_eq_false hn, cond_false]
  cases hc : code with
  | nil => exact ⟨0, rfl, fun h => absurd h hn, fun h => by omega⟩
  | cons a r =>
    rw [← hc, isEmpty_len]
    have hpos : 1 ≤ code.length := by rw [hc]; simp
    rw [show code.isEmpty = false by rw [hc]; rfl, cond_false, L4_eq]; unfold F4
    rw [wI_small (n := p + 1 - 1) (by omega) (by omega), show p + 1 - 1 = p by omega]
    by_cases hlt : p < (code.length : Int)
    · have hg := code_get h2 p.toNat
      rw [decide_eq_true hlt, cond_true, inb_int (by omega) hlt, cond_true, decide_eq_false (show ¬ n = 0 by omega), cond_false, wI_small (by omega) (by omega)]
      have := tmod_lt hg.1 (show 0 < n by omega)
      exact ⟨_, rfl, fun h => absurd h hn, fun _ => this⟩
    · rw [decide_eq_false hlt, cond_false, L7_eq]; unfold F7
      have hk : (0 : Int) < (code.length : Int) := by omega
      have t1 := tmod_lt (a := p) (n := (code.length : Int)) h3 hk
      rw [wI_small (n := p * 7) (by omega) (by omega), wI_small (n := p * 7 + 3) (by omega) (by omega)]
      have t2 := tmod_lt (a := p * 7 + 3) (n := (code.length : Int)) (by omega) hk
      rw [decide_eq_false (show ¬ (code.length : Int) = 0 by omega), cond_false, inb_int t1.1 t1.2, cond_true, cond_false, inb_int t2.1 t2.2, cond_true, cond_false, decide_eq_false (show ¬ n = 0 by omega), cond_false]
      have g1 := code_get h2 (Int.tmod p (code.length : Int)).toNat
      have g2 := code_get h2 (Int.tmod (p * 7 + 3) (code.length : Int)).toNat
      generalize code.getD (Int.tmod p (code.length : Int)).toNat 0 = a1 at g1 ⊢
      generalize code.getD (Int.tmod (p * 7 + 3) (code.length : Int)).toNat 0 = a2 at g2 ⊢
      have t3 : 0 ≤ Int.tdiv p (code.length : Int) ∧ Int.tdiv p (code.length : Int) ≤ p := ⟨Int.tdiv_nonneg h3 (by omega), Int.tdiv_le_self _ h3⟩
      generalize Int.tdiv p (code.length : Int) = d at t3 ⊢
      rw [wI_small (n := a1) (by omega) (by omega), wI_small (n := a2) (by omega) (by omega), wI_small (n := a1 * 131) (by omega) (by omega), wI_small (n := a2 * 1117) (by omega) (by omega), wI_small (n := a1 * 131 + a2 * 1117) (by omega) (by omega), wI_small (n := p * 29) (by omega) (by omega),
        wI_small (n := d) (by omega) (by omega), wI_small (n := d * 53) (by omega) (by omega), wI_small (n := a1 * 131 + a2 * 1117 + p * 29) (by omega) (by omega), wI_small (n := a1 * 131 + a2 * 1117 + p * 29 + d * 53) (by omega) (by omega)]
      have hx : 0 ≤ a1 * 131 + a2 * 1117 + p * 29 + d * 53 ∧ a1 * 131 + a2 * 1117 + p * 29 + d * 53 < 1000000000000 := by omega
      generalize a1 * 131 + a2 * 1117 + p * 29 + d * 53 = x at hx ⊢
      have hd : 0 ≤ Int.tdiv x 64 ∧ Int.tdiv x 64 ≤ x := ⟨Int.tdiv_nonneg hx.1 (by omega), Int.tdiv_le_self _ hx.1⟩
      rw [wI_small (n := Int.tdiv x 64) (by omega) (by omega)]
      have := tmod_lt (xor_nonneg hx.1 (by omega) hd.1 (by omega)) (show 0 < n by omega)
      exact ⟨_, rfl, fun h => absurd h hn, fun _ => this⟩
end spec_l40Rd_pick
namespace spec_l40Rd_num
theorem law (xs : List Int) (code : List Int) (p : Int) (hx : 1 ≤ xs.length) (h : Src code p) (hp : p < 1000000000) : ∃ v, v ∈ xs ∧ impl (xs, code, p, ()) = some (v, code, p + 1, ()) := by
  obtain ⟨v, h1, _, h3⟩ := spec_l40Rd_pick.law (xs.length : Int) code p h hp
  have h4 := h3 (by omega)
  rw [impl_eq]; unfold F0
  rw [h1, Option.bind_some, inb_int h4.1 h4.2]
  exact ⟨_, getD_mem (by omega), rfl⟩
end spec_l40Rd_num
namespace slices_Index_of
theorem law (t : I4) (out : List I4) (hl : (out.length + 1) * 32 ≤ 140737488355328) : impl (out, t, ()) = some (if atI out t < out.length then (atI out t : Int) else -1, ()) := by
  rw [impl_eq]; unfold F0
  have key : ∀ d i, i + d = out.length → (∀ j, j < i → out.getD j (0, 0, 0, 0) ≠ t) → L2 (out, (out.length : Int), (i : Int), t.1, t.2.1, t.2.2.1, t.2.2.2, ()) = some (if atI out t < out.length then (atI out t : Int) else -1, ()) := by
    intro d
    induction d with
    | zero =>
      intro i hi hb
      have : i = out.length := by omega
      subst this
      have h0 := atI_not hb
      rw [L2_eq]; unfold F2
      simp [h0]
    | succ d ih =>
      intro i hi hb
      have hlt : i < out.length := by omega
      rw [L2_eq]; unfold F2
      rw [lt_len]
      simp only [hlt, decide_true, cond_true]
      rw [L4_eq]; unfold F4
      rw [inb_true hlt, cond_true, Int.toNat_natCast, beq4 (x := (t.1, t.2.1, t.2.2.1, t.2.2.2)), wI_succ (by omega)]
      by_cases h : t = out.getD i (0, 0, 0, 0)
      · rw [decide_eq_true (show _ = _ from h), cond_true]
        have := atI_here hlt h.symm hb
        simp [this, hlt]
      · rw [decide_eq_false (show ¬ _ = _ from h), cond_false]
        refine ih (i + 1) (by omega) fun j hj => ?_
        rcases Nat.lt_or_ge j i with h1 | h1
        · exact hb j h1
        · have : j = i := by omega
          rw [this]; exact fun e => h e.symm
  exact key out.length 0 (by omega) fun j hj => by omega
end slices_Index_of
namespace spec_l20Put
theorem law (t : I4) (out : List I4) (hl : (out.length + 1) * 32 ≤ 140737488355328) : impl (t, out, ()) = some (((put out t).2 : Int), (put out t).1, ()) := by
  rw [impl_eq]; unfold F0
  have key : ∀ d i, i + d = out.length → (∀ j, j < i → out.getD j (0, 0, 0, 0) ≠ t) → L2 ((i : Int), out, t.1, t.2.1, t.2.2.1, t.2.2.2, ()) = some (((put out t).2 : Int), (put out t).1, ()) := by
    intro d
    induction d with
    | zero =>
      intro i hi hb
      have : i = out.length := by omega
      subst this
      have h0 := atI_not hb
      rw [L2_eq]; unfold F2
      simp [put, h0, hl]
    | succ d ih =>
      intro i hi hb
      have hlt : i < out.length := by omega
      rw [L2_eq]; unfold F2
      rw [lt_len]
      simp only [hlt, decide_true, cond_true]
      rw [L4_eq]; unfold F4
      rw [inb_true hlt, cond_true, Int.toNat_natCast, beq4 (y := (t.1, t.2.1, t.2.2.1, t.2.2.2)), wI_succ (by omega)]
      by_cases h : out.getD i (0, 0, 0, 0) = t
      · rw [decide_eq_true (show _ = _ from h), cond_true]
        have := atI_here hlt h hb
        simp [put, this, hlt]
      · rw [decide_eq_false (show ¬ _ = _ from h), cond_false]
        refine ih (i + 1) (by omega) fun j hj => ?_
        rcases Nat.lt_or_ge j i with h1 | h1
        · exact hb j h1
        · have : j = i := by omega
          rw [this]; exact h
  exact key out.length 0 (by omega) fun j hj => by omega
end spec_l20Put
namespace impl_clone_of
theorem law (xs : List I4) (hx : xs.length ≤ 1048576) : impl (xs, ()) = some (xs, ()) := by
  rw [impl_eq]; unfold F0
  by_cases h : xs = []
  · subst h; rfl
  · have : 0 < xs.length := List.length_pos_iff.2 h
    rw [show ((xs.length : Int) == 0) = false by simp [h], cond_false]
    rw [decide_eq_true (by omega), decide_eq_true (by omega), decide_eq_true (by omega)]
    simp
end impl_clone_of
/-! ### The plain law of Pushed -/
namespace spec_l20One
theorem law (x : Int) : impl (x, ()) = some (x == 2 || x == 5, ()) := by
  rw [impl_eq]; unfold F0
  cases h : x == 2 <;> simp
end spec_l20One

/-- a step of a formula of time -/
def TimeStep (t : I4) (i facts : Int) : Prop :=
  (t.1 = 0 ∧ t.2.1 = 0 ∧ t.2.2.1 = 0 ∧ t.2.2.2 = 0) ∨ (t.1 = 1 ∧ 0 ≤ t.2.1 ∧ t.2.1 ≤ facts - 1 ∧ t.2.2.1 = 0 ∧ t.2.2.2 = 0) ∨
  (2 ≤ t.1 ∧ t.1 ≤ 7 ∧ t.2.1 = 0 ∧ 0 ≤ t.2.2.1 ∧ t.2.2.1 ≤ i - 1 ∧ 0 ≤ t.2.2.2 ∧ t.2.2.2 ≤ i - 1 ∧ (t.1 = 2 ∨ t.1 = 5 → t.2.2.2 = t.2.2.1))
instance (t : I4) (i facts : Int) : Decidable (TimeStep t i facts) := by unfold TimeStep; infer_instance
def timesOK (xs : List I4) (facts : Int) : Bool := in3 facts 0 4 && (in3 xs.length 1 24 && (List.range' 0 xs.length).all fun i => decide (TimeStep (xs.getD i (0, 0, 0, 0)) i facts))

namespace spec_l20Step
theorem law (t : I4) (i facts : Int) (hi : 0 ≤ i ∧ i ≤ 1048576) (hf : 0 ≤ facts ∧ facts ≤ 1048576) : impl (t, i, facts, ()) = some (decide (TimeStep t i facts), ()) := by
  obtain ⟨op, n, a, b⟩ := t
  rw [impl_eq]; unfold F0
  simp only [spec_l1In.law, spec_l20One.law, Option.bind_some, wI_small (n := i - 1) (by omega) (by omega), wI_small (n := facts - 1) (by omega) (by omega), L7_eq, F7, cond_ret]
  have key : ∀ x y : Bool, (x = true ↔ y = true) → some (x, ()) = some (y, ()) := fun x y h => by rw [Bool.eq_iff_iff.2 h]
  apply key
  rw [decide_eq_true_eq]
  simp only [TimeStep, cond_iff, not_iff, in3_iff, beq_iff_eq, bne_iff_ne, ne_eq, Bool.or_eq_true, Bool.false_eq_true, and_true, and_false, or_false, false_or, Decidable.not_not]
  omega
end spec_l20Step
namespace spec_TimesValid
theorem law (xs : List I4) (facts : Int) : impl (xs, facts, ()) = some (timesOK xs facts, ()) := by
  rw [impl_eq]; unfold F0
  simp only [spec_l1In.law, Option.bind_some]
  unfold timesOK
  cases h1 : in3 facts 0 4 with
  | false => rfl
  | true => cases h2 : in3 xs.length 1 24 with
    | false => rfl
    | true =>
      rw [in3_iff] at h1 h2
      have h := up_all (R := PO) (fun i => L4 (xs, facts, (i : Int), ())) xs.length (fun i => decide (TimeStep (xs.getD i (0, 0, 0, 0)) i facts)) (false, ()) (true, ()) (fun i hi => by
        show L4 _ = _
        rw [L4_eq]; unfold F4
        rw [lt_len, inb_true hi, Int.toNat_natCast, spec_l20Step.law _ _ _ (by omega) (by omega), wI_succ (by omega), Option.bind_some]
        simp only [hi, decide_true, cond_true]
        cases decide (TimeStep (xs.getD i (0, 0, 0, 0)) i facts) <;> rfl) (by
        show L4 _ = _
        rw [L4_eq]; unfold F4; simp) xs.length 0 (by omega)
      simp only [Bool.not_true, cond_false, Bool.true_and, L3_eq, F3]
      refine (show _ = _ from h).trans ?_
      cases (List.range' 0 xs.length).all _ <;> rfl
end spec_TimesValid
namespace impl_TimesValid
theorem law (xs : List I4) (facts : Int) : impl (xs, facts, ()) = some (timesOK xs facts, ()) := by
  rw [impl_eq]; unfold F0
  simp only [impl_in.law, Option.bind_some]
  unfold timesOK
  cases h1 : in3 facts 0 4 with
  | false => rfl
  | true => cases h2 : in3 xs.length 1 24 with
    | false => rfl
    | true =>
      rw [in3_iff] at h1 h2
      have h := up_all (R := PO) (fun i => L4 (facts, xs, (xs.length : Int), (i : Int), ())) xs.length (fun i => decide (TimeStep (xs.getD i (0, 0, 0, 0)) i facts)) (false, ()) (true, ()) (fun i hi => by
        show L4 _ = _
        rw [L4_eq]; unfold F4
        rw [lt_len, inb_true hi, wI_succ (by omega), Int.toNat_natCast, wI_small (n := (i : Int) - 1) (by omega) (by omega), wI_small (n := facts - 1) (by omega) (by omega)]
        simp only [hi, decide_true, cond_true, impl_in.law, Option.bind_some]
        generalize xs.getD i (0, 0, 0, 0) = t
        obtain ⟨op, n, a, b⟩ := t
        generalize L4 (facts, xs, (xs.length : Int), ((i + 1 : Nat) : Int), ()) = z
        by_cases g : TimeStep (op, n, a, b) i facts
        · simp only [decide_eq_true g, cond_true]
          unfold TimeStep at g
          simp only at g
          rcases g with g | g | g
          · simp [g]
          · have : in3 n 0 (facts - 1) = true := in3_iff.2 ⟨g.2.1, g.2.2.1⟩
            simp [g.1, g.2.2.2, this]
          · have e1 : in3 op 0 7 = true := in3_iff.2 ⟨by omega, by omega⟩
            have e2 : in3 a 0 (i - 1) = true := in3_iff.2 ⟨by omega, by omega⟩
            have e3 : in3 b 0 (i - 1) = true := in3_iff.2 ⟨by omega, by omega⟩
            have e4 : (op == 0) = false := by simp; omega
            have e5 : (op == 1) = false := by simp; omega
            have e6 : (n == 0) = true := by simp; omega
            simp only [e1, e2, e3, e4, e5, e6, cond_true, cond_false]
            cases e7 : a == b with
            | true => rfl
            | false =>
              have e7' : ¬ a = b := by simpa using e7
              have e8 : (op != 2) = true := by simp; omega
              have e9 : (op != 5) = true := by simp; omega
              simp only [e8, e9, cond_true, cond_false, Bool.not_true]
        · rw [decide_eq_false g, cond_false]
          unfold TimeStep at g
          simp only at g
          cases e4 : op == 0 with
          | true =>
            have e4' : op = 0 := by simpa using e4
            cases e : ((true && ((n == 0) && ((a == 0) && (b == 0))))) with
            | false => rfl
            | true =>
              simp only [Bool.and_eq_true, beq_iff_eq] at e
              omega
          | false =>
            have e4' : ¬ op = 0 := by simpa using e4
            rw [cond_false]
            cases e5 : op == 1 with
            | true =>
              have e5' : op = 1 := by simpa using e5
              rw [cond_true]
              cases e1 : in3 n 0 (facts - 1) with
              | false => rfl
              | true =>
                rw [in3_iff] at e1
                rw [cond_true]
                cases e2 : a == 0 with
                | false => rfl
                | true =>
                  have e2' : a = 0 := by simpa using e2
                  cases e3 : b == 0 with
                  | false => rfl
                  | true =>
                    have e3' : b = 0 := by simpa using e3
                    omega
            | false =>
              have e5' : ¬ op = 1 := by simpa using e5
              rw [cond_false]
              cases e1 : in3 op 0 7 with
              | false => rfl
              | true => cases e2 : n == 0 with
                | false => rfl
                | true => cases e3 : in3 a 0 (i - 1) with
                  | false => rfl
                  | true => cases e6 : in3 b 0 (i - 1) with
                    | false => rfl
                    | true =>
                      rw [in3_iff] at e1 e3 e6
                      have e2' : n = 0 := by simpa using e2
                      have e7 : (a == b) = false := by simp; omega
                      have e8 : op = 2 ∨ op = 5 := by omega
                      rw [e7]
                      rcases e8 with rfl | rfl <;> rfl) (by
        show L4 _ = _
        rw [L4_eq]; unfold F4; simp) xs.length 0 (by omega)
      simp only [Bool.not_true, cond_false, Bool.true_and, L3_eq, F3]
      refine (show _ = _ from h).trans ?_
      cases (List.range' 0 xs.length).all _ <;> rfl
end impl_TimesValid

namespace impl_pushing_put
theorem law (t : I4) (xs out : List I4) (hl : (out.length + 1) * 32 ≤ 140737488355328) : impl (t, xs, out, ()) = some (((put out t).2 : Int), xs, (put out t).1, ()) := by
  rw [impl_eq]; unfold F0
  rw [L1_eq]; unfold F1
  rw [slices_Index_of.law _ _ hl, Option.bind_some]
  by_cases h : atI out t < out.length
  · simp [h, put]
  · have := atI_le out t
    have e : atI out t = out.length := by omega
    simp only [h, if_false]
    rw [show decide ((-1 : Int) ≥ 0) = false by rfl, cond_false, L4_eq]; unfold F4
    simp [put, e, hl]
    exact wI_small (by omega) (by omega)
end impl_pushing_put
def turned (op : Int) : Int := if op = 3 then 4 else if op = 4 then 3 else if op = 6 then 7 else if op = 7 then 6 else op
/-- a step with all that it is made of, put behind what there is -/
def push (xs : List I4) : Nat → Nat → Bool → List I4 → List I4 × Nat
  | 0, _, _, out => (out, 0)
  | f + 1, i, neg, out =>
    let t := xs.getD i (0, 0, 0, 0)
    if t.1 = 2 then push xs f t.2.2.1.toNat (!neg) out
    else if t.1 ≤ 1 then (if neg then put (put out t).1 (2, 0, (put out t).2, (put out t).2) else put out t)
    else
      let one := push xs f t.2.2.1.toNat neg out
      let op := if neg then turned t.1 else t.1
      if t.1 = 5 then put one.1 (op, 0, one.2, one.2)
      else let two := push xs f t.2.2.2.toNat neg one.1
        put two.1 (op, 0, one.2, two.2)

/-- the steps are in order -/
def Steps (xs : List I4) : Prop := ∀ i, i < xs.length → ∃ facts, TimeStep (xs.getD i (0, 0, 0, 0)) i facts

theorem push_len {xs : List I4} (hv : Steps xs) : ∀ f i neg out, i < f → i < xs.length → out.length ≤ (push xs f i neg out).1.length ∧ (push xs f i neg out).1.length ≤ out.length + 3 ^ (i + 1) ∧ (push xs f i neg out).2 < (push xs f i neg out).1.length
  | 0, i, neg, out, hf, hi => by omega
  | f + 1, i, neg, out, hf, hi => by
    obtain ⟨facts, hs⟩ := hv i hi
    unfold push
    simp only
    generalize xs.getD i (0, 0, 0, 0) = t at hs
    obtain ⟨op, n, a, b⟩ := t
    unfold TimeStep at hs
    simp only at hs ⊢
    have h3 : 3 ^ (i + 1) = 3 ^ i + 3 ^ i + 3 ^ i := by rw [Nat.pow_succ]; omega
    have h0 : 0 < 3 ^ i := Nat.pow_pos (by omega)
    have hp : ∀ c : Nat, c < i → 3 ^ (c + 1) ≤ 3 ^ i := fun c hc => Nat.pow_le_pow_right (by omega) (by omega)
    by_cases h2 : op = 2
    · rw [if_pos h2]
      have := push_len hv f a.toNat (!neg) out (by omega) (by omega)
      have := hp a.toNat (by omega)
      omega
    · rw [if_neg h2]
      by_cases h1 : op ≤ 1
      · rw [if_pos h1]
        have e1 := put_len out (op, n, a, b)
        by_cases hn : neg
        · rw [if_pos hn]
          have e2 := put_len (put out (op, n, a, b)).1 (2, 0, ((put out (op, n, a, b)).2 : Int), ((put out (op, n, a, b)).2 : Int))
          omega
        · rw [if_neg hn]; omega
      · rw [if_neg h1]
        have e1 := push_len hv f a.toNat neg out (by omega) (by omega)
        have g1 := hp a.toNat (by omega)
        by_cases h5 : op = 5
        · rw [if_pos h5]
          have e2 := put_len (push xs f a.toNat neg out).1 (if neg then turned op else op, 0, ((push xs f a.toNat neg out).2 : Int), ((push xs f a.toNat neg out).2 : Int))
          omega
        · rw [if_neg h5]
          have e2 := push_len hv f b.toNat neg (push xs f a.toNat neg out).1 (by omega) (by omega)
          have g2 := hp b.toNat (by omega)
          have e3 := put_len (push xs f b.toNat neg (push xs f a.toNat neg out).1).1 (if neg then turned op else op, 0, ((push xs f a.toNat neg out).2 : Int), ((push xs f b.toNat neg (push xs f a.toNat neg out).1).2 : Int))
          omega

namespace spec_l20Turned
theorem law (op : Int) (h : 2 ≤ op ∧ op ≤ 7 ∧ op ≠ 2) : impl (op, ()) = some (turned op, ()) := by
  have : op = 3 ∨ op = 4 ∨ op = 5 ∨ op = 6 ∨ op = 7 := by omega
  rw [impl_eq]
  rcases this with rfl | rfl | rfl | rfl | rfl <;> rfl
end spec_l20Turned
theorem turned_five {op : Int} (h : 2 ≤ op ∧ op ≤ 7) : (turned op == 5) = (op == 5) := by
  have : op = 2 ∨ op = 3 ∨ op = 4 ∨ op = 5 ∨ op = 6 ∨ op = 7 := by omega
  rcases this with rfl | rfl | rfl | rfl | rfl | rfl <;> rfl
def big24 : Nat := 3 ^ 24
theorem big24_le {n : Nat} (h : n ≤ big24) : (n + 1) * 32 ≤ 140737488355328 := by unfold big24 at h; omega

namespace spec_l20Push
theorem law {xs : List I4} (hv : Steps xs) : ∀ f i neg out, i < f → i < xs.length → out.length + 3 ^ (i + 1) ≤ big24 → impl (xs, (i : Int), neg, out, ()) = some (((push xs f i neg out).2 : Int), (push xs f i neg out).1, ())
  | 0, i, neg, out, hf, hi, hb => by omega
  | f + 1, i, neg, out, hf, hi, hb => by
    obtain ⟨facts, hs⟩ := hv i hi
    rw [impl_eq]; unfold F0 push
    rw [inb_true hi, Int.toNat_natCast, cond_true]
    simp only
    generalize xs.getD i (0, 0, 0, 0) = t at hs
    obtain ⟨op, n, a, b⟩ := t
    unfold TimeStep at hs
    simp only at hs ⊢
    have h3 : 3 ^ (i + 1) = 3 ^ i + 3 ^ i + 3 ^ i := by rw [Nat.pow_succ]; omega
    have h0 : 0 < 3 ^ i := Nat.pow_pos (by omega)
    have hp : ∀ c : Nat, c < i → 3 ^ (c + 1) ≤ 3 ^ i := fun c hc => Nat.pow_le_pow_right (by omega) (by omega)
    by_cases h2 : op = 2
    · have ea : a = (a.toNat : Int) := by omega
      have := hp a.toNat (by omega)
      rw [if_pos h2, show (op == 2) = true by simpa using h2, cond_true, ea, law hv f a.toNat (!neg) out (by omega) (by omega) (by omega)]
      rw [Option.bind_some, ← ea]
    · rw [if_neg h2, show (op == 2) = false by simpa using h2, cond_false]
      by_cases h1 : op ≤ 1
      · rw [if_pos h1, decide_eq_true h1, cond_true]
        have e1 := put_len out (op, n, a, b)
        rw [spec_l20Put.law _ out (big24_le (by omega)), Option.bind_some]
        cases neg with
        | true =>
          simp only [cond_true, if_true]
          rw [spec_l20Put.law _ (put out (op, n, a, b)).1 (big24_le (by omega)), Option.bind_some]
        | false => rfl
      · rw [if_neg h1, decide_eq_false h1, cond_false]
        have ea : a = (a.toNat : Int) := by omega
        have eb : b = (b.toNat : Int) := by omega
        have g1 := hp a.toNat (by omega)
        have g2 := hp b.toNat (by omega)
        have e1 := push_len hv f a.toNat neg out (by omega) (by omega)
        have e2 := push_len hv f b.toNat neg (push xs f a.toNat neg out).1 (by omega) (by omega)
        have l1 := law hv f a.toNat neg out (by omega) (by omega) (by omega)
        have l2 := law hv f b.toNat neg (push xs f a.toNat neg out).1 (by omega) (by omega) (by omega)
        rw [← ea] at l1
        rw [← eb] at l2
        have fin : ∀ op' : Int, (op' == 5) = (op == 5) → L12 impl (xs, neg, op', out, op, n, a, b, ()) = some
            (((if op = 5 then put (push xs f a.toNat neg out).1 (op', 0, ((push xs f a.toNat neg out).2 : Int), ((push xs f a.toNat neg out).2 : Int)) else
              put (push xs f b.toNat neg (push xs f a.toNat neg out).1).1 (op', 0, ((push xs f a.toNat neg out).2 : Int), ((push xs f b.toNat neg (push xs f a.toNat neg out).1).2 : Int))).2 : Int),
             (if op = 5 then put (push xs f a.toNat neg out).1 (op', 0, ((push xs f a.toNat neg out).2 : Int), ((push xs f a.toNat neg out).2 : Int)) else
              put (push xs f b.toNat neg (push xs f a.toNat neg out).1).1 (op', 0, ((push xs f a.toNat neg out).2 : Int), ((push xs f b.toNat neg (push xs f a.toNat neg out).1).2 : Int))).1, ()) := by
          intro op' hop
          rw [L12_eq]; unfold F12
          rw [l1, Option.bind_some, hop]
          by_cases h5 : op = 5
          · rw [if_pos h5, show (op == 5) = true by simpa using h5, cond_true, spec_l20Put.law _ (push xs f a.toNat neg out).1 (big24_le (by omega)), Option.bind_some]
          · rw [if_neg h5, show (op == 5) = false by simpa using h5, cond_false, l2, Option.bind_some, spec_l20Put.law _ (push xs f b.toNat neg (push xs f a.toNat neg out).1).1 (big24_le (by omega)), Option.bind_some]
        cases neg with
        | true =>
          simp only [cond_true, if_true]
          rw [spec_l20Turned.law op (by omega), Option.bind_some]
          exact fin _ (turned_five (by omega))
        | false =>
          simp only [cond_false, Bool.false_eq_true, if_false]
          exact fin _ rfl
end spec_l20Push

namespace impl_pushing_of
theorem law {xs : List I4} (hv : Steps xs) : ∀ f i neg out, i < f → i < xs.length → out.length + 3 ^ (i + 1) ≤ big24 → ∃ o n, impl ((i : Int), neg, xs, out, ()) = some (n, xs, o, ()) ∧
    ((push xs f i neg out).1.length ≤ 24 → o = (push xs f i neg out).1 ∧ n = ((push xs f i neg out).2 : Int)) ∧ (24 < (push xs f i neg out).1.length → 24 < o.length) ∧ o.length ≤ out.length + 3 ^ (i + 1)
  | 0, i, neg, out, hf, hi, hb => by omega
  | f + 1, i, neg, out, hf, hi, hb => by
    have hlen := push_len hv (f + 1) i neg out hf hi
    obtain ⟨facts, hs⟩ := hv i hi
    rw [impl_eq]; unfold F0
    by_cases hbig : 24 < out.length
    · rw [decide_eq_true (by omega), cond_true]
      exact ⟨out, 0, rfl, fun h => by omega, fun _ => hbig, by omega⟩
    · rw [decide_eq_false (by omega), cond_false]
      clear hlen
      unfold push
      rw [inb_true hi, Int.toNat_natCast, cond_true]
      simp only
      generalize xs.getD i (0, 0, 0, 0) = t at hs
      obtain ⟨op, n, a, b⟩ := t
      unfold TimeStep at hs
      simp only at hs ⊢
      have h3 : 3 ^ (i + 1) = 3 ^ i + 3 ^ i + 3 ^ i := by rw [Nat.pow_succ]; omega
      have h0 : 0 < 3 ^ i := Nat.pow_pos (by omega)
      have hp : ∀ c : Nat, c < i → 3 ^ (c + 1) ≤ 3 ^ i := fun c hc => Nat.pow_le_pow_right (by omega) (by omega)
      by_cases h2 : op = 2
      · have ea : a = (a.toNat : Int) := by omega
        have := hp a.toNat (by omega)
        obtain ⟨o, m, e1, e2, e3, e4⟩ := law hv f a.toNat (!neg) out (by omega) (by omega) (by omega)
        rw [if_pos h2, show (op == 2) = true by simpa using h2, cond_true]
        rw [← ea] at e1
        rw [e1]
        exact ⟨o, m, rfl, e2, e3, by omega⟩
      · rw [if_neg h2, show (op == 2) = false by simpa using h2, cond_false]
        by_cases h1 : op ≤ 1
        · rw [if_pos h1]
          have q1 := put_len out (op, n, a, b)
          have q2 := put_len (put out (op, n, a, b)).1 (2, 0, ((put out (op, n, a, b)).2 : Int), ((put out (op, n, a, b)).2 : Int))
          have l1 := impl_pushing_put.law (op, n, a, b) xs out (big24_le (by omega))
          have l2 := impl_pushing_put.law (2, 0, ((put out (op, n, a, b)).2 : Int), ((put out (op, n, a, b)).2 : Int)) xs (put out (op, n, a, b)).1 (big24_le (by omega))
          have h01 : op = 0 ∨ op = 1 := by omega
          refine ⟨(if neg then put (put out (op, n, a, b)).1 (2, 0, ((put out (op, n, a, b)).2 : Int), ((put out (op, n, a, b)).2 : Int)) else put out (op, n, a, b)).1, ((if neg then put (put out (op, n, a, b)).1 (2, 0, ((put out (op, n, a, b)).2 : Int), ((put out (op, n, a, b)).2 : Int)) else put out (op, n, a, b)).2 : Nat), ?_, fun _ => ⟨rfl, rfl⟩, fun h => h, ?_⟩
          · have hone : ∀ y, y = (bif neg then Option.bind (impl_pushing_put.impl ((2, 0, ((put out (op, n, a, b)).2 : Int), ((put out (op, n, a, b)).2 : Int)), xs, (put out (op, n, a, b)).1, ())) fun y2 => some (y2.1, y2.2.1, y2.2.2.1, ()) else some (((put out (op, n, a, b)).2 : Int), xs, (put out (op, n, a, b)).1, ())) → y = (some ((((if neg then put (put out (op, n, a, b)).1 (2, 0, ((put out (op, n, a, b)).2 : Int), ((put out (op, n, a, b)).2 : Int)) else put out (op, n, a, b)).2 : Nat) : Int), xs, (if neg then put (put out (op, n, a, b)).1 (2, 0, ((put out (op, n, a, b)).2 : Int), ((put out (op, n, a, b)).2 : Int)) else put out (op, n, a, b)).1, ()) : Option PO) := by
              rintro y rfl
              cases neg with
              | true => rw [cond_true, l2]; rfl
              | false => rfl
            apply hone
            rcases h01 with rfl | rfl
            · rw [show ((0 : Int) == 0) = true by rfl, cond_true, l1, Option.bind_some]
            · rw [show ((1 : Int) == 0) = false by rfl, cond_false, show ((1 : Int) == 1) = true by rfl, cond_true, l1, Option.bind_some]
          · cases neg <;> simp only [if_true, Bool.false_eq_true, if_false] <;> omega
        · rw [if_neg h1, show (op == 0) = false by simp; omega, cond_false, show (op == 1) = false by simp; omega, cond_false]
          have ea : a = (a.toNat : Int) := by omega
          have eb : b = (b.toNat : Int) := by omega
          have g1 := hp a.toNat (by omega)
          have g2 := hp b.toNat (by omega)
          have q1 := push_len hv f a.toNat neg out (by omega) (by omega)
          have q2 := push_len hv f b.toNat neg (push xs f a.toNat neg out).1 (by omega) (by omega)
          obtain ⟨o1, m1, r1, r2, r3, r4⟩ := law hv f a.toNat neg out (by omega) (by omega) (by omega)
          obtain ⟨o2, m2, s1, s2, s3, s4⟩ := law hv f b.toNat neg o1 (by omega) (by omega) (by omega)
          rw [← ea] at r1
          rw [← eb] at s1
          have l17 : ∀ (x y : Int) (o : List I4), o.length ≤ big24 → L17 impl (neg, x, y, xs, op, n, a, b, o, ()) = some (((put o (if neg then turned op else op, 0, x, y)).2 : Int), xs, (put o (if neg then turned op else op, 0, x, y)).1, ()) := by
            intro x y o ho
            rw [L17_eq]; unfold F17
            cases neg with
            | true =>
              have : mapGet (.int .i64) (.int .i64) (mapPut (.int .i64) (.int .i64) (mapPut (.int .i64) (.int .i64) (mapPut (.int .i64) (.int .i64) (mapPut (.int .i64) (.int .i64) (mapPut (.int .i64) (.int .i64) [] (3 : Int) (4 : Int)) (4 : Int) (3 : Int)) (6 : Int) (7 : Int)) (7 : Int) (6 : Int)) (5 : Int) (5 : Int)) op = turned op := by
                have : op = 3 ∨ op = 4 ∨ op = 5 ∨ op = 6 ∨ op = 7 := by omega
                rcases this with rfl | rfl | rfl | rfl | rfl <;> rfl
              rw [this, cond_true, impl_pushing_put.law _ _ _ (big24_le ho)]
              rfl
            | false =>
              rw [cond_false, impl_pushing_put.law _ _ _ (big24_le ho)]
              rfl
          rw [L13_eq]; unfold F13
          rw [r1, Option.bind_some]
          by_cases h5 : op = 5
          · rw [if_pos h5, show (op != 5) = false by simpa using h5, cond_false]
            simp only
            rw [l17 _ _ _ (by omega)]
            refine ⟨_, _, rfl, fun h => ?_, fun h => ?_, ?_⟩
            · have z := put_len (push xs f a.toNat neg out).1 (if neg then turned op else op, 0, ((push xs f a.toNat neg out).2 : Int), ((push xs f a.toNat neg out).2 : Int))
              obtain ⟨z1, z2⟩ := r2 (by omega)
              rw [z1, z2]
              exact ⟨rfl, rfl⟩
            · have z := put_len o1 (if neg then turned op else op, 0, m1, m1)
              rcases Nat.lt_or_ge 24 (push xs f a.toNat neg out).1.length with c | c
              · have := r3 c
                omega
              · obtain ⟨z1, z2⟩ := r2 c
                rw [z1, z2]; exact h
            · have z := put_len o1 (if neg then turned op else op, 0, m1, m1)
              omega
          · rw [if_neg h5, show (op != 5) = true by simpa using h5, cond_true]
            simp only
            rw [s1, Option.bind_some]
            simp only
            rw [l17 _ _ _ (by omega)]
            have z := put_len (push xs f b.toNat neg (push xs f a.toNat neg out).1).1 (if neg then turned op else op, 0, ((push xs f a.toNat neg out).2 : Int), ((push xs f b.toNat neg (push xs f a.toNat neg out).1).2 : Int))
            have z' := put_len o2 (if neg then turned op else op, 0, m1, m2)
            have mono : o1.length ≤ o2.length ∨ 24 < o1.length := by
              rcases Nat.lt_or_ge 24 o1.length with c | c
              · exact .inr c
              · refine .inl ?_
                have y1 := push_len hv f b.toNat neg o1 (by omega) (by omega)
                rcases Nat.lt_or_ge 24 (push xs f b.toNat neg o1).1.length with c2 | c2
                · have := s3 c2; omega
                · rw [(s2 c2).1]; omega
            refine ⟨_, _, rfl, fun h => ?_, fun h => ?_, by omega⟩
            · obtain ⟨z1, z2⟩ := r2 (by omega)
              rw [z1] at s2
              obtain ⟨z3, z4⟩ := s2 (by omega)
              rw [z2, z3, z4]
              exact ⟨rfl, rfl⟩
            · rcases Nat.lt_or_ge 24 (push xs f a.toNat neg out).1.length with c | c
              · have c2 := r3 c
                have y1 := push_len hv f b.toNat neg o1 (by omega) (by omega)
                have := s3 (by omega)
                omega
              · obtain ⟨z1, z2⟩ := r2 c
                rw [z1] at s2 s3
                rcases Nat.lt_or_ge 24 (push xs f b.toNat neg (push xs f a.toNat neg out).1).1.length with c2 | c2
                · have := s3 c2
                  omega
                · obtain ⟨z3, z4⟩ := s2 c2
                  rw [z2, z3, z4]; exact h
end impl_pushing_of

theorem push_last {xs : List I4} (hv : Steps xs) : ∀ f i neg out, i < f → i < xs.length → Closed out → Closed (push xs f i neg out).1 ∧ ((push xs f i neg out).1 = out ∨ (push xs f i neg out).2 + 1 = (push xs f i neg out).1.length)
  | 0, i, neg, out, hf, hi, hc => by omega
  | f + 1, i, neg, out, hf, hi, hc => by
    obtain ⟨facts, hs⟩ := hv i hi
    unfold push
    simp only
    generalize xs.getD i (0, 0, 0, 0) = t at hs
    obtain ⟨op, n, a, b⟩ := t
    unfold TimeStep at hs
    simp only at hs ⊢
    by_cases h2 : op = 2
    · rw [if_pos h2]
      exact push_last hv f a.toNat (!neg) out (by omega) (by omega) hc
    · rw [if_neg h2]
      by_cases h1 : op ≤ 1
      · rw [if_pos h1]
        have c1 := put_closed (t := (op, n, a, b)) hc (fun h => absurd (show (2 : Int) ≤ op from h) (by omega))
        have q1 := put_len out (op, n, a, b)
        have p1 := put_last out (op, n, a, b)
        by_cases hn : neg
        · rw [if_pos hn]
          refine ⟨put_closed c1 (fun _ => ⟨by simp only; omega, by simp only; omega⟩), ?_⟩
          rcases p1 with p1 | p1
          · rw [p1]; exact put_last _ _
          · exact .inr (put_new c1 (by simp) (.inl (by simp only; omega))).1
        · rw [if_neg hn]; exact ⟨c1, p1⟩
      · rw [if_neg h1]
        have hop : (2 : Int) ≤ if neg then turned op else op := by
          split
          · unfold turned
            split
            · omega
            · split
              · omega
              · split
                · omega
                · split <;> omega
          · omega
        obtain ⟨c1, p1⟩ := push_last hv f a.toNat neg out (by omega) (by omega) hc
        have q1 := push_len hv f a.toNat neg out (by omega) (by omega)
        by_cases h5 : op = 5
        · rw [if_pos h5]
          refine ⟨put_closed c1 (fun _ => ⟨by simp only; omega, by simp only; omega⟩), ?_⟩
          rcases p1 with p1 | p1
          · rw [p1]; exact put_last _ _
          · exact .inr (put_new c1 hop (.inl (by simp only; omega))).1
        · rw [if_neg h5]
          obtain ⟨c2, p2⟩ := push_last hv f b.toNat neg (push xs f a.toNat neg out).1 (by omega) (by omega) c1
          have q2 := push_len hv f b.toNat neg (push xs f a.toNat neg out).1 (by omega) (by omega)
          refine ⟨put_closed c2 (fun _ => ⟨by simp only; omega, by simp only; omega⟩), ?_⟩
          rcases p2 with p2 | p2
          · rw [p2]
            rcases p1 with p1 | p1
            · rw [p1]; exact put_last _ _
            · refine .inr (put_new c1 hop (.inl ?_)).1
              simp only; omega
          · exact .inr (put_new c2 hop (.inr (by simp only; omega))).1

theorem steps_of {xs : List I4} {facts : Int} (h : timesOK xs facts = true) : Steps xs ∧ 1 ≤ xs.length ∧ xs.length ≤ 24 := by
  unfold timesOK at h
  simp only [Bool.and_eq_true, in3_iff, range_all, decide_eq_true_eq] at h
  exact ⟨fun i hi => ⟨facts, h.2.2 i hi⟩, by omega, by omega⟩
/-- what is pushed -/
def pushed (xs : List I4) (facts : Int) : List I4 :=
  if timesOK xs facts = true then (if 24 < (push xs xs.length (xs.length - 1) false []).1.length then [] else (push xs xs.length (xs.length - 1) false []).1) else []
theorem push_all {xs : List I4} {facts : Int} (h : timesOK xs facts = true) : (push xs xs.length (xs.length - 1) false []).2 + 1 = (push xs xs.length (xs.length - 1) false []).1.length := by
  obtain ⟨hs, h1, h2⟩ := steps_of h
  have e1 := push_last hs xs.length (xs.length - 1) false [] (by omega) (by omega) (fun j hj => absurd hj (by simp))
  have e2 := push_len hs xs.length (xs.length - 1) false [] (by omega) (by omega)
  rcases e1.2 with e | e
  · rw [e] at e2; simp at e2
  · exact e
theorem push_big {xs : List I4} {facts : Int} (h : timesOK xs facts = true) : 0 + 3 ^ (xs.length - 1 + 1) ≤ big24 := by
  obtain ⟨hs, h1, h2⟩ := steps_of h
  unfold big24
  have : 3 ^ (xs.length - 1 + 1) ≤ 3 ^ 24 := Nat.pow_le_pow_right (by omega) (by omega)
  omega

namespace spec_Pushed
theorem law (xs : List I4) (facts : Int) : impl (xs, facts, ()) = some (pushed xs facts, ()) := by
  rw [impl_eq]; unfold F0
  rw [spec_TimesValid.law, Option.bind_some]
  unfold pushed
  cases h : timesOK xs facts with
  | false => rfl
  | true =>
    obtain ⟨hs, h1, h2⟩ := steps_of h
    have e := push_all h
    have b := push_len hs xs.length (xs.length - 1) false [] (by omega) (by omega)
    have big := push_big h
    have big' : 3 ^ 24 ≤ 1000000000000 := by decide
    unfold big24 at big
    simp only [List.length_nil] at b
    simp only [Bool.not_true, cond_false, if_true]
    rw [wI_small (n := (xs.length : Int) - 1) (by omega) (by omega), show (xs.length : Int) - 1 = ((xs.length - 1 : Nat) : Int) by omega, spec_l20Push.law hs xs.length (xs.length - 1) false [] (by omega) (by omega) (push_big h), Option.bind_some]
    simp only
    rw [wI_small (by omega) (by omega)]
    by_cases hbig : 24 < (push xs xs.length (xs.length - 1) false []).1.length
    · rw [if_pos hbig, decide_eq_true (by omega), cond_true]
    · rw [if_neg hbig, decide_eq_false (by omega), cond_false]
      rw [decide_eq_true (by omega), decide_eq_true (by omega)]
      simp only [Bool.and_self, cond_true, List.drop_zero, Nat.sub_zero]
      rw [List.take_of_length_le (by omega)]
end spec_Pushed
namespace impl_Pushed
theorem law (xs : List I4) (facts : Int) : impl (xs, facts, ()) = some (pushed xs facts, ()) := by
  rw [impl_eq]; unfold F0
  rw [impl_TimesValid.law, Option.bind_some]
  unfold pushed
  cases h : timesOK xs facts with
  | false => rfl
  | true =>
    obtain ⟨hs, h1, h2⟩ := steps_of h
    have e := push_all h
    simp only [Bool.not_true, cond_false, if_true]
    obtain ⟨o, n, l1, l2, l3, l4⟩ := impl_pushing_of.law hs xs.length (xs.length - 1) false [] (by omega) (by omega) (push_big h)
    rw [wI_small (n := (xs.length : Int) - 1) (by omega) (by omega), show (xs.length : Int) - 1 = ((xs.length - 1 : Nat) : Int) by omega, l1, Option.bind_some]
    simp only
    by_cases hbig : 24 < (push xs xs.length (xs.length - 1) false []).1.length
    · have := l3 hbig
      rw [if_pos hbig, decide_eq_true (by omega), cond_true]
    · obtain ⟨z1, z2⟩ := l2 (by omega)
      rw [if_neg hbig, z1, z2, decide_eq_false (by omega), cond_false, wI_small (by omega) (by omega)]
      rw [decide_eq_true (by omega), decide_eq_true (by omega)]
      simp only [Bool.and_self, cond_true, List.drop_zero, Nat.sub_zero]
      rw [List.take_of_length_le (by omega), impl_clone_of.law _ (by omega)]
      rfl
end impl_Pushed
theorem pushed_len (xs : List I4) (facts : Int) : (pushed xs facts).length ≤ 24 := by
  unfold pushed
  split
  · split
    · simp
    · omega
  · simp
/-! ### decimals -/
theorem itoa_len (n : Int) (h1 : -9223372036854775808 ≤ n) (h2 : n ≤ 9223372036854775807) : (Lib.itoa n).length ≤ 20 := by
  have h3 : ∀ (k u : Nat), u < 10 ^ (k + 1) → Lib.nDigits u ≤ k + 1 := by
    intro k
    induction k with
    | zero => intro u hu; rw [Lib.nDigits_small (by omega)]; omega
    | succ k ih =>
      intro u hu
      by_cases hs : u < 10
      · rw [Lib.nDigits_small hs]; omega
      · rw [Lib.nDigits_big hs]
        have := ih (u / 10) (by rw [Nat.pow_succ] at hu; omega)
        omega
  have key : ∀ u : Nat, u < 10 ^ 19 → (Lib.decDigits u).length ≤ 19 := fun u hu => by
    rw [Lib.decDigits_length]
    exact h3 18 u hu
  unfold Lib.itoa
  split
  · have := key n.natAbs (by omega)
    simp; omega
  · have := key n.toNat (by omega)
    omega
namespace spec_l40Dec
theorem dig (d : Nat) (h : d < 10) : strOf ([IntKind.u8.wrap (wI (48 + (d : Int)))] : List Int) = [UInt8.ofNat (48 + d)] := by
  have : ∀ d : Fin 10, strOf ([IntKind.u8.wrap (wI (48 + (d.val : Int)))] : List Int) = [UInt8.ofNat (48 + d.val)] := by decide +kernel
  exact this ⟨d, h⟩
theorem loop (G : PI → Option PO) : ∀ (k n : Nat) (acc : List UInt8), n < 10 ^ (k + 1) → n ≤ 9223372036854775807 → acc.length + k ≤ 1000 → L6 G ((n : Int), acc, ()) = some (Lib.decDigits n ++ acc, ())
  | k, n, acc, hn, hm, ha => by
    rw [L6_eq]; unfold F6
    by_cases h9 : n < 10
    · rw [decide_eq_false (show ¬ ((n : Int) > 9) by omega), cond_false, dig n h9, Lib.decDigits_one h9]
      rw [decide_eq_true (by simp; omega)]
      rfl
    · rw [decide_eq_true (show (n : Int) > 9 by omega), cond_true]
      have e1 : Int.tmod (n : Int) 10 = ((n % 10 : Nat) : Int) := rfl
      have e2 : wI (Int.tdiv (n : Int) 10) = ((n / 10 : Nat) : Int) := by
        rw [show Int.tdiv (n : Int) 10 = ((n / 10 : Nat) : Int) from rfl]
        exact wI_small (by omega) (by omega)
      rw [e1, e2, dig (n % 10) (by omega)]
      rw [decide_eq_true (by simp; omega), cond_true]
      match k, hn, ha with
      | 0, hn, _ => simp at hn; omega
      | k + 1, hn, ha =>
        rw [loop G k (n / 10) _ (by rw [Nat.pow_succ] at hn; omega) (by omega) (by simp; omega)]
        conv => rhs; rw [Lib.decDigits, dif_neg h9]
        simp
theorem pos (n : Int) (h0 : 0 ≤ n) (h2 : n ≤ 9223372036854775807) : impl (n, ()) = some (Lib.itoa n, ()) := by
  rw [impl_eq]; unfold F0
  rw [decide_eq_false (show ¬ n < -9223372036854775807 by omega), cond_false, decide_eq_false (show ¬ n < 0 by omega), cond_false]
  have := loop impl 19 n.toNat [] (by omega) (by omega) (by simp)
  rw [Int.toNat_of_nonneg h0] at this
  rw [this, Lib.itoa, if_neg (by omega), List.append_nil]
theorem law (n : Int) (h1 : -9223372036854775808 ≤ n) (h2 : n ≤ 9223372036854775807) : impl (n, ()) = some (Lib.itoa n, ()) := by
  by_cases h : n < 0
  · rw [impl_eq]; unfold F0
    by_cases hm : n < -9223372036854775807
    · rw [decide_eq_true hm, cond_true]
      have : n = -9223372036854775808 := by omega
      subst this
      have hd : Lib.decDigits 9223372036854775808 = [57, 50, 50, 51, 51, 55, 50, 48, 51, 54, 56, 53, 52, 55, 55, 53, 56, 48, 56] := by
        rw [Lib.decDigits_eq]; decide +kernel
      rw [Lib.itoa, if_pos (by omega), show (-9223372036854775808 : Int).natAbs = 9223372036854775808 from rfl, hd]
    · rw [decide_eq_false hm, cond_false, decide_eq_true h, cond_true]
      have e : wI (0 - n) = -n := by rw [wI_small (by omega) (by omega)]; omega
      rw [e, pos (-n) (by omega) (by omega), Option.bind_some]
      have hi : Lib.itoa (-n) = Lib.decDigits n.natAbs := by
        rw [Lib.itoa, if_neg (by omega)]
        congr 1
        omega
      have hl := itoa_len (-n) (by omega) (by omega)
      rw [decide_eq_true (by simp; omega), cond_true]
      rw [hi, Lib.itoa, if_pos h]
      rfl
  · exact pos n (by omega) h2
end spec_l40Dec
theorem itoa_law (n : Int) (h1 : -9223372036854775808 ≤ n) (h2 : n ≤ 9223372036854775807) : lib_Itoa.impl (n, ()) = some (Lib.itoa n, ()) := by
  show itoaI _ = _
  unfold itoaI
  rw [show (decide (-9223372036854775808 ≤ n) && decide (n ≤ 9223372036854775807)) = true by simp [h1, h2]]
  rfl
/-- what stands is short -/
def Short (out : List (List UInt8)) : Prop := ∀ x ∈ out, x.length ≤ 4000
theorem short_get {out : List (List UInt8)} (h : Short out) (i : Nat) : (out.getD i []).length ≤ 4000 := by
  rcases Nat.lt_or_ge i out.length with hi | hi
  · exact h _ (getD_mem hi)
  · rw [List.getD_eq_getElem?_getD, List.getElem?_eq_none hi]; simp
theorem short_snoc {out : List (List UInt8)} {s : List UInt8} (h : Short out) (hs : s.length ≤ 4000) : Short (out ++ [s]) := fun x hx => by
  rcases List.mem_append.1 hx with hx | hx
  · exact h x hx
  · rw [List.mem_singleton] at hx; subst hx; exact hs
/-- a row as it is filled from the left -/
def fill (out : List (List UInt8)) (n : Nat) : List (List UInt8) := out ++ List.replicate (n - out.length) []
theorem fill_length {out : List (List UInt8)} {n : Nat} (h : out.length ≤ n) : (fill out n).length = n := by unfold fill; simp; omega
theorem fill_set {out : List (List UInt8)} {n i : Nat} (h : out.length = i) (hi : i < n) (s : List UInt8) : (fill out n).set i s = fill (out ++ [s]) n := by
  subst h
  unfold fill
  rw [List.set_append_right _ _ (Nat.le_refl _), Nat.sub_self]
  obtain ⟨k, hk⟩ : ∃ k, n - out.length = k + 1 := ⟨n - out.length - 1, by omega⟩
  rw [hk, List.length_append, List.length_singleton, show n - (out.length + 1) = k by omega, List.replicate_succ, List.set_cons_zero, List.append_assoc]
  rfl
theorem fill_get {out : List (List UInt8)} {n j : Nat} (h : j < out.length) : (fill out n).getD j [] = out.getD j [] := by
  unfold fill
  rw [List.getD_eq_getElem?_getD, List.getElem?_append_left h, List.getD_eq_getElem?_getD]
theorem fill_last (out : List (List UInt8)) (s : List UInt8) (n : Nat) : (fill (out ++ [s]) n).getD out.length [] = s := by
  rw [fill_get (by simp)]
  simp [List.getD_eq_getElem?_getD]
/-! ### formulas of time are drawn -/
namespace spec_l20Draw
theorem law (facts later : Int) (code : List Int) (p : Int) (h : Src code p) (hp : p ≤ 1000) : ∃ list q, impl (facts, later, code, p, ()) = some (list, code, q, ()) ∧ 2 ≤ list.length ∧ list.length ≤ 8 ∧ p ≤ q ∧ q ≤ p + 50 := by
  have key : ∀ (k : Nat) (t2 q : Int) (r0 : List I4), k ≤ 8 → Src code q → q + 5 * (k : Int) ≤ 2100 → r0.length + k ≤ 8 → ∃ list q', L3 (facts, t2, (k : Int), code, q, r0, ()) = some (list, code, q', ()) ∧ list.length = r0.length + k ∧ q ≤ q' ∧ q' ≤ q + 5 * (k : Int) := by
    intro k
    induction k with
    | zero =>
      intro t2 q r0 _ _ _ _
      rw [L3_eq]; unfold F3
      exact ⟨r0, q, rfl, by simp, by omega, by omega⟩
    | succ k ih =>
      intro t2 q r0 hk hS hq hr
      have h0 := hS.2.2.1
      have fin : ∀ (t2' q1 : Int) (t : I4), q ≤ q1 → q1 ≤ q + 5 → ∃ list q', L3 (facts, t2', wI (((k + 1 : Nat) : Int) - 1), code, q1, r0 ++ [t], ()) = some (list, code, q', ()) ∧ list.length = r0.length + (k + 1) ∧ q ≤ q' ∧ q' ≤ q + 5 * ((k + 1 : Nat) : Int) := by
        intro t2' q1 t h1 h2
        rw [wI_small (by omega) (by omega), show ((k + 1 : Nat) : Int) - 1 = (k : Int) by omega]
        obtain ⟨l, q', e1, e2, e3, e4⟩ := ih t2' q1 (r0 ++ [t]) (by omega) (hS.at (by omega) (by omega)) (by omega) (by simp only [List.length_append, List.length_cons, List.length_nil]; omega)
        exact ⟨l, q', e1, by rw [e2]; simp only [List.length_append, List.length_cons, List.length_nil]; omega, by omega, by omega⟩
      have h8 : ∀ t9 q1 : Int, q ≤ q1 → q1 ≤ q + 1 → ∃ list q', L8 L3 (facts, t2, ((k + 1 : Nat) : Int), t9, code, q1, r0, ()) = some (list, code, q', ()) ∧ list.length = r0.length + (k + 1) ∧ q ≤ q' ∧ q' ≤ q + 5 * ((k + 1 : Nat) : Int) := by
        intro t9 q1 h1 h2
        obtain ⟨v1, p1, _, _⟩ := spec_l40Rd_pick.law facts code q1 (hS.at (by omega) (by omega)) (by omega)
        obtain ⟨v4, p4, _, _⟩ := spec_l40Rd_pick.law 2 code q1 (hS.at (by omega) (by omega)) (by omega)
        obtain ⟨v5, p5, _, _⟩ := spec_l40Rd_pick.law (r0.length : Int) code (q1 + 1) (hS.at (by omega) (by omega)) (by omega)
        obtain ⟨v6, p6, _, _⟩ := spec_l40Rd_pick.law (r0.length : Int) code (q1 + 1 + 1) (hS.at (by omega) (by omega)) (by omega)
        have fits : ∀ t : I4, decide ((r0.length + [t].length) * 32 ≤ 140737488355328) = true := fun t => decide_eq_true (by simp only [List.length_append, List.length_cons, List.length_nil]; omega)
        rw [L8_eq]; unfold F8
        simp only [p1, p4, p5, p6, Option.bind_some, spec_l20One.law, fits, cond_true]
        cases (r0.length : Int) == 0
        · cases decide (t9 ≤ 1)
          · cases (t9 == 2 || t9 == 5) <;> cases decide (t9 ≥ 5) <;> exact fin _ _ _ (by omega) (by omega)
          · cases facts == 0 <;> cases t9 == 0 <;> cases decide ((r0.length : Int) > 0) <;> exact fin _ _ _ (by omega) (by omega)
        · cases facts == 0 <;> cases t9 == 0 <;> cases decide ((r0.length : Int) > 0) <;> exact fin _ _ _ (by omega) (by omega)
      obtain ⟨v, _, pv⟩ := spec_l40Rd_num.law [1, 1, 2, 3, 4, 5, 6, 7, 6, 7, 0] code q (by simp) hS (by omega)
      rw [L3_eq]; unfold F3
      rw [decide_eq_true (show ((k + 1 : Nat) : Int) > 0 by omega), cond_true, pv, Option.bind_some]
      cases decide (v ≥ 5) <;> cases t2 == 0 <;> exact h8 _ _ (show q ≤ q + 1 by omega) (show q + 1 ≤ q + 1 by omega)
  obtain ⟨v, pv, _, hv⟩ := spec_l40Rd_pick.law 7 code p h (by omega)
  have hv := hv (by omega)
  have h0 := h.2.2.1
  obtain ⟨l, q, e1, e2, e3, e4⟩ := key (2 + v).toNat later (p + 1) [] (by omega) (h.at (by omega) (by omega)) (by omega) (by simp; omega)
  rw [impl_eq]; unfold F0
  rw [pv, Option.bind_some, wI_small (n := 2 + v) (by omega) (by omega)]
  rw [show (((2 + v).toNat : Nat) : Int) = 2 + v by omega] at e1
  simp only [List.length_nil] at e2
  exact ⟨l, q, e1, by omega, by omega, by omega, by omega⟩
end spec_l20Draw
namespace spec_l20Any
theorem law (facts later : Int) (code : List Int) (p : Int) (h : Src code p) (hp : p ≤ 1000) : ∃ list q, impl (facts, later, code, p, ()) = some (list, code, q, ()) ∧ list.length ≤ 8 ∧ p ≤ q ∧ q ≤ p + 60 := by
  have h0 := h.2.2.1
  obtain ⟨l, q, e1, e2, e3, e4, e5⟩ := spec_l20Draw.law facts later code p h hp
  have S : ∀ x : Int, q ≤ x → x ≤ q + 10 → Src code x := fun x h1 h2 => h.at (by omega) (by omega)
  obtain ⟨v1, p1, _, _⟩ := spec_l40Rd_pick.law 14 code q (S _ (by omega) (by omega)) (by omega)
  obtain ⟨v2, p2, _, g2⟩ := spec_l40Rd_pick.law (l.length : Int) code (q + 1) (S _ (by omega) (by omega)) (by omega)
  obtain ⟨v3, p3, _, _⟩ := spec_l40Rd_pick.law 4 code (q + 1 + 1) (S _ (by omega) (by omega)) (by omega)
  obtain ⟨v4, _, p4⟩ := spec_l40Rd_num.law [-1, 8, 2, 6] code (q + 1 + 1 + 1) (by simp) (S _ (by omega) (by omega)) (by omega)
  obtain ⟨v5, _, p5⟩ := spec_l40Rd_num.law [facts, -1, 1] code (q + 1 + 1 + 1) (by simp) (S _ (by omega) (by omega)) (by omega)
  obtain ⟨v6, _, p6⟩ := spec_l40Rd_num.law [v2, -1] code (q + 1 + 1 + 1) (by simp) (S _ (by omega) (by omega)) (by omega)
  obtain ⟨v7, _, p7⟩ := spec_l40Rd_num.law [v2, -1, 0] code (q + 1 + 1 + 1) (by simp) (S _ (by omega) (by omega)) (by omega)
  have g2 := g2 (by omega)
  rw [impl_eq]; unfold F0
  rw [e1, Option.bind_some]
  simp only [p1, p2, p3, p4, p5, p6, p7, Option.bind_some, inb_int g2.1 g2.2, cond_true]
  cases v1 == 0
  · exact ⟨_, _, rfl, by omega, by omega, by omega⟩
  · cases v3 == 0
    · cases v3 == 1
      · cases v3 == 2
        · exact ⟨_, _, rfl, by simp only [List.length_set]; omega, by omega, by omega⟩
        · exact ⟨_, _, rfl, by simp only [List.length_set]; omega, by omega, by omega⟩
      · exact ⟨_, _, rfl, by simp only [List.length_set]; omega, by omega, by omega⟩
    · exact ⟨_, _, rfl, by simp only [List.length_set]; omega, by omega, by omega⟩
end spec_l20Any
namespace spec_DrawTimesValid
theorem law (code : List Int) (hc : ∀ x ∈ code, 0 ≤ x ∧ x ≤ 255) : ∃ facts list, impl (code, ()) = some (facts, list, ()) ∧ list.length ≤ 8 := by
  obtain ⟨c, e1, S⟩ := spec_l40Open.law code hc
  obtain ⟨f, _, e2⟩ := spec_l40Rd_num.law [1, 2, 3, 0, 4] c 0 (by simp) S (by omega)
  obtain ⟨l, q, e3, h1, h2, h3⟩ := spec_l20Any.law f 4 c (0 + 1) (S.at (by omega) (by omega)) (by omega)
  obtain ⟨v, e4, _, _⟩ := spec_l40Rd_pick.law 30 c q (S.at (by omega) (by omega)) (by omega)
  obtain ⟨f2, _, e5⟩ := spec_l40Rd_num.law [5, -1] c (q + 1) (by simp) (S.at (by omega) (by omega)) (by omega)
  rw [impl_eq]; unfold F0
  simp only [e1, e2, e3, e4, e5, Option.bind_some]
  cases v == 0
  · exact ⟨_, _, rfl, by omega⟩
  · exact ⟨_, _, rfl, by omega⟩
end spec_DrawTimesValid
namespace spec_DrawPushed
theorem law (code : List Int) (hc : ∀ x ∈ code, 0 ≤ x ∧ x ≤ 255) : ∃ facts list, impl (code, ()) = some (facts, list, ()) ∧ list.length ≤ 8 := by
  obtain ⟨f, l, e, h⟩ := spec_DrawTimesValid.law code hc
  rw [impl_eq]; unfold F0
  rw [e]
  exact ⟨_, _, rfl, h⟩
end spec_DrawPushed
/-! ### how a formula of time is written -/
def timeSign (op : Int) : List UInt8 := if op = 3 then [38] else if op = 4 then [124] else if op = 6 then [85] else [82]
def timeText (out : List (List UInt8)) (t : I4) : List UInt8 :=
  if t.1 = 0 then [116, 114, 117, 101] else if t.1 = 1 then [102] ++ Lib.itoa t.2.1 else if t.1 = 2 then [33] ++ out.getD t.2.2.1.toNat [] else if t.1 = 5 then [88, 32] ++ out.getD t.2.2.1.toNat []
  else [40] ++ out.getD t.2.2.1.toNat [] ++ [32] ++ timeSign t.1 ++ [32] ++ out.getD t.2.2.2.toNat [] ++ [41]
def timeGo : List I4 → List (List UInt8) → List UInt8
  | [], out => out.getD (out.length - 1) []
  | t :: r, out => if 4000 < (timeText out t).length then [] else timeGo r (out ++ [timeText out t])
def timesText (xs : List I4) (facts : Int) : List UInt8 := if timesOK xs facts = true then timeGo xs [] else []
namespace spec_l20Sign
theorem law (op : Int) (h0 : 0 ≤ op) (h7 : op ≤ 7) : impl (op, ()) = some (if op = 0 then [116, 114, 117, 101] else if op = 1 then [] else if op = 2 then [33] else if op = 5 then [88, 32] else timeSign op, ()) := by
  rw [impl_eq]
  have : op = 0 ∨ op = 1 ∨ op = 2 ∨ op = 3 ∨ op = 4 ∨ op = 5 ∨ op = 6 ∨ op = 7 := by omega
  rcases this with rfl | rfl | rfl | rfl | rfl | rfl | rfl | rfl <;> rfl
end spec_l20Sign
theorem timeSign_len (op : Int) : (timeSign op).length = 1 := by unfold timeSign; grind
theorem times_at {xs : List I4} {facts : Int} (h : timesOK xs facts = true) : (0 ≤ facts ∧ facts ≤ 4) ∧ 1 ≤ xs.length ∧ xs.length ≤ 24 ∧ ∀ i, i < xs.length → TimeStep (xs.getD i (0, 0, 0, 0)) i facts := by
  unfold timesOK at h
  simp only [Bool.and_eq_true, in3_iff, range_all, decide_eq_true_eq] at h
  exact ⟨h.1, by omega, by omega, fun i hi => h.2.2 i hi⟩
namespace spec_TimesText
theorem law (xs : List I4) (facts : Int) : impl (xs, facts, ()) = some (timesText xs facts, ()) := by
  rw [impl_eq]; unfold F0 timesText
  rw [spec_TimesValid.law, Option.bind_some]
  by_cases ht : timesOK xs facts = true
  rotate_left
  · simp [ht]
  obtain ⟨hf, hl1, hl2, hv⟩ := times_at ht
  have key := up_list (S := List (List UInt8)) xs (0, 0, 0, 0) (fun i out => out.length = i ∧ Short out) (fun i out => L5 (xs, (i : Int), out, ())) (fun i r out => some (timeGo r out, ())) (by
    intro out hout
    rw [L5_eq]; unfold F5; simp (disch := omega) only [inb_nat, cast_lt, Int.toNat_natCast, wI_succ]
    rw [wI_small (by omega) (by omega), inb_int (i := (out.length : Int) - 1) (n := out.length) (by omega) (by omega), show ((out.length : Int) - 1).toNat = out.length - 1 by omega]
    simp [timeGo]) (by
    intro i out hi hout ih
    have hT := hv i hi
    obtain ⟨hlen, hsh⟩ := hout
    have h15 : ∀ s : List UInt8, s = timeText out (xs.getD i (0, 0, 0, 0)) → L15 L5 (xs, (i : Int), s, out, ()) = some (timeGo (xs.getD i (0, 0, 0, 0) :: xs.drop (i + 1)) out, ()) := by
      intro s hs
      rw [L15_eq]; unfold F15 timeGo; simp (disch := omega) only [inb_nat, cast_lt, Int.toNat_natCast, wI_succ]
      rw [← hs]
      by_cases h4 : 4000 < s.length
      · grind
      · have := ih (out ++ [s]) ⟨by simp only [List.length_append, List.length_cons, List.length_nil]; omega, short_snoc hsh (by omega)⟩
        rw [if_neg h4, ← this]
        simp (disch := omega) only [decide_eq_true, decide_eq_false, cond_true, cond_false, Option.bind_some, Option.bind_none, List.length_append, List.length_cons, List.length_nil]
    rw [L5_eq]; unfold F5; rw [Int.toNat_natCast]
    have hA := short_get hsh (xs.getD i (0, 0, 0, 0)).2.2.1.toNat
    have hB := short_get hsh (xs.getD i (0, 0, 0, 0)).2.2.2.toNat
    unfold timeText at h15
    generalize xs.getD i (0, 0, 0, 0) = t at hT h15 hA hB ⊢
    obtain ⟨op, n, a, b⟩ := t
    unfold TimeStep at hT
    simp only at hT h15 hA hB ⊢
    simp (disch := omega) only [inb_nat, cast_lt, Int.toNat_natCast, wI_succ]
    rw [decide_eq_true hi, cond_true, cond_true, spec_l20Sign.law op (by omega) (by omega), Option.bind_some]
    rcases hT with ⟨rfl, hn⟩ | ⟨rfl, hn1, hn2, _⟩ | ⟨h2, h9, _, ha0, ha, hb0, hb, hab⟩
    · rw [show ((0 : Int) == 1) = false from rfl, cond_false, spec_l20One.law, Option.bind_some]
      exact h15 [116, 114, 117, 101] (by simp)
    · have il := itoa_len n (by omega) (by omega)
      rw [show ((1 : Int) == 1) = true from rfl, cond_true, spec_l40Dec.law n (by omega) (by omega), Option.bind_some, decide_eq_true (by simp only [List.length_append, List.length_cons, List.length_nil]; omega), cond_true]
      exact h15 _ (by simp)
    · rw [show (op == 1) = false by simp; omega, cond_false, spec_l20One.law, Option.bind_some]
      by_cases h25 : op = 2 ∨ op = 5
      · rw [show (op == 2 || op == 5) = true by simpa using h25, cond_true, inb_int (by omega) (by omega), cond_true]
        rcases h25 with rfl | rfl
        · change (bif decide (([33] : List UInt8).length + (out.getD a.toNat []).length ≤ 140737488355328) then L15 L5 (xs, (i : Int), [33] ++ out.getD a.toNat [], out, ()) else none) = _
          rw [decide_eq_true (by simp only [List.length_append, List.length_cons, List.length_nil]; omega), cond_true]
          exact h15 _ (by simp)
        · change (bif decide (([88, 32] : List UInt8).length + (out.getD a.toNat []).length ≤ 140737488355328) then L15 L5 (xs, (i : Int), [88, 32] ++ out.getD a.toNat [], out, ()) else none) = _
          rw [decide_eq_true (by simp only [List.length_append, List.length_cons, List.length_nil]; omega), cond_true]
          exact h15 _ (by simp)
      · rw [show (op == 2 || op == 5) = false by simpa using h25, cond_false, decide_eq_true (show op > 1 by omega), cond_true, L14_eq]; unfold F14
        have hs := timeSign_len op
        rw [if_neg (by omega), if_neg (by omega), if_neg (by omega), if_neg (by omega)] at h15 ⊢
        rw [inb_int (by omega) (by omega), inb_int (by omega) (by omega)]
        simp (disch := omega) only [decide_eq_true, decide_eq_false, cond_true, cond_false, Option.bind_some, Option.bind_none, List.length_append, List.length_cons, List.length_nil]
        exact h15 _ rfl)
  have h := key [] ⟨rfl, fun _ h => by cases h⟩
  have h' : L5 (xs, 0, [], ()) = _ := h
  simp [ht, h']
end spec_TimesText
namespace impl_TimesText
theorem law (xs : List I4) (facts : Int) : impl (xs, facts, ()) = some (timesText xs facts, ()) := by
  rw [impl_eq]; unfold F0 timesText
  rw [impl_TimesValid.law, Option.bind_some]
  by_cases ht : timesOK xs facts = true
  rotate_left
  · simp [ht]
  obtain ⟨hf, hl1, hl2, hv⟩ := times_at ht
  have key := up_list (S := List (List UInt8)) xs (0, 0, 0, 0) (fun i out => out.length = i ∧ Short out) (fun i out => L5 (xs, (xs.length : Int), (i : Int), fill out xs.length, ())) (fun i r out => some (timeGo r out, ())) (by
    intro out hout
    obtain ⟨hlen, hsh⟩ := hout
    rw [L5_eq]; unfold F5; simp (disch := omega) only [inb_nat, cast_lt, Int.toNat_natCast, wI_succ]
    rw [decide_eq_false (Nat.lt_irrefl _), cond_false, fill_length (by omega), wI_small (by omega) (by omega), inb_int (i := (xs.length : Int) - 1) (n := xs.length) (by omega) (by omega), show ((xs.length : Int) - 1).toNat = out.length - 1 by omega, fill_get (by omega), cond_true]
    simp [timeGo]) (by
    intro i out hi hout ih
    have hT := hv i hi
    obtain ⟨hlen, hsh⟩ := hout
    have hfl := fill_length (out := out) (n := xs.length) (by omega)
    have h16 : ∀ s : List UInt8, s = timeText out (xs.getD i (0, 0, 0, 0)) → (bif decide (i < xs.length) then bif decide (i < ((fill out xs.length).set i s).length) then bif decide (((((fill out xs.length).set i s).getD i []).length : Int) > 4000) then some ([], ()) else L5 (xs, (xs.length : Int), ((i + 1 : Nat) : Int), (fill out xs.length).set i s, ()) else none else none) = some (timeGo (xs.getD i (0, 0, 0, 0) :: xs.drop (i + 1)) out, ()) := by
      intro s hs
      rw [List.length_set, hfl, decide_eq_true hi, cond_true, cond_true, fill_set hlen hi, ← hlen, fill_last, hlen]
      unfold timeGo
      rw [← hs]
      by_cases h4 : 4000 < s.length
      · grind
      · have := ih (out ++ [s]) ⟨by simp only [List.length_append, List.length_cons, List.length_nil]; omega, short_snoc hsh (by omega)⟩
        rw [if_neg h4, ← this]
        simp (disch := omega) only [decide_eq_true, decide_eq_false, cond_true, cond_false, Option.bind_some, Option.bind_none, List.length_append, List.length_cons, List.length_nil]
    rw [L5_eq]; unfold F5; rw [Int.toNat_natCast]
    have hA := short_get hsh (xs.getD i (0, 0, 0, 0)).2.2.1.toNat
    have hB := short_get hsh (xs.getD i (0, 0, 0, 0)).2.2.2.toNat
    unfold timeText at h16
    generalize xs.getD i (0, 0, 0, 0) = t at hT h16 hA hB ⊢
    obtain ⟨op, n, a, b⟩ := t
    unfold TimeStep at hT
    simp only [hfl] at hT h16 hA hB ⊢
    simp (disch := omega) only [inb_nat, cast_lt, Int.toNat_natCast, wI_succ]
    simp only [hi, decide_true, cond_true] at h16 ⊢
    rcases hT with ⟨rfl, hn⟩ | ⟨rfl, hn1, hn2, _⟩ | ⟨h2, h9, _, ha0, ha, hb0, hb, hab⟩
    · exact h16 [116, 114, 117, 101] (by simp)
    · have il := itoa_len n (by omega) (by omega)
      rw [show ((1 : Int) == 0) = false from rfl, cond_false, show ((1 : Int) == 1) = true from rfl, cond_true, itoa_law n (by omega) (by omega), Option.bind_some, decide_eq_true (by simp only [List.length_append, List.length_cons, List.length_nil]; omega), cond_true]
      exact h16 ([102] ++ Lib.itoa n) (by simp)
    · have eA := fill_get (out := out) (n := xs.length) (j := a.toNat) (by omega)
      have eB := fill_get (out := out) (n := xs.length) (j := b.toNat) (by omega)
      rw [show (op == 0) = false by simp; omega, show (op == 1) = false by simp; omega, cond_false, cond_false]
      by_cases h7 : op = 2
      · subst h7
        rw [inb_int (by omega) (by omega), show ((2 : Int) == 2) = true from rfl, cond_true, cond_true, eA]
        rw [decide_eq_true (show ([33] : List UInt8).length + (out.getD a.toNat []).length ≤ 140737488355328 by simp only [List.length_append, List.length_cons, List.length_nil]; omega), cond_true]
        exact h16 ([33] ++ out.getD a.toNat []) (by simp)
      by_cases h5 : op = 5
      · subst h5
        rw [show ((5 : Int) == 2) = false from rfl, cond_false, inb_int (by omega) (by omega), show ((5 : Int) == 5) = true from rfl, cond_true, cond_true, eA]
        rw [decide_eq_true (show ([88, 32] : List UInt8).length + (out.getD a.toNat []).length ≤ 140737488355328 by simp only [List.length_append, List.length_cons, List.length_nil]; omega), cond_true]
        exact h16 ([88, 32] ++ out.getD a.toNat []) (by simp)
      · have hm : mapGet (.int .i64) .str (mapPut (.int .i64) .str (mapPut (.int .i64) .str (mapPut (.int .i64) .str (mapPut (.int .i64) .str [] 3 ([38] : List UInt8)) 4 ([124] : List UInt8)) 6 ([85] : List UInt8)) 7 ([82] : List UInt8)) op = timeSign op := by
          have : op = 3 ∨ op = 4 ∨ op = 6 ∨ op = 7 := by omega
          rcases this with rfl | rfl | rfl | rfl <;> rfl
        rw [show (op == 2) = false by simpa using h7, cond_false, show (op == 5) = false by simpa using h5, cond_false, hm, L9_eq]; unfold F9
        have hs := timeSign_len op
        rw [hfl, inb_int (by omega) (by omega), inb_int (by omega) (by omega), eA, eB]
        simp (disch := omega) only [inb_nat, cast_lt, Int.toNat_natCast, wI_succ]
        have h17 := h16 ([40] ++ out.getD a.toNat [] ++ [32] ++ timeSign op ++ [32] ++ out.getD b.toNat [] ++ [41]) (by rw [if_neg (by omega), if_neg (by omega), if_neg h7, if_neg h5])
        rw [← h17]
        simp only [hi, decide_true, cond_true]
        simp (disch := omega) only [decide_eq_true, decide_eq_false, cond_true, cond_false, Option.bind_some, Option.bind_none, List.length_append, List.length_cons, List.length_nil])
  have h := key [] ⟨rfl, fun _ h => by cases h⟩
  have h' : L5 (xs, (xs.length : Int), 0, (List.replicate xs.length [] : List (List UInt8)), ()) = _ := h
  have e0 : (decide (0 ≤ (xs.length : Int)) && decide ((xs.length : Int) ≤ (xs.length : Int)) && decide ((xs.length : Int) * 16 ≤ 140737488355328)) = true := by simp; omega
  rw [ht, e0]
  simpa [ht] using h'
end impl_TimesText
/-! ### what is pushed is in order, and nots stand on facts alone -/
def GoodT (facts : Int) (out : List I4) : Prop := ∀ i, i < out.length → TimeStep (out.getD i (0, 0, 0, 0)) i facts ∧ ((out.getD i (0, 0, 0, 0)).1 = 2 → (out.getD (out.getD i (0, 0, 0, 0)).2.2.1.toNat (0, 0, 0, 0)).1 ≤ 1)
theorem get_left {out : List I4} {t : I4} {i : Nat} (h : i < out.length) : (out ++ [t]).getD i (0, 0, 0, 0) = out.getD i (0, 0, 0, 0) := by
  rw [List.getD_eq_getElem?_getD, List.getElem?_append_left h, List.getD_eq_getElem?_getD]
theorem get_new {out : List I4} {t : I4} : (out ++ [t]).getD out.length (0, 0, 0, 0) = t := by simp [List.getD_eq_getElem?_getD]
theorem put_at (out : List I4) (t : I4) : (put out t).1.getD (put out t).2 (0, 0, 0, 0) = t := by
  unfold put
  by_cases h : atI out t < out.length
  · rw [if_pos h]; exact atI_get h
  · have := atI_le out t
    rw [if_neg h, show atI out t = out.length by omega]; exact get_new
theorem step_a {t : I4} {i facts : Int} (h : TimeStep t i facts) (h2 : t.1 = 2) : 0 ≤ t.2.2.1 ∧ t.2.2.1 < i := by
  unfold TimeStep at h; omega
theorem step_mk {op a b i facts : Int} (h2 : 2 ≤ op) (h7 : op ≤ 7) (ha : 0 ≤ a ∧ a ≤ i - 1) (hb : 0 ≤ b ∧ b ≤ i - 1) (he : op = 2 ∨ op = 5 → b = a) : TimeStep (op, 0, a, b) i facts := .inr (.inr ⟨h2, h7, rfl, ha.1, ha.2, hb.1, hb.2, he⟩)
theorem put_good {facts : Int} {out : List I4} {t : I4} (h : GoodT facts out) (ht : TimeStep t out.length facts) (hn : t.1 = 2 → (out.getD t.2.2.1.toNat (0, 0, 0, 0)).1 ≤ 1) : GoodT facts (put out t).1 := by
  unfold put
  by_cases hp : atI out t < out.length
  · rw [if_pos hp]; exact h
  · rw [if_neg hp]
    intro i hi
    simp only [List.length_append, List.length_cons, List.length_nil] at hi
    rcases Nat.lt_or_ge i out.length with c | c
    · rw [get_left c]
      obtain ⟨h1, h2⟩ := h i c
      refine ⟨h1, fun e => ?_⟩
      have := step_a h1 e
      rw [get_left (by omega)]
      exact h2 e
    · have : i = out.length := by omega
      subst this
      rw [get_new]
      refine ⟨ht, fun e => ?_⟩
      have := step_a ht e
      rw [get_left (by omega)]
      exact hn e
theorem push_good {xs : List I4} {facts : Int} (hv : ∀ i, i < xs.length → TimeStep (xs.getD i (0, 0, 0, 0)) i facts) : ∀ f i neg out, i < f → i < xs.length → GoodT facts out → GoodT facts (push xs f i neg out).1
  | 0, i, neg, out, hf, hi, hc => by omega
  | f + 1, i, neg, out, hf, hi, hc => by
    have hS : Steps xs := fun i hi => ⟨facts, hv i hi⟩
    have hs := hv i hi
    unfold push
    simp only
    generalize xs.getD i (0, 0, 0, 0) = t at hs
    obtain ⟨op, n, a, b⟩ := t
    unfold TimeStep at hs
    simp only at hs ⊢
    by_cases h2 : op = 2
    · rw [if_pos h2]
      exact push_good hv f a.toNat (!neg) out (by omega) (by omega) hc
    · rw [if_neg h2]
      by_cases h1 : op ≤ 1
      · rw [if_pos h1]
        have c1 := put_good (t := (op, n, a, b)) hc (by unfold TimeStep; simp only; omega) (fun h => absurd (show op = 2 from h) h2)
        have q1 := put_len out (op, n, a, b)
        have p1 := put_at out (op, n, a, b)
        by_cases hn : neg
        · rw [if_pos hn]
          refine put_good c1 (step_mk (by omega) (by omega) (by omega) (by omega) (fun _ => rfl)) (fun _ => ?_)
          simp only [Int.toNat_natCast, p1]
          exact h1
        · rw [if_neg hn]; exact c1
      · rw [if_neg h1]
        have hop : 3 ≤ (if neg then turned op else op) ∧ (if neg then turned op else op) ≤ 7 ∧ ((if neg then turned op else op) = 5 → op = 5) := by
          unfold turned; split <;> grind
        have c1 := push_good hv f a.toNat neg out (by omega) (by omega) hc
        have q1 := push_len hS f a.toNat neg out (by omega) (by omega)
        by_cases h5 : op = 5
        · rw [if_pos h5]
          exact put_good c1 (step_mk (by omega) (by omega) (by omega) (by omega) (fun _ => rfl)) (fun h => absurd (show (if neg then turned op else op) = 2 from h) (by omega))
        · rw [if_neg h5]
          have c2 := push_good hv f b.toNat neg (push xs f a.toNat neg out).1 (by omega) (by omega) c1
          have q2 := push_len hS f b.toNat neg (push xs f a.toNat neg out).1 (by omega) (by omega)
          exact put_good c2 (step_mk (by omega) (by omega) (by omega) (by omega) (fun h => by omega)) (fun h => absurd (show (if neg then turned op else op) = 2 from h) (by omega))
theorem pushed_good (xs : List I4) (facts : Int) : pushed xs facts = [] ∨ (timesOK (pushed xs facts) facts = true ∧ GoodT facts (pushed xs facts)) := by
  unfold pushed
  by_cases h : timesOK xs facts = true
  rotate_left
  · rw [if_neg h]; exact .inl rfl
  rw [if_pos h]
  obtain ⟨hf, hl1, hl2, hv⟩ := times_at h
  have g := push_good hv xs.length (xs.length - 1) false [] (by omega) (by omega) (fun i hi => absurd hi (by simp))
  have e := push_all h
  by_cases hb : 24 < (push xs xs.length (xs.length - 1) false []).1.length
  · rw [if_pos hb]; exact .inl rfl
  · rw [if_neg hb]
    refine .inr ⟨?_, g⟩
    unfold timesOK
    simp only [Bool.and_eq_true, in3_iff, range_all, decide_eq_true_eq]
    exact ⟨hf, by omega, fun i hi => (g i hi).1⟩
theorem u8_wf {n : Int} (h : (Lit.int .u8 n).wf = true) : 0 ≤ n ∧ n ≤ 255 := by
  simp only [Lit.wf, Bool.and_eq_true, decide_eq_true_eq] at h
  exact ⟨h.1, h.2⟩
namespace laws_FnPushed
theorem law (code : List Int) (hc : ∀ x ∈ code, 0 ≤ x ∧ x ≤ 255) : impl (code, ()) = some (true, ()) := by
  rw [impl_eq]; unfold F0
  by_cases hbig : (code.length : Int) > 1048576
  · rw [decide_eq_true hbig]; rfl
  rw [decide_eq_false hbig, cond_false]
  obtain ⟨facts, xs, e, hl⟩ := spec_DrawPushed.law code hc
  rw [e, Option.bind_some]
  simp only [impl_Pushed.law, spec_Pushed.law, Option.bind_some, bne_self_eq_false, cond_false, impl_TimesText.law, spec_TimesText.law, beq_self_eq_true, Bool.not_true]
  rw [L8_eq]; unfold F8
  have hg := pushed_good xs facts
  generalize pushed xs facts = out at hg
  rcases hg with rfl | ⟨h1, h2⟩
  · show L9 _ = _
    rw [L9_eq]; rfl
  · obtain ⟨_, hl1, hl2, _⟩ := times_at h1
    have key : ∀ d i, i + d = out.length → L9 (facts, (out.length : Int), (i : Int), out, ()) = some (true, ()) := by
      intro d
      induction d with
      | zero =>
        intro i hi
        have : i = out.length := by omega
        subst this
        rw [L9_eq]; unfold F9; simp (disch := omega) only [inb_nat, cast_lt, Int.toNat_natCast, wI_succ]
        rw [decide_eq_false (Nat.lt_irrefl _), cond_false, show ((out.length : Int) == 0) = false from beq_eq_false_iff_ne.2 (by omega), cond_false, impl_TimesValid.law, h1]; rfl
      | succ d ih =>
        intro i hi
        have hlt : i < out.length := by omega
        rw [L9_eq]; unfold F9; simp (disch := omega) only [inb_nat, cast_lt, Int.toNat_natCast, wI_succ]
        rw [decide_eq_true hlt, cond_true, cond_true]
        obtain ⟨g1, g2⟩ := h2 i hlt
        rw [ih (i + 1) (by omega)]
        by_cases h3 : (out.getD i (0, 0, 0, 0)).1 = 2
        · have := step_a g1 h3
          have g3 := g2 h3
          rw [show ((out.getD i (0, 0, 0, 0)).1 == 2) = true by simpa using h3, cond_true, inb_int (by omega) (by omega), cond_true, decide_eq_false (by omega), cond_false]
        · rw [show ((out.getD i (0, 0, 0, 0)).1 == 2) = false by simpa using h3, cond_false]
    exact key out.length 0 (by omega)
end laws_FnPushed
end Go.Proofs.YtambmmpilakgoaaDoorB
