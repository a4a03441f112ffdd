/- Plain lemmas on numbers, lists and loops that the plain laws use. No program in sight. -/
import Derived.Test.YtjjepjfjikefiaaB29
import Derived.Laws.BitsLemmas
set_option linter.unusedVariables false
namespace Go.Proofs.YtjjepjfjikefiaaB
open Go

abbrev I4 := Int × Int × Int × Int

theorem wI_small {n : Int} (h1 : -9223372036854775808 ≤ n) (h2 : n ≤ 9223372036854775807) : wI n = n := by
  unfold wI
  rw [IntKind.wrap_i64]
  omega

theorem inb_nat {i n : Nat} : inb (i : Int) n = decide (i < n) := by
  unfold inb
  by_cases h : i < n <;> simp [h]
theorem inb_true {i : Nat} {n : Nat} (h : i < n) : inb (i : Int) n = true := by rw [inb_nat]; simp [h]
theorem inb_int {i : Int} {n : Nat} (h0 : 0 ≤ i) (h : i < n) : inb i n = true := by unfold inb; simp [h0, h]
theorem inb_false {i : Int} {n : Nat} (h : ¬ (0 ≤ i ∧ i < n)) : inb i n = false := by
  unfold inb
  by_cases h0 : 0 ≤ i
  · simp; omega
  · simp; omega
theorem lt_len {i n : Nat} : decide ((i : Int) < (n : Int)) = decide (i < n) := by simp
theorem wI_succ {i : Nat} (h : i < 9223372036854775807) : wI ((i : Int) + 1) = ((i + 1 : Nat) : Int) := by rw [wI_small (by omega) (by omega)]; omega
theorem wI_pred {i : Nat} (h : i < 9223372036854775807) : wI ((i : Int) - 1) = (i : Int) - 1 := wI_small (by omega) (by omega)

theorem getD_eq {α : Type} {xs : List α} {i : Nat} {d : α} (h : i < xs.length) : xs.getD i d = xs[i] := by
  rw [List.getD_eq_getElem?_getD, List.getElem?_eq_getElem h]; rfl
theorem getD_mem {α : Type} {xs : List α} {i : Nat} {d : α} (h : i < xs.length) : xs.getD i d ∈ xs := by
  rw [getD_eq h]; exact List.getElem_mem h

/-- a loop that goes up, and may end early: what it answers, if each round is told -/
theorem up_all {R : Type} (L : Nat → Option R) (n : Nat) (p : Nat → Bool) (no yes : R) (hs : ∀ i, i < n → L i = bif p i then L (i + 1) else some no) (he : L n = some yes) :
    ∀ d i, i + d = n → L i = some (bif (List.range' i d).all p then yes else no)
  | 0, i, hi => by
    have : i = n := by omega
    subst this
    rw [he]; rfl
  | d + 1, i, hi => by
    rw [hs i (by omega), List.range'_succ, List.all_cons]
    cases hp : p i with
    | false => rfl
    | true => rw [cond_true, up_all L n p no yes hs he d (i + 1) (by omega), Bool.true_and]
theorem range_all {n : Nat} {p : Nat → Bool} : (List.range' 0 n).all p = true ↔ ∀ i, i < n → p i = true := by simp
theorem eq_all {α : Type} [DecidableEq α] {xs ys : List α} {d : α} (hl : xs.length = ys.length) : ((List.range' 0 xs.length).all fun i => decide (xs.getD i d = ys.getD i d)) = decide (xs = ys) := by
  rw [Bool.eq_iff_iff, range_all, decide_eq_true_eq]
  constructor
  · intro h
    apply List.ext_getElem hl
    intro i h1 h2
    have := h i h1
    rw [decide_eq_true_eq, getD_eq h1, getD_eq h2] at this
    exact this
  · rintro rfl; simp
theorem cond_ret {α : Type} {c : Bool} {x y : α} : (bif c then some (x, ()) else some (y, ())) = some (bif c then x else y, ()) := by cases c <;> rfl
theorem cond_bit {b : Bool} : (bif b then true else false) = b := by cases b <;> rfl
theorem cond_iff {c x y : Bool} : (bif c then x else y) = true ↔ (c = true ∧ x = true) ∨ (¬ c = true ∧ y = true) := by cases c <;> simp
theorem not_iff {c : Bool} : (!c) = true ↔ ¬ c = true := by cases c <;> simp
def in3 (x a b : Int) : Bool := decide (a ≤ x) && decide (x ≤ b)
theorem in3_iff {x a b : Int} : in3 x a b = true ↔ a ≤ x ∧ x ≤ b := by simp [in3]

/-- a loop that goes up and builds: from round i on -/
theorem up_fold {R S : Type} (L : Nat → S → Option R) (n : Nat) (f : Nat → S → S) (r : S → R) (I : Nat → S → Prop) (hs : ∀ i s, i < n → I i s → L i s = L (i + 1) (f i s)) (hI : ∀ i s, i < n → I i s → I (i + 1) (f i s)) (he : ∀ s, I n s → L n s = some (r s)) :
    ∀ d i s, i + d = n → I i s → ∃ s', I n s' ∧ L i s = some (r s')
  | 0, i, s, hi, h => by
    have : i = n := by omega
    subst this
    exact ⟨s, h, he s h⟩
  | d + 1, i, s, hi, h => by
    rw [hs i s (by omega) h]
    exact up_fold L n f r I hs hI he d (i + 1) _ (by omega) (hI i s (by omega) h)

theorem take_set {α : Type} {r xs : List α} {i : Nat} (d : α) (hr : r.length = xs.length) (hi : i < xs.length) (ht : r.take i = xs.take i) : (r.set i (xs.getD i d)).take (i + 1) = xs.take (i + 1) := by
  apply List.ext_getElem?
  intro j
  simp only [List.getElem?_take, List.getElem?_set]
  by_cases hj : j < i + 1
  · simp only [hj, if_true]
    by_cases hij : i = j
    · subst hij
      have h1 : i < r.length := by omega
      simp [h1, hi, List.getD_eq_getElem?_getD]
    · simp only [hij, if_false]
      have := congrArg (·[j]?) ht
      simp only [List.getElem?_take] at this
      simpa [show j < i by omega] using this
  · simp [hj]

/-- a copy that is made element by element -/
theorem up_copy {α R : Type} (xs : List α) (d : α) (g : α → α) (L : Nat → List α → Option R) (ret : List α → R) (hs : ∀ (i : Nat) (r : List α), i < xs.length → r.length = xs.length → L i r = L (i + 1) (r.set i (g (xs.getD i d)))) (he : ∀ r : List α, r.length = xs.length → L xs.length r = some (ret r)) (r : List α) (hr : r.length = xs.length) :
    L 0 r = some (ret (xs.map g)) := by
  have key : ∀ k i (r : List α), i + k = xs.length → r.length = xs.length → (∀ j, j < i → r[j]? = (xs.map g)[j]?) → L i r = some (ret (xs.map g)) := by
    intro k
    induction k with
    | zero =>
      intro i r hi hr h
      have : i = xs.length := by omega
      subst this
      rw [he r hr]
      congr 2
      apply List.ext_getElem?
      intro j
      rcases Nat.lt_or_ge j xs.length with hj | hj
      · exact h j hj
      · rw [List.getElem?_eq_none (by omega), List.getElem?_eq_none (by simpa using hj)]
    | succ k ih =>
      intro i r hi hr h
      rw [hs i r (by omega) hr]
      refine ih (i + 1) _ (by omega) (by simp [hr]) fun j hj => ?_
      rw [List.getElem?_set]
      by_cases e : i = j
      · subst e
        have h1 : i < r.length := by omega
        have h2 : i < xs.length := by omega
        simp [h1, h2, List.getD_eq_getElem?_getD]
      · rw [if_neg e]
        exact h j (by omega)
  exact key xs.length 0 r (by omega) hr fun j hj => by omega
/-! what is put -/
def atI (out : List I4) (t : I4) : Nat := out.findIdx fun x => decide (x = t)
def put (out : List I4) (t : I4) : List I4 × Nat := (if atI out t < out.length then out else out ++ [t], atI out t)
theorem atI_here {out : List I4} {t : I4} {i : Nat} (hi : i < out.length) (h : out.getD i (0, 0, 0, 0) = t) (hb : ∀ j, j < i → out.getD j (0, 0, 0, 0) ≠ t) : atI out t = i := by
  unfold atI
  rw [List.findIdx_eq hi]
  rw [getD_eq hi] at h
  refine ⟨by simp [h], fun j hj => ?_⟩
  have := hb j hj
  rw [getD_eq (by omega)] at this
  simp [this]
theorem atI_not {out : List I4} {t : I4} (hb : ∀ j, j < out.length → out.getD j (0, 0, 0, 0) ≠ t) : atI out t = out.length := by
  unfold atI
  rw [List.findIdx_eq_length]
  intro x hx
  obtain ⟨j, hj, rfl⟩ := List.getElem_of_mem hx
  have := hb j hj
  rw [getD_eq hj] at this
  simp [this]
theorem atI_le (out : List I4) (t : I4) : atI out t ≤ out.length := List.findIdx_le_length
theorem atI_get {out : List I4} {t : I4} (h : atI out t < out.length) : out.getD (atI out t) (0, 0, 0, 0) = t := by
  rw [getD_eq h]
  unfold atI at h ⊢
  have := List.findIdx_getElem (xs := out) (p := fun x => decide (x = t)) (w := h)
  simpa using this
theorem beq4 {x y : I4} : ((x.1 == y.1) && ((x.2.1 == y.2.1) && ((x.2.2.1 == y.2.2.1) && (x.2.2.2 == y.2.2.2)))) = decide (x = y) := by
  obtain ⟨a, b, c, d⟩ := x
  obtain ⟨a', b', c', d'⟩ := y
  rw [Bool.eq_iff_iff]
  simp

theorem put_len (out : List I4) (t : I4) : out.length ≤ (put out t).1.length ∧ (put out t).1.length ≤ out.length + 1 ∧ (put out t).2 < (put out t).1.length := by
  unfold put
  have := atI_le out t
  by_cases h : atI out t < out.length
  · simp [h]
  · simp [h]; omega

/-! the last step that is put is the last of all -/
def Closed (out : List I4) : Prop := ∀ j, j < out.length → 2 ≤ (out.getD j (0, 0, 0, 0)).1 → (out.getD j (0, 0, 0, 0)).2.2.1 < j ∧ (out.getD j (0, 0, 0, 0)).2.2.2 < j
theorem put_closed {out : List I4} {t : I4} (h : Closed out) (ht : 2 ≤ t.1 → t.2.2.1 < out.length ∧ t.2.2.2 < out.length) : Closed (put out t).1 := by
  unfold put
  by_cases hi : atI out t < out.length
  · simpa [hi] using h
  · rw [if_neg hi]
    intro j hj h2
    simp only [List.length_append, List.length_cons, List.length_nil] at hj
    rcases Nat.lt_or_ge j out.length with c | c
    · have e : (out ++ [t]).getD j (0, 0, 0, 0) = out.getD j (0, 0, 0, 0) := by simp [List.getD_eq_getElem?_getD, List.getElem?_append_left c]
      rw [e] at h2 ⊢
      exact h j c h2
    · have : j = out.length := by omega
      subst this
      have e : (out ++ [t]).getD out.length (0, 0, 0, 0) = t := by simp [List.getD_eq_getElem?_getD]
      rw [e] at h2 ⊢
      exact ht h2
/-- a step on steps of which one is the last of all is new -/
theorem put_new {out : List I4} {t : I4} (h : Closed out) (h2 : 2 ≤ t.1) (ht : t.2.2.1 + 1 = out.length ∨ t.2.2.2 + 1 = out.length) : (put out t).2 + 1 = (put out t).1.length ∧ out.length < (put out t).1.length := by
  have hn : ¬ atI out t < out.length := by
    intro hi
    have e := atI_get hi
    have := h _ hi (by rw [e]; exact h2)
    rw [e] at this
    omega
  have := atI_le out t
  unfold put
  rw [if_neg hn]
  simp; omega
theorem put_last (out : List I4) (t : I4) : (put out t).1 = out ∨ (put out t).2 + 1 = (put out t).1.length := by
  unfold put
  have := atI_le out t
  by_cases hi : atI out t < out.length
  · exact .inl (if_pos hi)
  · exact .inr (by rw [if_neg hi]; simp; omega)

/-! a chain of steps that are put: as long as nothing is new, all is as it was; else one that nothing was made of is the last of all -/
theorem put_keep {out s : List I4} {t : I4} (h : Closed out) (h2 : 2 ≤ t.1) (hs : out = s ∨ t.2.2.1 + 1 = out.length ∨ t.2.2.2 + 1 = out.length) : (put out t).1 = s ∨ ((put out t).2 : Int) + 1 = (put out t).1.length := by
  rcases hs with hs | hs
  · rcases put_last out t with p | p
    · exact .inl (p.trans hs)
    · exact .inr (by omega)
  · have := put_new h h2 hs
    exact .inr (by omega)
theorem put_two {out s : List I4} {t : I4} {x : Int} (h : Closed out) (hs : out = s ∨ (2 ≤ t.1 ∧ (t.2.2.1 + 1 = out.length ∨ t.2.2.2 + 1 = out.length)) ∨ x + 1 = out.length) : (put out t).1 = s ∨ ((put out t).2 : Int) + 1 = (put out t).1.length ∨ x + 1 = (put out t).1.length := by
  rcases hs with hs | hs | hs
  · rcases put_last out t with p | p
    · exact .inl (p.trans hs)
    · exact .inr (.inl (by omega))
  · have := put_new h hs.1 hs.2
    exact .inr (.inl (by omega))
  · rcases put_last out t with p | p
    · exact .inr (.inr (by rw [p]; exact hs))
    · exact .inr (.inl (by omega))

/-! ### marks -/
def mark4 (k i : Nat) : I4 := ((k : Int) + 4 * i, (k : Int) + 4 * i + 1, (k : Int) + 4 * i + 2, (k : Int) + 4 * i + 3)
def marks (k i n : Nat) : List I4 := (List.range' i n).map (mark4 k)
@[simp] theorem marks_length {k i n : Nat} : (marks k i n).length = n := by simp [marks]
theorem marks_succ {k n : Nat} : marks k 0 (n + 1) = marks k 0 n ++ [mark4 k n] := by simp [marks, List.range'_concat]
theorem marks_get {k i n j : Nat} {d : I4} (h : j < n) : (marks k i n).getD j d = mark4 k (i + j) := by
  rw [getD_eq (by simpa using h)]
  simp [marks]
end Go.Proofs.YtjjepjfjikefiaaB
