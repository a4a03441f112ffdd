/- The plain law of PaperSays: what the functions compute, in plain Lean. -/
import Derived.Test.YtgagmcbeobkfoaaKFnExactPaperSays
import Derived.Test.YtgagmcbeobkfoaaB28
import Derived.Laws.BitsLemmas
set_option linter.unusedVariables false
namespace Go.Proofs.YtgagmcbeobkfoaaB
open Go

theorem wI_small {n : Int} (h1 : -9223372036854775808 ≤ n) (h2 : n ≤ 9223372036854775807) : wI n = n := by
  unfold wI
  rw [IntKind.wrap_i64]
  omega

namespace laws_szIntS
theorem law (xs : List Int) (l : Int) (h0 : 0 ≤ l) (hl : l ≤ 1048576) (hx : xs.length ≤ maxLen) : impl (xs, l, ()) = some (if l - xs.length < 0 then -1 else l - xs.length, ()) := by
  have : wI (l - xs.length) = l - xs.length := wI_small (by simp [maxLen] at hx; omega) (by omega)
  show F0 xs l = _
  unfold F0
  rw [this]
  by_cases h : l - (xs.length : Int) < 0 <;> simp [h]
end laws_szIntS

namespace laws_toIntS
theorem mono : OMono fun J3 (x : p3.T) => F3 J3 x.1 x.2.1 x.2.2.1 := by
  intro J J' h x
  show OptLe _ _
  unfold F3
  exact .cond (.cond (.cond (.of h _) (.refl _)) (.refl _)) (.refl _)
theorem loop (xs : List Int) (hx : xs.length ≤ 1048576) : ∀ (n i : Nat) (r : List Int), n + i = xs.length → r.length = xs.length → r.take i = xs.take i → L3 (xs, (i : Int), r, ()) = some (xs, ())
  | 0, i, r, hn, hr, ht => by
    unfold L3; rw [lfp_eq mono]; show F3 _ xs i r = _
    unfold F3
    have : ¬ ((i : Int) < xs.length) := by omega
    simp only [this, decide_false, cond_false]
    rw [List.take_of_length_le (by omega), List.take_of_length_le (by omega)] at ht
    rw [ht]
  | n + 1, i, r, hn, hr, ht => by
    have ih := loop xs hx n (i + 1) (r.set i (xs.getD i 0)) (by omega) (by simp [hr]) (by
      apply List.ext_getElem?
      intro j
      simp only [List.getElem?_take, List.getElem?_set]
      by_cases hj : j < i + 1
      · simp only [hj, if_true]
        by_cases hij : i = j
        · subst hij
          have h1 : i < r.length := by omega
          have h2 : i < xs.length := by omega
          simp [h1, h2, List.getD_eq_getElem?_getD]
        · simp only [hij, if_false]
          have := congrArg (·[j]?) ht
          simp only [List.getElem?_take] at this
          simpa [show j < i by omega] using this
      · simp [hj])
    unfold L3 at ih ⊢
    rw [lfp_eq mono]; show F3 _ xs i r = _
    unfold F3
    have h1 : (i : Int) < xs.length := by omega
    have h2 : wI ((i : Int) + 1) = ((i + 1 : Nat) : Int) := by rw [wI_small (by omega) (by omega)]; omega
    simp only [h1, inb, hr, decide_true, cond_true, h2, Int.toNat_natCast, show (0 : Int) ≤ (i : Int) by omega, Bool.and_true]
    exact ih
theorem law (xs : List Int) (hx : xs.length ≤ 1048576) : impl (xs, ()) = some (xs, ()) := by
  show F0 L3 xs = _
  unfold F0
  have : (decide (0 ≤ (xs.length : Int)) && decide ((xs.length : Int) ≤ (xs.length : Int)) && decide ((xs.length : Int) * 8 ≤ 140737488355328)) = true := by
    simp; omega
  rw [this]
  exact loop xs hx xs.length 0 _ (by omega) (by simp) (by simp)
end laws_toIntS

theorem take_set {α : Type} {r xs : List α} {i : Nat} (d : α) (hr : r.length = xs.length) (hi : i < xs.length) (ht : r.take i = xs.take i) : (r.set i (xs.getD i d)).take (i + 1) = xs.take (i + 1) := by
  apply List.ext_getElem?
  intro j
  simp only [List.getElem?_take, List.getElem?_set]
  by_cases hj : j < i + 1
  · simp only [hj, if_true]
    by_cases hij : i = j
    · subst hij
      have h1 : i < r.length := by omega
      simp [h1, hi, List.getD_eq_getElem?_getD]
    · simp only [hij, if_false]
      have := congrArg (·[j]?) ht
      simp only [List.getElem?_take] at this
      simpa [show j < i by omega] using this
  · simp [hj]

namespace laws_toIntSS
theorem mono : OMono fun J3 (x : p3.T) => F3 J3 laws_toIntS.impl x.1 x.2.1 x.2.2.1 := by
  intro J J' h x
  show OptLe _ _
  unfold F3
  exact .cond (.cond (.bind (.refl _) fun _ => .cond (.of h _) (.refl _)) (.refl _)) (.refl _)
theorem loop (xs : List (List Int)) (hx : xs.length ≤ 1048576) (hin : ∀ x ∈ xs, x.length ≤ 1048576) : ∀ (n i : Nat) (r : List (List Int)), n + i = xs.length → r.length = xs.length → r.take i = xs.take i → L3 (xs, (i : Int), r, ()) = some (xs, ())
  | 0, i, r, hn, hr, ht => by
    unfold L3; rw [lfp_eq mono]; show F3 _ _ xs i r = _
    unfold F3
    have : ¬ ((i : Int) < xs.length) := by omega
    simp only [this, decide_false, cond_false]
    rw [List.take_of_length_le (by omega), List.take_of_length_le (by omega)] at ht
    rw [ht]
  | n + 1, i, r, hn, hr, ht => by
    have ih := loop xs hx hin n (i + 1) (r.set i (xs.getD i [])) (by omega) (by simp [hr]) (take_set [] hr (by omega) ht)
    unfold L3 at ih ⊢
    rw [lfp_eq mono]; show F3 _ _ xs i r = _
    unfold F3
    have h1 : (i : Int) < xs.length := by omega
    have h2 : wI ((i : Int) + 1) = ((i + 1 : Nat) : Int) := by rw [wI_small (by omega) (by omega)]; omega
    have h3 : (xs.getD i []).length ≤ 1048576 := by
      rw [List.getD_eq_getElem?_getD, List.getElem?_eq_getElem (by omega)]
      exact hin _ (List.getElem_mem _)
    simp only [h1, inb, hr, decide_true, cond_true, h2, Int.toNat_natCast, show (0 : Int) ≤ (i : Int) by omega, Bool.and_true]
    rw [laws_toIntS.law _ h3, Option.bind_some]
    exact ih
theorem law (xs : List (List Int)) (hx : xs.length ≤ 1048576) (hin : ∀ x ∈ xs, x.length ≤ 1048576) : impl (xs, ()) = some (xs, ()) := by
  show F0 L3 xs = _
  unfold F0
  have : (decide (0 ≤ (xs.length : Int)) && decide ((xs.length : Int) ≤ (xs.length : Int)) && decide ((xs.length : Int) * 24 ≤ 140737488355328)) = true := by
    simp; omega
  rw [this]
  exact loop xs hx hin xs.length 0 _ (by omega) (by simp) (by simp)
end laws_toIntSS

namespace laws_eqIntS
theorem mono : OMono fun J4 (x : p4.T) => F4 (L6 J4) x.1 x.2.1 x.2.2.1 := by
  intro J J' h x
  show OptLe _ _
  unfold F4 L6 F6
  exact .cond (.cond (.cond (.cond (.refl _) (.of h _)) (.refl _)) (.refl _)) (.refl _)
theorem loop (xs : List Int) (hx : xs.length ≤ 1048576) : ∀ (n i : Nat), n + i = xs.length → L4 (xs, xs, (i : Int), ()) = some (true, ())
  | 0, i, hn => by
    unfold L4; rw [lfp_eq mono]; show F4 _ xs xs i = _
    unfold F4
    have : ¬ ((i : Int) < xs.length) := by omega
    simp only [this, decide_false, cond_false]
  | n + 1, i, hn => by
    have ih := loop xs hx n (i + 1) (by omega)
    unfold L4 at ih ⊢
    rw [lfp_eq mono]; show F4 _ xs xs i = _
    unfold F4
    have h1 : (i : Int) < xs.length := by omega
    have h2 : wI ((i : Int) + 1) = ((i + 1 : Nat) : Int) := by rw [wI_small (by omega) (by omega)]; omega
    simp only [h1, decide_true, cond_true]
    show F6 _ xs xs i = _
    unfold F6
    simp only [h1, inb, decide_true, cond_true, h2, show (0 : Int) ≤ (i : Int) by omega, Bool.and_true, bne_self_eq_false, cond_false]
    exact ih
theorem law (xs : List Int) (hx : xs.length ≤ 1048576) : impl (xs, xs, ()) = some (true, ()) := by
  show F0 L4 xs xs = _
  unfold F0
  simp only [bne_self_eq_false, cond_false]
  exact loop xs hx xs.length 0 (by omega)
end laws_eqIntS

namespace laws_eqIntSS
theorem mono : OMono fun J4 (x : p4.T) => F4 (L6 J4) x.1 x.2.1 x.2.2.1 := by
  intro J J' h x
  show OptLe _ _
  unfold F4 L6 F6
  exact .cond (.cond (.cond (.bind (.refl _) fun _ => .cond (.refl _) (.of h _)) (.refl _)) (.refl _)) (.refl _)
theorem loop (xs : List (List Int)) (hx : xs.length ≤ 1048576) (hin : ∀ x ∈ xs, x.length ≤ 1048576) : ∀ (n i : Nat), n + i = xs.length → L4 (xs, xs, (i : Int), ()) = some (true, ())
  | 0, i, hn => by
    unfold L4; rw [lfp_eq mono]; show F4 _ xs xs i = _
    unfold F4
    have : ¬ ((i : Int) < xs.length) := by omega
    simp only [this, decide_false, cond_false]
  | n + 1, i, hn => by
    have ih := loop xs hx hin n (i + 1) (by omega)
    unfold L4 at ih ⊢
    rw [lfp_eq mono]; show F4 _ xs xs i = _
    unfold F4
    have h1 : (i : Int) < xs.length := by omega
    have h2 : wI ((i : Int) + 1) = ((i + 1 : Nat) : Int) := by rw [wI_small (by omega) (by omega)]; omega
    have h3 : (xs.getD i []).length ≤ 1048576 := by
      rw [List.getD_eq_getElem?_getD, List.getElem?_eq_getElem (by omega)]
      exact hin _ (List.getElem_mem _)
    simp only [h1, decide_true, cond_true]
    show F6 _ _ xs xs i = _
    unfold F6
    simp only [h1, inb, decide_true, cond_true, h2, show (0 : Int) ≤ (i : Int) by omega, Bool.and_true, Int.toNat_natCast]
    rw [laws_eqIntS.law _ h3, Option.bind_some]
    exact ih
theorem law (xs : List (List Int)) (hx : xs.length ≤ 1048576) (hin : ∀ x ∈ xs, x.length ≤ 1048576) : impl (xs, xs, ()) = some (true, ()) := by
  show F0 L4 xs xs = _
  unfold F0
  simp only [bne_self_eq_false, cond_false]
  exact loop xs hx hin xs.length 0 (by omega)
end laws_eqIntSS

namespace laws_szIntSS
theorem mono : OMono fun J5 (x : p5.T) => F5 J5 laws_szIntS.impl x.1 x.2.1 x.2.2.1 := by
  intro J J' h x
  show OptLe _ _
  unfold F5
  exact .cond (.cond (.bind (.refl _) fun _ => .cond (.refl _) (.of h _)) (.refl _)) (.refl _)
theorem loop (xs : List (List Int)) (hx : xs.length ≤ 1048576) (hm : ∀ x ∈ xs, x.length ≤ maxLen) : ∀ (n i : Nat) (l : Int), n + i = xs.length → 0 ≤ l → l ≤ 1048576 → (∀ j, j < i → (xs.getD j []).length ≤ 1048576) →
    ∃ r : Int, L5 (xs, l, (i : Int), ()) = some (r, ()) ∧ (r < 0 ∨ (0 ≤ r ∧ r ≤ 1048576 ∧ ∀ x ∈ xs, x.length ≤ 1048576))
  | 0, i, l, hn, h0, hl, hj => by
    unfold L5; rw [lfp_eq mono]
    refine ⟨l, ?_, .inr ⟨h0, hl, fun x hx => ?_⟩⟩
    · show F5 _ _ xs l i = _
      unfold F5
      have : ¬ ((i : Int) < xs.length) := by omega
      simp only [this, decide_false, cond_false]
    · obtain ⟨j, hjl, rfl⟩ := List.mem_iff_getElem.1 hx
      have := hj j (by omega)
      rwa [List.getD_eq_getElem?_getD, List.getElem?_eq_getElem hjl] at this
  | n + 1, i, l, hn, h0, hl, hj => by
    have h1 : (i : Int) < xs.length := by omega
    have h2 : wI ((i : Int) + 1) = ((i + 1 : Nat) : Int) := by rw [wI_small (by omega) (by omega)]; omega
    have h3 : (xs.getD i []).length ≤ maxLen := by
      rw [List.getD_eq_getElem?_getD, List.getElem?_eq_getElem (by omega)]
      exact hm _ (List.getElem_mem _)
    have key : ∀ v, L5 (xs, l, (i : Int), ()) = v ↔ (bif decide ((if l - (xs.getD i []).length < 0 then -1 else l - (xs.getD i []).length : Int) < 0) then some ((-1 : Int), ()) else L5 (xs, (if l - (xs.getD i []).length < 0 then -1 else l - (xs.getD i []).length : Int), ((i + 1 : Nat) : Int), ())) = v := by
      intro v
      have : L5 (xs, l, (i : Int), ()) = (bif decide ((if l - (xs.getD i []).length < 0 then -1 else l - (xs.getD i []).length : Int) < 0) then some ((-1 : Int), ()) else L5 (xs, (if l - (xs.getD i []).length < 0 then -1 else l - (xs.getD i []).length : Int), ((i + 1 : Nat) : Int), ())) := by
        have hstep : L5 (xs, l, (i : Int), ()) = F5 L5 laws_szIntS.impl xs l i := congrFun (lfp_eq mono) (xs, l, (i : Int), ())
        rw [hstep]
        unfold F5
        simp only [h1, inb, decide_true, cond_true, h2, Int.toNat_natCast, show (0 : Int) ≤ (i : Int) by omega, Bool.and_true]
        rw [laws_szIntS.law _ l h0 hl h3, Option.bind_some]
      rw [this]
    by_cases hneg : l - ((xs.getD i []).length : Int) < 0
    · exact ⟨(-1 : Int), (key _).2 (by simp only [hneg, if_true]; rfl), .inl (by show (-1 : Int) < 0; decide)⟩
    · obtain ⟨r, hr, hp⟩ := loop xs hx hm n (i + 1) (l - (xs.getD i []).length) (by omega) (by omega) (by omega) (fun j hji => by
        rcases Nat.lt_succ_iff_lt_or_eq.1 hji with h | h
        · exact hj j h
        · subst h; omega)
      refine ⟨r, (key _).2 ?_, hp⟩
      simp only [hneg, if_false, decide_false, cond_false]
      exact hr
theorem law (xs : List (List Int)) (l : Int) (h0 : 0 ≤ l) (hl : l ≤ 1048576) (hx : xs.length ≤ maxLen) (hm : ∀ x ∈ xs, x.length ≤ maxLen) :
    ∃ r : Int, impl (xs, l, ()) = some (r, ()) ∧ (r < 0 ∨ (0 ≤ r ∧ r ≤ 1048576 ∧ xs.length ≤ 1048576 ∧ ∀ x ∈ xs, x.length ≤ 1048576)) := by
  have hw : wI (l - xs.length) = l - xs.length := wI_small (by simp [maxLen] at hx; omega) (by omega)
  show ∃ r : Int, F0 L5 xs l = some (r, ()) ∧ _
  unfold F0
  rw [hw]
  by_cases hneg : l - (xs.length : Int) < 0
  · exact ⟨(-1 : Int), by simp only [hneg, decide_true, cond_true], .inl (by show (-1 : Int) < 0; decide)⟩
  · obtain ⟨r, hr, hp⟩ := loop xs (by omega) hm xs.length 0 (l - xs.length) (by omega) (by omega) (by omega) (fun j h => absurd h (Nat.not_lt_zero j))
    refine ⟨r, by simp only [hneg, decide_false, cond_false]; exact hr, hp.imp id fun h => ⟨h.1, h.2.1, by omega, h.2.2⟩⟩
end laws_szIntSS

def Small (x : List (List Int) × List Int) : Prop := x.1.length ≤ 1048576 ∧ (∀ y ∈ x.1, y.length ≤ 1048576) ∧ x.2.length ≤ 1048576
theorem maxLen_pos : (1048576 : Nat) ≤ maxLen := by simp [maxLen]

namespace laws_szTrace
theorem law (x : List (List Int) × List Int) (l : Int) (h0 : 0 ≤ l) (hl : l ≤ 1048576) (hx : x.1.length ≤ maxLen) (hm : ∀ y ∈ x.1, y.length ≤ maxLen) (h2 : x.2.length ≤ maxLen) :
    ∃ r : Int, impl (x, l, ()) = some (r, ()) ∧ (r < 0 ∨ Small x) := by
  obtain ⟨r, hr, hp⟩ := laws_szIntSS.law x.1 l h0 hl hx hm
  show ∃ r : Int, F0 _ _ x l = some (r, ()) ∧ _
  unfold F0
  rw [hr]
  simp only [Option.bind_some]
  rcases hp with hp | ⟨p0, p1, p2, p3⟩
  · exact ⟨(-1 : Int), by simp only [hp, decide_true, cond_true], .inl (by show (-1 : Int) < 0; decide)⟩
  · have hn : ¬ (r : Int) < 0 := by omega
    simp only [hn, decide_false, cond_false]
    rw [laws_szIntS.law x.2 r p0 p1 h2]
    simp only [Option.bind_some]
    by_cases hneg : (r : Int) - (x.2.length : Int) < 0
    · exact ⟨(-1 : Int), by simp only [hneg, if_true]; rfl, .inl (by show (-1 : Int) < 0; decide)⟩
    · refine ⟨(r : Int) - x.2.length, by simp only [hneg, if_false, decide_false, cond_false], .inr ⟨p2, p3, by omega⟩⟩
end laws_szTrace

namespace laws_szPaper
theorem law (x : Int × (List Int) × Int × (List (List Int)) × List Int) (l : Int) (h0 : 0 ≤ l) (hl : l ≤ 1048576) (h1 : x.2.1.length ≤ maxLen) (hx : x.2.2.2.1.length ≤ maxLen) (hm : ∀ y ∈ x.2.2.2.1, y.length ≤ maxLen) (h2 : x.2.2.2.2.length ≤ maxLen) :
    ∃ r : Int, impl (x, l, ()) = some (r, ()) ∧ (r < 0 ∨ (x.2.1.length ≤ 1048576 ∧ Small x.2.2.2)) := by
  show ∃ r : Int, F0 _ _ x l = some (r, ()) ∧ _
  unfold F0
  rw [laws_szIntS.law x.2.1 l h0 hl h1]
  simp only [Option.bind_some]
  by_cases hneg : (l : Int) - (x.2.1.length : Int) < 0
  · exact ⟨(-1 : Int), by simp only [hneg, if_true]; rfl, .inl (by show (-1 : Int) < 0; decide)⟩
  · simp only [hneg, if_false, decide_false, cond_false]
    obtain ⟨r, hr, hp⟩ := laws_szTrace.law x.2.2.2 (l - x.2.1.length) (by omega) (by omega) hx hm h2
    rw [hr]
    simp only [Option.bind_some]
    rcases hp with hp | hp
    · exact ⟨(-1 : Int), by simp only [hp, decide_true, cond_true], .inl (by show (-1 : Int) < 0; decide)⟩
    · by_cases hn : (r : Int) < 0
      · exact ⟨(-1 : Int), by simp only [hn, decide_true, cond_true], .inl (by show (-1 : Int) < 0; decide)⟩
      · exact ⟨r, by simp only [hn, decide_false, cond_false], .inr ⟨by omega, hp⟩⟩
end laws_szPaper

theorem laws_toTrace.law (x : List (List Int) × List Int) (h : Small x) : laws_toTrace.impl (x, ()) = some (x, ()) := by
  show laws_toTrace.F0 _ _ x = _
  unfold laws_toTrace.F0
  rw [laws_toIntSS.law _ h.1 h.2.1, laws_toIntS.law _ h.2.2]
  rfl
theorem laws_toPaper.law (x : Int × (List Int) × Int × (List (List Int)) × List Int) (h1 : x.2.1.length ≤ 1048576) (h : Small x.2.2.2) : laws_toPaper.impl (x, ()) = some (x, ()) := by
  show laws_toPaper.F0 _ _ x = _
  unfold laws_toPaper.F0
  rw [laws_toIntS.law _ h1, laws_toTrace.law _ h]
  rfl
theorem laws_eqTrace.law (x : List (List Int) × List Int) (h : Small x) : laws_eqTrace.impl (x, x, ()) = some (true, ()) := by
  show laws_eqTrace.F0 _ _ x x = _
  unfold laws_eqTrace.F0
  rw [laws_eqIntSS.law _ h.1 h.2.1, laws_eqIntS.law _ h.2.2]
  rfl
theorem laws_eqPaper.law (x : Int × (List Int) × Int × (List (List Int)) × List Int) (h1 : x.2.1.length ≤ 1048576) (h : Small x.2.2.2) : laws_eqPaper.impl (x, x, ()) = some (true, ()) := by
  show laws_eqPaper.F0 _ _ x x = _
  unfold laws_eqPaper.F0
  rw [laws_eqIntS.law _ h1, laws_eqTrace.law _ h]
  simp
theorem says_same (x : Int × (List Int) × Int × (List (List Int)) × List Int) : ∃ r, spec_PaperSays.impl (x, ()) = some (r, ()) ∧ impl_PaperSays.impl (x, ()) = some (r, ()) := by
  show ∃ r, spec_PaperSays.F0 x = some (r, ()) ∧ impl_PaperSays.F0 x = some (r, ())
  unfold spec_PaperSays.F0 impl_PaperSays.F0
  cases (x.1 == 1 : Bool) <;> cases (x.1 == 2 : Bool) <;> cases (x.1 == 3 : Bool) <;> exact ⟨_, rfl, rfl⟩

theorem paperSays_law (x : Int × (List Int) × Int × (List (List Int)) × List Int) (h1 : x.2.1.length ≤ maxLen) (hx : x.2.2.2.1.length ≤ maxLen) (hm : ∀ y ∈ x.2.2.2.1, y.length ≤ maxLen) (h2 : x.2.2.2.2.length ≤ maxLen) :
    laws_FnExactPaperSays.impl (x, ()) = some (true, ()) := by
  obtain ⟨r, hr, hp⟩ := laws_szPaper.law x 1048576 (by decide) (by decide) h1 hx hm h2
  show laws_FnExactPaperSays.F0 _ _ _ _ _ x = _
  unfold laws_FnExactPaperSays.F0
  rw [hr]
  simp only [Option.bind_some]
  rcases hp with hp | ⟨p1, p2⟩
  · simp only [hp, decide_true, cond_true]
  · by_cases hn : (r : Int) < 0
    · simp only [hn, decide_true, cond_true]
    · simp only [hn, decide_false, cond_false]
      obtain ⟨q, e1, e2⟩ := says_same x
      rw [laws_toPaper.law x p1 p2]
      simp only [Option.bind_some]
      rw [e1]
      simp only [Option.bind_some]
      rw [e2]
      simp only [Option.bind_some, bne_self_eq_false, cond_false]
      show laws_FnExactPaperSays.F10 _ _ _ _ _ _ _ _ _ _ _ _ = _
      unfold laws_FnExactPaperSays.F10
      rw [show ((x.1, x.2.1, x.2.2.1, x.2.2.2.1, x.2.2.2.2) : Int × (List Int) × Int × (List (List Int)) × List Int) = x from rfl, laws_toPaper.law x p1 p2]
      simp only [Option.bind_some]
      rw [laws_eqPaper.law x p1 p2]
      rfl
end Go.Proofs.YtgagmcbeobkfoaaB
