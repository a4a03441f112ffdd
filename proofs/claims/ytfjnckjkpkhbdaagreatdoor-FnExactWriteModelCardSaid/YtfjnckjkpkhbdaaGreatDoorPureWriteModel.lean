/- The plain law: what the functions compute, in plain Lean. -/
import Derived.Test.YtfjnckjkpkhbdaaGreatDoorKFnExactWriteModel
import Derived.Test.YtfjnckjkpkhbdaaGreatDoorP0
set_option linter.unusedVariables false
set_option linter.unusedSimpArgs false
set_option maxRecDepth 10000
set_option synthInstance.maxSize 10000
set_option synthInstance.maxHeartbeats 400000
namespace Go.Proofs.YtfjnckjkpkhbdaaGreatDoorB
open Go
namespace spec_l1In
theorem law (x a b : Int) : impl (x, a, b, ()) = some (in3 x a b, ()) := by
  rw [impl_eq]; unfold F0
  rw [cond_ret]
  congr 2
  rw [Bool.eq_iff_iff, in3_iff]
  simp only [cond_iff, decide_eq_true_eq, Bool.false_eq_true, and_false, or_false]
end spec_l1In
namespace impl_in
theorem law (x a b : Int) : impl (x, a, b, ()) = some (in3 x a b, ()) := by
  rw [impl_eq]; unfold F0
  rw [cond_ret]
  congr 2
  rw [Bool.eq_iff_iff, in3_iff]
  simp only [cond_iff, decide_eq_true_eq, Bool.false_eq_true, and_false, or_false]
end impl_in
/-! ### a text cut at each byte of a kind -/
def cutAt (c : UInt8) : List UInt8 → List (List UInt8)
  | [] => [[]]
  | b :: l => if b = c then [] :: cutAt c l else match cutAt c l with
    | [] => [[b]]
    | p :: ps => (b :: p) :: ps
theorem cutAt_ne (c : UInt8) (s : List UInt8) : cutAt c s ≠ [] := by
  cases s with
  | nil => simp [cutAt]
  | cons b l =>
    unfold cutAt
    split
    · simp
    · split <;> simp
theorem index_one_cons (b c : UInt8) (l : List UInt8) : Lib.index (b :: l) [c] = if b = c then 0 else if Lib.index l [c] = -1 then -1 else Lib.index l [c] + 1 := by
  rw [Lib.index]
  by_cases h : b = c
  · subst h; simp
  · have : ¬ c = b := fun e => h e.symm
    simp [h, this]
theorem split_cut (c : UInt8) : ∀ (s : List UInt8) (k : Nat), Lib.count s [c] ≤ k → Lib.splitK [c] 0 k s = cutAt c s
  | [], 0, _ => rfl
  | [], k + 1, _ => by simp [Lib.splitK, Lib.index, cutAt]
  | b :: l, k, hk => by
    by_cases h : b = c
    · subst h
      rw [Lib.count_cons_eq] at hk
      obtain ⟨k, rfl⟩ : ∃ k', k = k' + 1 := ⟨k - 1, by omega⟩
      have := split_cut b l k (by omega)
      rw [Lib.splitK, index_one_cons]
      simp [cutAt, this]
    · rw [Lib.count_cons_ne b c l h] at hk
      have ih := split_cut c l k hk
      rw [cutAt, if_neg h, ← ih]
      cases k with
      | zero => simp [Lib.splitK]
      | succ k =>
        rw [Lib.splitK, index_one_cons, if_neg h, Lib.splitK]
        by_cases hi : Lib.index l [c] = -1
        · simp [hi]
        · have := Lib.index_ge l [c]
          have hn : ¬ Lib.index l [c] + 1 = -1 := by omega
          simp only [hi, if_false, beq_iff_eq, hn, List.length_cons, List.length_nil, Nat.add_zero]
          rw [show (Lib.index l [c] + 1).toNat = (Lib.index l [c]).toNat + 1 by omega, show (Lib.index l [c]).toNat + 1 + (0 + 1) = (Lib.index l [c]).toNat + (0 + 1) + 1 by omega]
          simp
theorem split_one (c : UInt8) (s : List UInt8) : Lib.split s [c] = cutAt c s := split_cut c s _ (Nat.le_refl _)
theorem cutAt_pre (c : UInt8) : ∀ (p : List UInt8) (r : List UInt8), (∀ b ∈ p, b ≠ c) → cutAt c (p ++ r) = match cutAt c r with
    | [] => [p]
    | q :: qs => (p ++ q) :: qs
  | [], r, _ => by
    cases h : cutAt c r with
    | nil => exact absurd h (cutAt_ne c r)
    | cons q qs => simp [h]
  | b :: p, r, hp => by
    have hb := hp b (by simp)
    rw [List.cons_append, cutAt, if_neg hb, cutAt_pre c p r fun x hx => hp x (by simp [hx])]
    cases h : cutAt c r with
    | nil => exact absurd h (cutAt_ne c r)
    | cons q qs => rfl
theorem cutAt_none {c : UInt8} {p : List UInt8} (hp : ∀ b ∈ p, b ≠ c) : cutAt c p = [p] := by
  have := cutAt_pre c p [] hp
  simpa [cutAt] using this
theorem cutAt_sep {c : UInt8} {p r : List UInt8} (hp : ∀ b ∈ p, b ≠ c) : cutAt c (p ++ c :: r) = p :: cutAt c r := by
  rw [cutAt_pre c p _ hp, cutAt, if_pos rfl]
  simp
theorem cutAt_count (c : UInt8) : ∀ s : List UInt8, (cutAt c s).length = s.count c + 1
  | [] => rfl
  | b :: l => by
    have ih := cutAt_count c l
    unfold cutAt
    by_cases h : b = c
    · subst h; simp [ih]
    · rw [if_neg h, List.count_cons_of_ne h]
      cases hc : cutAt c l with
      | nil => exact absurd hc (cutAt_ne c l)
      | cons q qs => rw [hc] at ih; simpa using ih
theorem cutAt_length (c : UInt8) (s : List UInt8) : (cutAt c s).length ≤ s.length + 1 := by
  rw [cutAt_count]
  have := List.count_le_length (a := c) (l := s)
  omega
theorem cutAt_mem (c : UInt8) : ∀ (s : List UInt8), ∀ w ∈ cutAt c s, w.length ≤ s.length ∧ ∀ b ∈ w, b ≠ c
  | [], w, hw => by simp [cutAt] at hw; subst hw; simp
  | b :: l, w, hw => by
    have ih := cutAt_mem c l
    unfold cutAt at hw
    by_cases h : b = c
    · rw [if_pos h] at hw
      rcases List.mem_cons.1 hw with rfl | hw
      · simp
      · have := ih w hw; exact ⟨by simp; omega, this.2⟩
    · rw [if_neg h] at hw
      cases hc : cutAt c l with
      | nil => exact absurd hc (cutAt_ne c l)
      | cons q qs =>
        rw [hc] at hw ih
        rcases List.mem_cons.1 hw with rfl | hw
        · have := ih q (by simp)
          refine ⟨by simp; omega, fun x hx => ?_⟩
          rcases List.mem_cons.1 hx with rfl | hx
          · exact h
          · exact this.2 x hx
        · have := ih w (by simp [hw]); exact ⟨by simp; omega, this.2⟩
/-! ### cut off what is of some kind -/
theorem trim_empty {s cs : List UInt8} : Lib.trimS s cs = [] ↔ ∀ b ∈ s, cs.contains b = true := by
  unfold Lib.trimS Lib.trimLeftS Lib.trimRightS
  have key : ∀ l : List UInt8, l.dropWhile (cs.contains ·) = [] ↔ ∀ b ∈ l, cs.contains b = true := by
    intro l
    induction l with
    | nil => simp
    | cons b l ih =>
      rw [List.dropWhile_cons]
      by_cases h : cs.contains b = true
      · rw [if_pos h, ih, List.forall_mem_cons]; exact ⟨fun a => ⟨h, a⟩, fun a => a.2⟩
      · rw [if_neg h, List.forall_mem_cons]; exact ⟨fun a => (by cases a), fun a => absurd a.1 h⟩
  rw [key]
  constructor
  · intro h b hb
    by_cases hc : cs.contains b = true
    · exact hc
    · have h2 : (s.reverse.dropWhile (cs.contains ·)) = [] := by
        cases hd : s.reverse.dropWhile (cs.contains ·) with
        | nil => rfl
        | cons x xs =>
          have hx : ¬ cs.contains x = true := by
            have := List.head_dropWhile_not (cs.contains ·) (l := s.reverse) (by rw [hd]; simp)
            simp only [hd, List.head_cons] at this
            simpa using this
          exact absurd (h x (by rw [hd]; simp)) hx
      exact (key s.reverse).1 h2 b (by simpa using hb)
  · intro h b hb
    have := List.mem_reverse.1 hb
    exact h b (by simpa using List.dropWhile_sublist _ |>.subset this)
/-! ### loops over a list -/
theorem drop_cons {α : Type} {xs : List α} {i : Nat} (d : α) (h : i < xs.length) : xs.drop i = xs.getD i d :: xs.drop (i + 1) := by
  rw [List.drop_eq_getElem_cons h, getD_eq h]
/-- a loop that goes up along a list, and what it computes along what is left -/
theorem up_list {α S R : Type} (xs : List α) (d : α) (I : Nat → S → Prop) (L : Nat → S → Option R) (g : Nat → List α → S → Option R)
    (hn : ∀ s, I xs.length s → L xs.length s = g xs.length [] s)
    (hc : ∀ i s, i < xs.length → I i s → (∀ s', I (i + 1) s' → L (i + 1) s' = g (i + 1) (xs.drop (i + 1)) s') → L i s = g i (xs.getD i d :: xs.drop (i + 1)) s) :
    ∀ s, I 0 s → L 0 s = g 0 xs s := by
  have key : ∀ k i s, i + k = xs.length → I i s → L i s = g i (xs.drop i) s := by
    intro k
    induction k with
    | zero =>
      intro i s hi hI
      have : i = xs.length := by omega
      subst this
      rw [List.drop_length]
      exact hn s hI
    | succ k ih =>
      intro i s hi hI
      rw [drop_cons d (by omega)]
      exact hc i s (by omega) hI fun s' hI' => ih (i + 1) s' (by omega) hI'
  intro s hI
  have := key xs.length 0 s (by omega) hI
  rwa [List.drop_zero] at this
theorem inb_eq (i : Int) (n : Nat) : inb i n = (decide (0 ≤ i) && decide (i < n)) := rfl
theorem cast_lt (i n : Nat) : decide ((i : Int) < (n : Int)) = decide (i < n) := by simp
theorem up_list0 {α R : Type} (xs : List α) (d : α) (L : Nat → Option R) (g : Nat → List α → Option R) (hn : L xs.length = g xs.length [])
    (hc : ∀ i, i < xs.length → L (i + 1) = g (i + 1) (xs.drop (i + 1)) → L i = g i (xs.getD i d :: xs.drop (i + 1))) : L 0 = g 0 xs :=
  up_list (S := Unit) xs d (fun _ _ => True) (fun i _ => L i) (fun i r _ => g i r) (fun _ _ => hn) (fun i _ hi _ ih => hc i hi (ih () trivial)) () trivial
theorem decide_cons {α : Type} [DecidableEq α] (a b : α) (x y : List α) : decide (a :: x = b :: y) = (decide (a = b) && decide (x = y)) := by
  rw [Bool.eq_iff_iff]; simp
theorem bne_dec {α : Type} [DecidableEq α] (a b : α) : (a != b) = !decide (a = b) := by
  by_cases h : a = b <;> simp [h]
theorem isEmpty_len {α : Type} (xs : List α) : ((xs.length : Int) == 0) = xs.isEmpty := by cases xs <;> simp <;> omega
theorem pos_len {α : Type} (xs : List α) : decide ((xs.length : Int) > 0) = !xs.isEmpty := by cases xs <;> simp <;> omega
theorem take_snoc {α : Type} {xs : List α} {i : Nat} (d : α) (h : i < xs.length) : xs.take (i + 1) = xs.take i ++ [xs.getD i d] := by
  rw [List.take_add_one, List.getElem?_eq_getElem h, getD_eq h]; rfl
theorem lit_wf {n : Int} (h : (Lit.int .i64 n).wf = true) : -9223372036854775808 ≤ n ∧ n ≤ 9223372036854775807 := by
  simp only [Lit.wf, Bool.and_eq_true, decide_eq_true_eq] at h
  exact ⟨h.1, h.2⟩
/-- the first of a kind -/
def goIdx {α : Type} (p : α → Bool) : Nat → List α → Int
  | _, [] => -1
  | i, x :: r => bif p x then (i : Int) else goIdx p (i + 1) r
theorem goIdx_cons {α : Type} (p : α → Bool) (i : Nat) (x : α) (r : List α) : goIdx p i (x :: r) = bif p x then (i : Int) else goIdx p (i + 1) r := rfl
theorem goIdx_any {α : Type} (p : α → Bool) : ∀ (r : List α) (i : Nat), decide (goIdx p i r ≥ 0) = r.any p
  | [], _ => rfl
  | x :: r, i => by
    unfold goIdx
    rw [List.any_cons, ← goIdx_any p r (i + 1)]
    cases p x with
    | true => simp
    | false => rfl
theorem any_not {α : Type} (p : α → Bool) (r : List α) : (!r.any fun x => !p x) = r.all p := by
  induction r with
  | nil => rfl
  | cons x r ih => rw [List.any_cons, List.all_cons, ← ih]; cases p x <;> rfl
/-! ### measures -/
theorem maxLen_eq : maxLen = 9223372036854775807 := by unfold maxLen; rfl
/-- what is left of a measure -/
def less (l : Int) (n : Nat) : Int := if l - n < 0 then -1 else l - n
def mL {α : Type} (f : α → Nat) (xs : List α) : Nat := (xs.map f).sum + xs.length
theorem mL_mem {α : Type} (f : α → Nat) {xs : List α} {x : α} (h : x ∈ xs) : f x + 1 ≤ mL f xs := by
  unfold mL
  induction xs with
  | nil => cases h
  | cons y r ih =>
    simp only [List.map_cons, List.sum_cons, List.length_cons]
    rcases List.mem_cons.1 h with rfl | h
    · omega
    · have := ih h; omega
theorem mL_len {α : Type} (f : α → Nat) (xs : List α) : xs.length ≤ mL f xs := by unfold mL; omega
theorem mL_cons {α : Type} (f : α → Nat) (x : α) (xs : List α) : mL f (x :: xs) = f x + 1 + mL f xs := by
  unfold mL; simp only [List.map_cons, List.sum_cons, List.length_cons]; omega
theorem beq_dec {α : Type} [BEq α] [LawfulBEq α] [DecidableEq α] (a b : α) : (a == b) = decide (a = b) := by
  by_cases h : a = b <;> simp [h]
/-! ### the statements' helpers: sizes, copies, comparisons (printed by wip/gen/helpers.py) -/
namespace laws_szStringS
theorem law (xs : List (List UInt8)) (l : Int) (h0 : 0 ≤ l) (hl : l ≤ 1048576) (hx : Ty.wf (.sl .str) xs) : impl (xs, l, ()) = some (less l (mL List.length xs), ()) := by
  have hM := maxLen_eq
  have hm := hx.2
  have hx := hx.1
  rw [impl_eq]; unfold F0
  rw [wI_small (by omega) (by omega)]
  have key := up_list (S := Int) xs [] (fun _ l => 0 ≤ l ∧ l ≤ 1048576) (fun i l => L5 (xs, l, (i : Int), ())) (fun i r l => some (less l (r.map List.length).sum, ())) (by
    intro s hs
    rw [L5_eq]; unfold F5 less; simp (disch := omega) only [inb_nat, cast_lt, Int.toNat_natCast, wI_succ]; simp; omega) (by
    intro i s hi hs ih
    have h1 := hm _ (getD_mem (d := []) hi)
    rw [L5_eq]; unfold F5; simp (disch := omega) only [inb_nat, cast_lt, Int.toNat_natCast, wI_succ]
    simp only [List.map_cons, List.sum_cons]
    have h1 : (xs.getD i []).length ≤ maxLen := h1
    simp (disch := omega) only [wI_small]
    generalize hz : List.length (xs.getD i []) = z at *
    unfold less at *
    by_cases h : s - (z : Int) < 0
    · grind
    · have := ih (s - (z : Int)) (by omega)
      grind)
  unfold less mL at *
  by_cases h : (l : Int) - (xs.length : Int) < 0
  · grind
  · have h2 := key ((l : Int) - (xs.length : Int)) (by omega)
    have h3 : L5 (xs, (l : Int) - (xs.length : Int), 0, ()) = _ := h2
    grind
end laws_szStringS
namespace laws_szVarS
theorem law (xs : List (Int × Int × Int)) (l : Int) (h0 : 0 ≤ l) (hl : l ≤ 1048576) (hx : Ty.wf (.sl (.prod (.int .i64) (.prod (.int .i64) (.last (.int .i64))))) xs) : impl (xs, l, ()) = some (less l (List.length xs), ()) := by
  have hM := maxLen_eq
  have hx := hx.1
  rw [impl_eq]; unfold F0 less
  simp (disch := omega) only [wI_small]
  grind
end laws_szVarS
namespace laws_szTermS
theorem law (xs : List (Int × Int × Int × Int)) (l : Int) (h0 : 0 ≤ l) (hl : l ≤ 1048576) (hx : Ty.wf (.sl (.prod (.int .i64) (.prod (.int .i64) (.prod (.int .i64) (.last (.int .i64)))))) xs) : impl (xs, l, ()) = some (less l (List.length xs), ()) := by
  have hM := maxLen_eq
  have hx := hx.1
  rw [impl_eq]; unfold F0 less
  simp (disch := omega) only [wI_small]
  grind
end laws_szTermS
namespace laws_szIntS
theorem law (xs : List Int) (l : Int) (h0 : 0 ≤ l) (hl : l ≤ 1048576) (hx : Ty.wf (.sl (.int .i64)) xs) : impl (xs, l, ()) = some (less l (List.length xs), ()) := by
  have hM := maxLen_eq
  have hx := hx.1
  rw [impl_eq]; unfold F0 less
  simp (disch := omega) only [wI_small]
  grind
end laws_szIntS
namespace laws_szTermSS
theorem law (xs : List (List (Int × Int × Int × Int))) (l : Int) (h0 : 0 ≤ l) (hl : l ≤ 1048576) (hx : Ty.wf (.sl (.sl (.prod (.int .i64) (.prod (.int .i64) (.prod (.int .i64) (.last (.int .i64))))))) xs) : impl (xs, l, ()) = some (less l (mL List.length xs), ()) := by
  have hM := maxLen_eq
  have hm := hx.2
  have hx := hx.1
  rw [impl_eq]; unfold F0
  rw [wI_small (by omega) (by omega)]
  have key := up_list (S := Int) xs [] (fun _ l => 0 ≤ l ∧ l ≤ 1048576) (fun i l => L5 (xs, l, (i : Int), ())) (fun i r l => some (less l (r.map List.length).sum, ())) (by
    intro s hs
    rw [L5_eq]; unfold F5 less; simp (disch := omega) only [inb_nat, cast_lt, Int.toNat_natCast, wI_succ]; simp; omega) (by
    intro i s hi hs ih
    have h1 := hm _ (getD_mem (d := []) hi)
    rw [L5_eq]; unfold F5; simp (disch := omega) only [inb_nat, cast_lt, Int.toNat_natCast, wI_succ]
    simp only [List.map_cons, List.sum_cons]
    rw [laws_szTermS.law _ _ hs.1 hs.2 h1]
    generalize hz : List.length (xs.getD i []) = z at *
    unfold less at *
    by_cases h : s - (z : Int) < 0
    · grind
    · have := ih (s - (z : Int)) (by omega)
      grind)
  unfold less mL at *
  by_cases h : (l : Int) - (xs.length : Int) < 0
  · grind
  · have h2 := key ((l : Int) - (xs.length : Int)) (by omega)
    have h3 : L5 (xs, (l : Int) - (xs.length : Int), 0, ()) = _ := h2
    grind
end laws_szTermSS
namespace laws_szRule
theorem law (x : (List (Int × Int × Int × Int)) × (List Int) × List (List (Int × Int × Int × Int))) (l : Int) (h0 : 0 ≤ l) (hl : l ≤ 1048576) (hx : Ty.wf (.prod (.sl (.prod (.int .i64) (.prod (.int .i64) (.prod (.int .i64) (.last (.int .i64)))))) (.prod (.sl (.int .i64)) (.last (.sl (.sl (.prod (.int .i64) (.prod (.int .i64) (.prod (.int .i64) (.last (.int .i64)))))))))) x) : impl (x, l, ()) = some (less l ((fun (x : (List (Int × Int × Int × Int)) × (List Int) × List (List (Int × Int × Int × Int))) => List.length x.1 + List.length x.2.1 + (mL List.length) x.2.2) x), ()) := by
  obtain ⟨w0, w1, w2⟩ := hx
  rw [impl_eq]; unfold F0
  show _ = some (less l (List.length x.1 + List.length x.2.1 + (mL List.length) x.2.2), ())
  rw [laws_szTermS.law _ _ h0 hl w0, Option.bind_some]
  generalize List.length x.1 = z0
  by_cases n0 : less l z0 < 0
  · rw [show decide ((less l z0, ()).1 < 0) = true from decide_eq_true n0]; unfold less at *; grind
  rw [show decide ((less l z0, ()).1 < 0) = false from decide_eq_false n0, cond_false]
  have g0 : 0 ≤ less l z0 ∧ less l z0 ≤ 1048576 := by unfold less at *; grind
  rw [laws_szIntS.law _ _ g0.1 g0.2 w1, Option.bind_some]
  generalize List.length x.2.1 = z1
  by_cases n1 : less (less l z0) z1 < 0
  · rw [show decide ((less (less l z0) z1, ()).1 < 0) = true from decide_eq_true n1]; unfold less at *; grind
  rw [show decide ((less (less l z0) z1, ()).1 < 0) = false from decide_eq_false n1, cond_false]
  have g1 : 0 ≤ less (less l z0) z1 ∧ less (less l z0) z1 ≤ 1048576 := by unfold less at *; grind
  rw [laws_szTermSS.law _ _ g1.1 g1.2 w2, Option.bind_some]
  generalize (mL List.length) x.2.2 = z2
  by_cases n2 : less (less (less l z0) z1) z2 < 0
  · rw [show decide ((less (less (less l z0) z1) z2, ()).1 < 0) = true from decide_eq_true n2]; unfold less at *; grind
  rw [show decide ((less (less (less l z0) z1) z2, ()).1 < 0) = false from decide_eq_false n2, cond_false]
  have g2 : 0 ≤ less (less (less l z0) z1) z2 ∧ less (less (less l z0) z1) z2 ≤ 1048576 := by unfold less at *; grind
  unfold less at *; grind
end laws_szRule
namespace laws_szRuleS
theorem law (xs : List ((List (Int × Int × Int × Int)) × (List Int) × List (List (Int × Int × Int × Int)))) (l : Int) (h0 : 0 ≤ l) (hl : l ≤ 1048576) (hx : Ty.wf (.sl (.prod (.sl (.prod (.int .i64) (.prod (.int .i64) (.prod (.int .i64) (.last (.int .i64)))))) (.prod (.sl (.int .i64)) (.last (.sl (.sl (.prod (.int .i64) (.prod (.int .i64) (.prod (.int .i64) (.last (.int .i64))))))))))) xs) : impl (xs, l, ()) = some (less l (mL (fun (x : (List (Int × Int × Int × Int)) × (List Int) × List (List (Int × Int × Int × Int))) => List.length x.1 + List.length x.2.1 + (mL List.length) x.2.2) xs), ()) := by
  have hM := maxLen_eq
  have hm := hx.2
  have hx := hx.1
  rw [impl_eq]; unfold F0
  rw [wI_small (by omega) (by omega)]
  have key := up_list (S := Int) xs ([], [], []) (fun _ l => 0 ≤ l ∧ l ≤ 1048576) (fun i l => L5 (xs, l, (i : Int), ())) (fun i r l => some (less l (r.map (fun (x : (List (Int × Int × Int × Int)) × (List Int) × List (List (Int × Int × Int × Int))) => List.length x.1 + List.length x.2.1 + (mL List.length) x.2.2)).sum, ())) (by
    intro s hs
    rw [L5_eq]; unfold F5 less; simp (disch := omega) only [inb_nat, cast_lt, Int.toNat_natCast, wI_succ]; simp; omega) (by
    intro i s hi hs ih
    have h1 := hm _ (getD_mem (d := ([], [], [])) hi)
    rw [L5_eq]; unfold F5; simp (disch := omega) only [inb_nat, cast_lt, Int.toNat_natCast, wI_succ]
    simp only [List.map_cons, List.sum_cons]
    rw [laws_szRule.law _ _ hs.1 hs.2 h1]
    generalize hz : (fun (x : (List (Int × Int × Int × Int)) × (List Int) × List (List (Int × Int × Int × Int))) => List.length x.1 + List.length x.2.1 + (mL List.length) x.2.2) (xs.getD i ([], [], [])) = z at *
    unfold less at *
    by_cases h : s - (z : Int) < 0
    · grind
    · have := ih (s - (z : Int)) (by omega)
      grind)
  unfold less mL at *
  by_cases h : (l : Int) - (xs.length : Int) < 0
  · grind
  · have h2 := key ((l : Int) - (xs.length : Int)) (by omega)
    have h3 : L5 (xs, (l : Int) - (xs.length : Int), 0, ()) = _ := h2
    grind
end laws_szRuleS
namespace laws_szSystem
theorem law (x : (List (Int × Int × Int)) × List ((List (Int × Int × Int × Int)) × (List Int) × List (List (Int × Int × Int × Int)))) (l : Int) (h0 : 0 ≤ l) (hl : l ≤ 1048576) (hx : Ty.wf (.prod (.sl (.prod (.int .i64) (.prod (.int .i64) (.last (.int .i64))))) (.last (.sl (.prod (.sl (.prod (.int .i64) (.prod (.int .i64) (.prod (.int .i64) (.last (.int .i64)))))) (.prod (.sl (.int .i64)) (.last (.sl (.sl (.prod (.int .i64) (.prod (.int .i64) (.prod (.int .i64) (.last (.int .i64))))))))))))) x) : impl (x, l, ()) = some (less l ((fun (x : (List (Int × Int × Int)) × List ((List (Int × Int × Int × Int)) × (List Int) × List (List (Int × Int × Int × Int)))) => List.length x.1 + (mL (fun (x : (List (Int × Int × Int × Int)) × (List Int) × List (List (Int × Int × Int × Int))) => List.length x.1 + List.length x.2.1 + (mL List.length) x.2.2)) x.2) x), ()) := by
  obtain ⟨w0, w1⟩ := hx
  rw [impl_eq]; unfold F0
  show _ = some (less l (List.length x.1 + (mL (fun (x : (List (Int × Int × Int × Int)) × (List Int) × List (List (Int × Int × Int × Int))) => List.length x.1 + List.length x.2.1 + (mL List.length) x.2.2)) x.2), ())
  rw [laws_szVarS.law _ _ h0 hl w0, Option.bind_some]
  generalize List.length x.1 = z0
  by_cases n0 : less l z0 < 0
  · rw [show decide ((less l z0, ()).1 < 0) = true from decide_eq_true n0]; unfold less at *; grind
  rw [show decide ((less l z0, ()).1 < 0) = false from decide_eq_false n0, cond_false]
  have g0 : 0 ≤ less l z0 ∧ less l z0 ≤ 1048576 := by unfold less at *; grind
  rw [laws_szRuleS.law _ _ g0.1 g0.2 w1, Option.bind_some]
  generalize (mL (fun (x : (List (Int × Int × Int × Int)) × (List Int) × List (List (Int × Int × Int × Int))) => List.length x.1 + List.length x.2.1 + (mL List.length) x.2.2)) x.2 = z1
  by_cases n1 : less (less l z0) z1 < 0
  · rw [show decide ((less (less l z0) z1, ()).1 < 0) = true from decide_eq_true n1]; unfold less at *; grind
  rw [show decide ((less (less l z0) z1, ()).1 < 0) = false from decide_eq_false n1, cond_false]
  have g1 : 0 ≤ less (less l z0) z1 ∧ less (less l z0) z1 ≤ 1048576 := by unfold less at *; grind
  unfold less at *; grind
end laws_szSystem
namespace laws_szModel
theorem law (x : (List (List UInt8)) × ((List (Int × Int × Int)) × List ((List (Int × Int × Int × Int)) × (List Int) × List (List (Int × Int × Int × Int)))) × List (List (Int × Int × Int × Int))) (l : Int) (h0 : 0 ≤ l) (hl : l ≤ 1048576) (hx : Ty.wf (.prod (.sl .str) (.prod (.prod (.sl (.prod (.int .i64) (.prod (.int .i64) (.last (.int .i64))))) (.last (.sl (.prod (.sl (.prod (.int .i64) (.prod (.int .i64) (.prod (.int .i64) (.last (.int .i64)))))) (.prod (.sl (.int .i64)) (.last (.sl (.sl (.prod (.int .i64) (.prod (.int .i64) (.prod (.int .i64) (.last (.int .i64))))))))))))) (.last (.sl (.sl (.prod (.int .i64) (.prod (.int .i64) (.prod (.int .i64) (.last (.int .i64)))))))))) x) : impl (x, l, ()) = some (less l ((fun (x : (List (List UInt8)) × ((List (Int × Int × Int)) × List ((List (Int × Int × Int × Int)) × (List Int) × List (List (Int × Int × Int × Int)))) × List (List (Int × Int × Int × Int))) => (mL List.length) x.1 + (fun (x : (List (Int × Int × Int)) × List ((List (Int × Int × Int × Int)) × (List Int) × List (List (Int × Int × Int × Int)))) => List.length x.1 + (mL (fun (x : (List (Int × Int × Int × Int)) × (List Int) × List (List (Int × Int × Int × Int))) => List.length x.1 + List.length x.2.1 + (mL List.length) x.2.2)) x.2) x.2.1 + (mL List.length) x.2.2) x), ()) := by
  obtain ⟨w0, w1, w2⟩ := hx
  rw [impl_eq]; unfold F0
  show _ = some (less l ((mL List.length) x.1 + (fun (x : (List (Int × Int × Int)) × List ((List (Int × Int × Int × Int)) × (List Int) × List (List (Int × Int × Int × Int)))) => List.length x.1 + (mL (fun (x : (List (Int × Int × Int × Int)) × (List Int) × List (List (Int × Int × Int × Int))) => List.length x.1 + List.length x.2.1 + (mL List.length) x.2.2)) x.2) x.2.1 + (mL List.length) x.2.2), ())
  rw [laws_szStringS.law _ _ h0 hl w0, Option.bind_some]
  generalize (mL List.length) x.1 = z0
  by_cases n0 : less l z0 < 0
  · rw [show decide ((less l z0, ()).1 < 0) = true from decide_eq_true n0]; unfold less at *; grind
  rw [show decide ((less l z0, ()).1 < 0) = false from decide_eq_false n0, cond_false]
  have g0 : 0 ≤ less l z0 ∧ less l z0 ≤ 1048576 := by unfold less at *; grind
  rw [laws_szSystem.law _ _ g0.1 g0.2 w1, Option.bind_some]
  generalize (fun (x : (List (Int × Int × Int)) × List ((List (Int × Int × Int × Int)) × (List Int) × List (List (Int × Int × Int × Int)))) => List.length x.1 + (mL (fun (x : (List (Int × Int × Int × Int)) × (List Int) × List (List (Int × Int × Int × Int))) => List.length x.1 + List.length x.2.1 + (mL List.length) x.2.2)) x.2) x.2.1 = z1
  by_cases n1 : less (less l z0) z1 < 0
  · rw [show decide ((less (less l z0) z1, ()).1 < 0) = true from decide_eq_true n1]; unfold less at *; grind
  rw [show decide ((less (less l z0) z1, ()).1 < 0) = false from decide_eq_false n1, cond_false]
  have g1 : 0 ≤ less (less l z0) z1 ∧ less (less l z0) z1 ≤ 1048576 := by unfold less at *; grind
  rw [laws_szTermSS.law _ _ g1.1 g1.2 w2, Option.bind_some]
  generalize (mL List.length) x.2.2 = z2
  by_cases n2 : less (less (less l z0) z1) z2 < 0
  · rw [show decide ((less (less (less l z0) z1) z2, ()).1 < 0) = true from decide_eq_true n2]; unfold less at *; grind
  rw [show decide ((less (less (less l z0) z1) z2, ()).1 < 0) = false from decide_eq_false n2, cond_false]
  have g2 : 0 ≤ less (less (less l z0) z1) z2 ∧ less (less (less l z0) z1) z2 ≤ 1048576 := by unfold less at *; grind
  unfold less at *; grind
end laws_szModel
namespace laws_toStringS
theorem law (xs : List (List UInt8)) (hx : (mL List.length) xs ≤ 1048576) : impl (xs, ()) = some (xs, ()) := by
  have hl : xs.length ≤ 1048576 := (by have := mL_len List.length xs; omega)
  rw [impl_eq]; unfold F0
  have : (decide (0 ≤ (xs.length : Int)) && decide ((xs.length : Int) ≤ (xs.length : Int)) && decide ((xs.length : Int) * 16 ≤ 140737488355328)) = true := by
    simp; omega
  rw [this, cond_true]
  have h := up_copy (R := PO) xs [] id (fun i r => L3 (xs, (i : Int), r, ())) (fun r => (r, ())) (fun i r hi hr => by
    have hm := mL_mem List.length (getD_mem (d := []) hi)
    show L3 _ = _
    rw [L3_eq]; unfold F3; simp (disch := omega) only [inb_nat, cast_lt, Int.toNat_natCast, wI_succ]; simp [hi, hr]) (fun r hr => by
    show L3 _ = _
    rw [L3_eq]; unfold F3
    simp) (List.replicate xs.length []) (by simp)
  simpa using h
end laws_toStringS
namespace laws_toVar
theorem law (x : Int × Int × Int) : impl (x, ()) = some (x, ()) := rfl
end laws_toVar
namespace laws_toVarS
theorem law (xs : List (Int × Int × Int)) (hx : List.length xs ≤ 1048576) : impl (xs, ()) = some (xs, ()) := by
  have hl : xs.length ≤ 1048576 := hx
  rw [impl_eq]; unfold F0
  have : (decide (0 ≤ (xs.length : Int)) && decide ((xs.length : Int) ≤ (xs.length : Int)) && decide ((xs.length : Int) * 24 ≤ 140737488355328)) = true := by
    simp; omega
  rw [this, cond_true]
  have h := up_copy (R := PO) xs (0, 0, 0) id (fun i r => L3 (xs, (i : Int), r, ())) (fun r => (r, ())) (fun i r hi hr => by
    show L3 _ = _
    rw [L3_eq]; unfold F3; simp (disch := omega) only [inb_nat, cast_lt, Int.toNat_natCast, wI_succ]; rw [laws_toVar.law _]; simp [hi, hr]) (fun r hr => by
    show L3 _ = _
    rw [L3_eq]; unfold F3
    simp) (List.replicate xs.length (0, 0, 0)) (by simp)
  simpa using h
end laws_toVarS
namespace laws_toTerm
theorem law (x : Int × Int × Int × Int) : impl (x, ()) = some (x, ()) := rfl
end laws_toTerm
namespace laws_toTermS
theorem law (xs : List (Int × Int × Int × Int)) (hx : List.length xs ≤ 1048576) : impl (xs, ()) = some (xs, ()) := by
  have hl : xs.length ≤ 1048576 := hx
  rw [impl_eq]; unfold F0
  have : (decide (0 ≤ (xs.length : Int)) && decide ((xs.length : Int) ≤ (xs.length : Int)) && decide ((xs.length : Int) * 32 ≤ 140737488355328)) = true := by
    simp; omega
  rw [this, cond_true]
  have h := up_copy (R := PO) xs (0, 0, 0, 0) id (fun i r => L3 (xs, (i : Int), r, ())) (fun r => (r, ())) (fun i r hi hr => by
    show L3 _ = _
    rw [L3_eq]; unfold F3; simp (disch := omega) only [inb_nat, cast_lt, Int.toNat_natCast, wI_succ]; rw [laws_toTerm.law _]; simp [hi, hr]) (fun r hr => by
    show L3 _ = _
    rw [L3_eq]; unfold F3
    simp) (List.replicate xs.length (0, 0, 0, 0)) (by simp)
  simpa using h
end laws_toTermS
namespace laws_toIntS
theorem law (xs : List Int) (hx : List.length xs ≤ 1048576) : impl (xs, ()) = some (xs, ()) := by
  have hl : xs.length ≤ 1048576 := hx
  rw [impl_eq]; unfold F0
  have : (decide (0 ≤ (xs.length : Int)) && decide ((xs.length : Int) ≤ (xs.length : Int)) && decide ((xs.length : Int) * 8 ≤ 140737488355328)) = true := by
    simp; omega
  rw [this, cond_true]
  have h := up_copy (R := PO) xs 0 id (fun i r => L3 (xs, (i : Int), r, ())) (fun r => (r, ())) (fun i r hi hr => by
    show L3 _ = _
    rw [L3_eq]; unfold F3; simp (disch := omega) only [inb_nat, cast_lt, Int.toNat_natCast, wI_succ]; simp [hi, hr]) (fun r hr => by
    show L3 _ = _
    rw [L3_eq]; unfold F3
    simp) (List.replicate xs.length 0) (by simp)
  simpa using h
end laws_toIntS
namespace laws_toTermSS
theorem law (xs : List (List (Int × Int × Int × Int))) (hx : (mL List.length) xs ≤ 1048576) : impl (xs, ()) = some (xs, ()) := by
  have hl : xs.length ≤ 1048576 := (by have := mL_len List.length xs; omega)
  rw [impl_eq]; unfold F0
  have : (decide (0 ≤ (xs.length : Int)) && decide ((xs.length : Int) ≤ (xs.length : Int)) && decide ((xs.length : Int) * 24 ≤ 140737488355328)) = true := by
    simp; omega
  rw [this, cond_true]
  have h := up_copy (R := PO) xs [] id (fun i r => L3 (xs, (i : Int), r, ())) (fun r => (r, ())) (fun i r hi hr => by
    have hm := mL_mem List.length (getD_mem (d := []) hi)
    show L3 _ = _
    rw [L3_eq]; unfold F3; simp (disch := omega) only [inb_nat, cast_lt, Int.toNat_natCast, wI_succ]; rw [laws_toTermS.law _ (by first | omega | (simp only at hm ⊢; omega))]; simp [hi, hr]) (fun r hr => by
    show L3 _ = _
    rw [L3_eq]; unfold F3
    simp) (List.replicate xs.length []) (by simp)
  simpa using h
end laws_toTermSS
namespace laws_toRule
theorem law (x : (List (Int × Int × Int × Int)) × (List Int) × List (List (Int × Int × Int × Int))) (hx : (fun (x : (List (Int × Int × Int × Int)) × (List Int) × List (List (Int × Int × Int × Int))) => List.length x.1 + List.length x.2.1 + (mL List.length) x.2.2) x ≤ 1048576) : impl (x, ()) = some (x.1, x.2.1, x.2.2, ()) := by
  simp only at hx
  rw [impl_eq]; unfold F0
  rw [laws_toTermS.law x.1 (by first | omega | (simp only; omega)), Option.bind_some]
  rw [laws_toIntS.law x.2.1 (by first | omega | (simp only; omega)), Option.bind_some]
  rw [laws_toTermSS.law x.2.2 (by first | omega | (simp only; omega)), Option.bind_some]
end laws_toRule
namespace laws_toRuleS
theorem law (xs : List ((List (Int × Int × Int × Int)) × (List Int) × List (List (Int × Int × Int × Int)))) (hx : (mL (fun (x : (List (Int × Int × Int × Int)) × (List Int) × List (List (Int × Int × Int × Int))) => List.length x.1 + List.length x.2.1 + (mL List.length) x.2.2)) xs ≤ 1048576) : impl (xs, ()) = some (xs, ()) := by
  have hl : xs.length ≤ 1048576 := (by have := mL_len (fun (x : (List (Int × Int × Int × Int)) × (List Int) × List (List (Int × Int × Int × Int))) => List.length x.1 + List.length x.2.1 + (mL List.length) x.2.2) xs; omega)
  rw [impl_eq]; unfold F0
  have : (decide (0 ≤ (xs.length : Int)) && decide ((xs.length : Int) ≤ (xs.length : Int)) && decide ((xs.length : Int) * 72 ≤ 140737488355328)) = true := by
    simp; omega
  rw [this, cond_true]
  have h := up_copy (R := PO) xs ([], [], []) id (fun i r => L3 (xs, (i : Int), r, ())) (fun r => (r, ())) (fun i r hi hr => by
    have hm := mL_mem (fun (x : (List (Int × Int × Int × Int)) × (List Int) × List (List (Int × Int × Int × Int))) => List.length x.1 + List.length x.2.1 + (mL List.length) x.2.2) (getD_mem (d := ([], [], [])) hi)
    show L3 _ = _
    rw [L3_eq]; unfold F3; simp (disch := omega) only [inb_nat, cast_lt, Int.toNat_natCast, wI_succ]; rw [laws_toRule.law _ (by first | omega | (simp only at hm ⊢; omega))]; simp [hi, hr]) (fun r hr => by
    show L3 _ = _
    rw [L3_eq]; unfold F3
    simp) (List.replicate xs.length ([], [], [])) (by simp)
  simpa using h
end laws_toRuleS
namespace laws_toSystem
theorem law (x : (List (Int × Int × Int)) × List ((List (Int × Int × Int × Int)) × (List Int) × List (List (Int × Int × Int × Int)))) (hx : (fun (x : (List (Int × Int × Int)) × List ((List (Int × Int × Int × Int)) × (List Int) × List (List (Int × Int × Int × Int)))) => List.length x.1 + (mL (fun (x : (List (Int × Int × Int × Int)) × (List Int) × List (List (Int × Int × Int × Int))) => List.length x.1 + List.length x.2.1 + (mL List.length) x.2.2)) x.2) x ≤ 1048576) : impl (x, ()) = some (x.1, x.2, ()) := by
  simp only at hx
  rw [impl_eq]; unfold F0
  rw [laws_toVarS.law x.1 (by first | omega | (simp only; omega)), Option.bind_some]
  rw [laws_toRuleS.law x.2 (by first | omega | (simp only; omega)), Option.bind_some]
end laws_toSystem
namespace laws_toModel
theorem law (x : (List (List UInt8)) × ((List (Int × Int × Int)) × List ((List (Int × Int × Int × Int)) × (List Int) × List (List (Int × Int × Int × Int)))) × List (List (Int × Int × Int × Int))) (hx : (fun (x : (List (List UInt8)) × ((List (Int × Int × Int)) × List ((List (Int × Int × Int × Int)) × (List Int) × List (List (Int × Int × Int × Int)))) × List (List (Int × Int × Int × Int))) => (mL List.length) x.1 + (fun (x : (List (Int × Int × Int)) × List ((List (Int × Int × Int × Int)) × (List Int) × List (List (Int × Int × Int × Int)))) => List.length x.1 + (mL (fun (x : (List (Int × Int × Int × Int)) × (List Int) × List (List (Int × Int × Int × Int))) => List.length x.1 + List.length x.2.1 + (mL List.length) x.2.2)) x.2) x.2.1 + (mL List.length) x.2.2) x ≤ 1048576) : impl (x, ()) = some (x.1, x.2.1.1, x.2.1.2, x.2.2, ()) := by
  simp only at hx
  rw [impl_eq]; unfold F0
  rw [laws_toStringS.law x.1 (by first | omega | (simp only; omega)), Option.bind_some]
  rw [laws_toSystem.law x.2.1 (by first | omega | (simp only; omega)), Option.bind_some]
  rw [laws_toTermSS.law x.2.2 (by first | omega | (simp only; omega)), Option.bind_some]
end laws_toModel
namespace laws_eqStringS
theorem law (xs ys : List (List UInt8)) (hx : (mL List.length) xs ≤ 1048576) : impl (xs, ys, ()) = some (decide (xs = ys), ()) := by
  have hxl : xs.length ≤ 1048576 := (by have := mL_len List.length xs; omega)
  rw [impl_eq]; unfold F0
  by_cases hl : xs.length = ys.length
  · rw [show ((xs.length : Int) != (ys.length : Int)) = false by simp [hl], cond_false]
    have h := up_list0 xs [] (fun i => L4 (xs, ys, (i : Int), ())) (fun i r => some (decide (r = ys.drop i), ())) (by
      rw [L4_eq]; unfold F4; simp (disch := omega) only [inb_nat, cast_lt, Int.toNat_natCast, wI_succ]; simp [hl]) (by
      intro i hi ih
      have hj : i < ys.length := by omega
      have hm := mL_mem List.length (getD_mem (d := []) hi)
      rw [L4_eq]; unfold F4; simp (disch := omega) only [inb_nat, cast_lt, Int.toNat_natCast, wI_succ]; rw [L6_eq]; unfold F6; simp (disch := omega) only [inb_nat, cast_lt, Int.toNat_natCast, wI_succ]
      rw [drop_cons [] hj, decide_cons]
      simp only [hi, hj, decide_true, cond_true, Option.bind_some, ih, bne_dec, beq_dec]
      cases decide (xs.getD i [] = ys.getD i []) <;> rfl)
    simpa using h
  · rw [show ((xs.length : Int) != (ys.length : Int)) = true by simp; omega, cond_true]
    have : xs ≠ ys := fun e => hl (by rw [e])
    simp [this]
end laws_eqStringS
namespace laws_eqVar
theorem law (x y : Int × Int × Int) : impl (x, y, ()) = some (decide (x = y), ()) := by
  obtain ⟨a0, a1, a2⟩ := x
  obtain ⟨b0, b1, b2⟩ := y
  rw [impl_eq]; unfold F0
  simp only [Option.bind_some, Prod.mk.injEq, Bool.decide_and, bne_dec, beq_dec]
  cases decide (a0 = b0) <;> cases decide (a1 = b1) <;> cases decide (a2 = b2) <;> rfl
end laws_eqVar
namespace laws_eqVarS
theorem law (xs ys : List (Int × Int × Int)) (hx : List.length xs ≤ 1048576) : impl (xs, ys, ()) = some (decide (xs = ys), ()) := by
  have hxl : xs.length ≤ 1048576 := hx
  rw [impl_eq]; unfold F0
  by_cases hl : xs.length = ys.length
  · rw [show ((xs.length : Int) != (ys.length : Int)) = false by simp [hl], cond_false]
    have h := up_list0 xs (0, 0, 0) (fun i => L4 (xs, ys, (i : Int), ())) (fun i r => some (decide (r = ys.drop i), ())) (by
      rw [L4_eq]; unfold F4; simp (disch := omega) only [inb_nat, cast_lt, Int.toNat_natCast, wI_succ]; simp [hl]) (by
      intro i hi ih
      have hj : i < ys.length := by omega
      rw [L4_eq]; unfold F4; simp (disch := omega) only [inb_nat, cast_lt, Int.toNat_natCast, wI_succ]; rw [L6_eq]; unfold F6; simp (disch := omega) only [inb_nat, cast_lt, Int.toNat_natCast, wI_succ]
      rw [drop_cons (0, 0, 0) hj, decide_cons, laws_eqVar.law _ _]
      simp only [hi, hj, decide_true, cond_true, Option.bind_some, ih, bne_dec, beq_dec]
      cases decide (xs.getD i (0, 0, 0) = ys.getD i (0, 0, 0)) <;> rfl)
    simpa using h
  · rw [show ((xs.length : Int) != (ys.length : Int)) = true by simp; omega, cond_true]
    have : xs ≠ ys := fun e => hl (by rw [e])
    simp [this]
end laws_eqVarS
namespace laws_eqTerm
theorem law (x y : Int × Int × Int × Int) : impl (x, y, ()) = some (decide (x = y), ()) := by
  obtain ⟨a0, a1, a2, a3⟩ := x
  obtain ⟨b0, b1, b2, b3⟩ := y
  rw [impl_eq]; unfold F0
  simp only [Option.bind_some, Prod.mk.injEq, Bool.decide_and, bne_dec, beq_dec]
  cases decide (a0 = b0) <;> cases decide (a1 = b1) <;> cases decide (a2 = b2) <;> cases decide (a3 = b3) <;> rfl
end laws_eqTerm
namespace laws_eqTermS
theorem law (xs ys : List (Int × Int × Int × Int)) (hx : List.length xs ≤ 1048576) : impl (xs, ys, ()) = some (decide (xs = ys), ()) := by
  have hxl : xs.length ≤ 1048576 := hx
  rw [impl_eq]; unfold F0
  by_cases hl : xs.length = ys.length
  · rw [show ((xs.length : Int) != (ys.length : Int)) = false by simp [hl], cond_false]
    have h := up_list0 xs (0, 0, 0, 0) (fun i => L4 (xs, ys, (i : Int), ())) (fun i r => some (decide (r = ys.drop i), ())) (by
      rw [L4_eq]; unfold F4; simp (disch := omega) only [inb_nat, cast_lt, Int.toNat_natCast, wI_succ]; simp [hl]) (by
      intro i hi ih
      have hj : i < ys.length := by omega
      rw [L4_eq]; unfold F4; simp (disch := omega) only [inb_nat, cast_lt, Int.toNat_natCast, wI_succ]; rw [L6_eq]; unfold F6; simp (disch := omega) only [inb_nat, cast_lt, Int.toNat_natCast, wI_succ]
      rw [drop_cons (0, 0, 0, 0) hj, decide_cons, laws_eqTerm.law _ _]
      simp only [hi, hj, decide_true, cond_true, Option.bind_some, ih, bne_dec, beq_dec]
      cases decide (xs.getD i (0, 0, 0, 0) = ys.getD i (0, 0, 0, 0)) <;> rfl)
    simpa using h
  · rw [show ((xs.length : Int) != (ys.length : Int)) = true by simp; omega, cond_true]
    have : xs ≠ ys := fun e => hl (by rw [e])
    simp [this]
end laws_eqTermS
namespace laws_eqIntS
theorem law (xs ys : List Int) (hx : List.length xs ≤ 1048576) : impl (xs, ys, ()) = some (decide (xs = ys), ()) := by
  have hxl : xs.length ≤ 1048576 := hx
  rw [impl_eq]; unfold F0
  by_cases hl : xs.length = ys.length
  · rw [show ((xs.length : Int) != (ys.length : Int)) = false by simp [hl], cond_false]
    have h := up_list0 xs 0 (fun i => L4 (xs, ys, (i : Int), ())) (fun i r => some (decide (r = ys.drop i), ())) (by
      rw [L4_eq]; unfold F4; simp (disch := omega) only [inb_nat, cast_lt, Int.toNat_natCast, wI_succ]; simp [hl]) (by
      intro i hi ih
      have hj : i < ys.length := by omega
      rw [L4_eq]; unfold F4; simp (disch := omega) only [inb_nat, cast_lt, Int.toNat_natCast, wI_succ]; rw [L6_eq]; unfold F6; simp (disch := omega) only [inb_nat, cast_lt, Int.toNat_natCast, wI_succ]
      rw [drop_cons 0 hj, decide_cons]
      simp only [hi, hj, decide_true, cond_true, Option.bind_some, ih, bne_dec, beq_dec]
      cases decide (xs.getD i 0 = ys.getD i 0) <;> rfl)
    simpa using h
  · rw [show ((xs.length : Int) != (ys.length : Int)) = true by simp; omega, cond_true]
    have : xs ≠ ys := fun e => hl (by rw [e])
    simp [this]
end laws_eqIntS
namespace laws_eqTermSS
theorem law (xs ys : List (List (Int × Int × Int × Int))) (hx : (mL List.length) xs ≤ 1048576) : impl (xs, ys, ()) = some (decide (xs = ys), ()) := by
  have hxl : xs.length ≤ 1048576 := (by have := mL_len List.length xs; omega)
  rw [impl_eq]; unfold F0
  by_cases hl : xs.length = ys.length
  · rw [show ((xs.length : Int) != (ys.length : Int)) = false by simp [hl], cond_false]
    have h := up_list0 xs [] (fun i => L4 (xs, ys, (i : Int), ())) (fun i r => some (decide (r = ys.drop i), ())) (by
      rw [L4_eq]; unfold F4; simp (disch := omega) only [inb_nat, cast_lt, Int.toNat_natCast, wI_succ]; simp [hl]) (by
      intro i hi ih
      have hj : i < ys.length := by omega
      have hm := mL_mem List.length (getD_mem (d := []) hi)
      rw [L4_eq]; unfold F4; simp (disch := omega) only [inb_nat, cast_lt, Int.toNat_natCast, wI_succ]; rw [L6_eq]; unfold F6; simp (disch := omega) only [inb_nat, cast_lt, Int.toNat_natCast, wI_succ]
      rw [drop_cons [] hj, decide_cons, laws_eqTermS.law _ _ (by first | omega | (simp only at hm ⊢; omega))]
      simp only [hi, hj, decide_true, cond_true, Option.bind_some, ih, bne_dec, beq_dec]
      cases decide (xs.getD i [] = ys.getD i []) <;> rfl)
    simpa using h
  · rw [show ((xs.length : Int) != (ys.length : Int)) = true by simp; omega, cond_true]
    have : xs ≠ ys := fun e => hl (by rw [e])
    simp [this]
end laws_eqTermSS
namespace laws_eqRule
theorem law (x y : (List (Int × Int × Int × Int)) × (List Int) × List (List (Int × Int × Int × Int))) (hx : (fun (x : (List (Int × Int × Int × Int)) × (List Int) × List (List (Int × Int × Int × Int))) => List.length x.1 + List.length x.2.1 + (mL List.length) x.2.2) x ≤ 1048576) : impl (x, y, ()) = some (decide (x = y), ()) := by
  obtain ⟨a0, a1, a2⟩ := x
  obtain ⟨b0, b1, b2⟩ := y
  simp only at hx
  rw [impl_eq]; unfold F0
  simp (disch := first | omega | (simp only; omega)) only [laws_eqIntS.law]
  simp (disch := first | omega | (simp only; omega)) only [laws_eqTermS.law]
  simp (disch := first | omega | (simp only; omega)) only [laws_eqTermSS.law]
  simp only [Option.bind_some, Prod.mk.injEq, Bool.decide_and, bne_dec, beq_dec]
  cases decide (a0 = b0) <;> cases decide (a1 = b1) <;> cases decide (a2 = b2) <;> rfl
end laws_eqRule
namespace laws_eqRuleS
theorem law (xs ys : List ((List (Int × Int × Int × Int)) × (List Int) × List (List (Int × Int × Int × Int)))) (hx : (mL (fun (x : (List (Int × Int × Int × Int)) × (List Int) × List (List (Int × Int × Int × Int))) => List.length x.1 + List.length x.2.1 + (mL List.length) x.2.2)) xs ≤ 1048576) : impl (xs, ys, ()) = some (decide (xs = ys), ()) := by
  have hxl : xs.length ≤ 1048576 := (by have := mL_len (fun (x : (List (Int × Int × Int × Int)) × (List Int) × List (List (Int × Int × Int × Int))) => List.length x.1 + List.length x.2.1 + (mL List.length) x.2.2) xs; omega)
  rw [impl_eq]; unfold F0
  by_cases hl : xs.length = ys.length
  · rw [show ((xs.length : Int) != (ys.length : Int)) = false by simp [hl], cond_false]
    have h := up_list0 xs ([], [], []) (fun i => L4 (xs, ys, (i : Int), ())) (fun i r => some (decide (r = ys.drop i), ())) (by
      rw [L4_eq]; unfold F4; simp (disch := omega) only [inb_nat, cast_lt, Int.toNat_natCast, wI_succ]; simp [hl]) (by
      intro i hi ih
      have hj : i < ys.length := by omega
      have hm := mL_mem (fun (x : (List (Int × Int × Int × Int)) × (List Int) × List (List (Int × Int × Int × Int))) => List.length x.1 + List.length x.2.1 + (mL List.length) x.2.2) (getD_mem (d := ([], [], [])) hi)
      rw [L4_eq]; unfold F4; simp (disch := omega) only [inb_nat, cast_lt, Int.toNat_natCast, wI_succ]; rw [L6_eq]; unfold F6; simp (disch := omega) only [inb_nat, cast_lt, Int.toNat_natCast, wI_succ]
      rw [drop_cons ([], [], []) hj, decide_cons, laws_eqRule.law _ _ (by first | omega | (simp only at hm ⊢; omega))]
      simp only [hi, hj, decide_true, cond_true, Option.bind_some, ih, bne_dec, beq_dec]
      cases decide (xs.getD i ([], [], []) = ys.getD i ([], [], [])) <;> rfl)
    simpa using h
  · rw [show ((xs.length : Int) != (ys.length : Int)) = true by simp; omega, cond_true]
    have : xs ≠ ys := fun e => hl (by rw [e])
    simp [this]
end laws_eqRuleS
namespace laws_eqSystem
theorem law (x y : (List (Int × Int × Int)) × List ((List (Int × Int × Int × Int)) × (List Int) × List (List (Int × Int × Int × Int)))) (hx : (fun (x : (List (Int × Int × Int)) × List ((List (Int × Int × Int × Int)) × (List Int) × List (List (Int × Int × Int × Int)))) => List.length x.1 + (mL (fun (x : (List (Int × Int × Int × Int)) × (List Int) × List (List (Int × Int × Int × Int))) => List.length x.1 + List.length x.2.1 + (mL List.length) x.2.2)) x.2) x ≤ 1048576) : impl (x, y, ()) = some (decide (x = y), ()) := by
  obtain ⟨a0, a1⟩ := x
  obtain ⟨b0, b1⟩ := y
  simp only at hx
  rw [impl_eq]; unfold F0
  simp (disch := first | omega | (simp only; omega)) only [laws_eqRuleS.law]
  simp (disch := first | omega | (simp only; omega)) only [laws_eqVarS.law]
  simp only [Option.bind_some, Prod.mk.injEq, Bool.decide_and, bne_dec, beq_dec]
  cases decide (a0 = b0) <;> cases decide (a1 = b1) <;> rfl
end laws_eqSystem
namespace laws_eqModel
theorem law (x y : (List (List UInt8)) × ((List (Int × Int × Int)) × List ((List (Int × Int × Int × Int)) × (List Int) × List (List (Int × Int × Int × Int)))) × List (List (Int × Int × Int × Int))) (hx : (fun (x : (List (List UInt8)) × ((List (Int × Int × Int)) × List ((List (Int × Int × Int × Int)) × (List Int) × List (List (Int × Int × Int × Int)))) × List (List (Int × Int × Int × Int))) => (mL List.length) x.1 + (fun (x : (List (Int × Int × Int)) × List ((List (Int × Int × Int × Int)) × (List Int) × List (List (Int × Int × Int × Int)))) => List.length x.1 + (mL (fun (x : (List (Int × Int × Int × Int)) × (List Int) × List (List (Int × Int × Int × Int))) => List.length x.1 + List.length x.2.1 + (mL List.length) x.2.2)) x.2) x.2.1 + (mL List.length) x.2.2) x ≤ 1048576) : impl (x, y, ()) = some (decide (x = y), ()) := by
  obtain ⟨a0, a1, a2⟩ := x
  obtain ⟨b0, b1, b2⟩ := y
  simp only at hx
  rw [impl_eq]; unfold F0
  simp (disch := first | omega | (simp only; omega)) only [laws_eqStringS.law]
  simp (disch := first | omega | (simp only; omega)) only [laws_eqSystem.law]
  simp (disch := first | omega | (simp only; omega)) only [laws_eqTermSS.law]
  simp only [Option.bind_some, Prod.mk.injEq, Bool.decide_and, bne_dec, beq_dec]
  cases decide (a0 = b0) <;> cases decide (a1 = b1) <;> cases decide (a2 = b2) <;> rfl
end laws_eqModel
/-! ### names -/
def goAt (s : List UInt8) : Nat → List (List UInt8) → Int
  | _, [] => -1
  | i, x :: r => if x = s then (i : Int) else goAt s (i + 1) r
namespace spec_l30At
theorem law (xs : List (List UInt8)) (s : List UInt8) (hx : xs.length ≤ 1048576) : impl (xs, s, ()) = some (goAt s 0 xs, ()) := by
  rw [impl_eq]; unfold F0
  refine up_list0 xs [] (fun i => L2 (xs, s, (i : Int), ())) (fun i r => some (goAt s i r, ())) ?_ ?_
  · rw [L2_eq]; unfold F2; grind [goAt]
  · intro i hi ih
    rw [L2_eq]; unfold F2; simp (disch := omega) only [inb_nat, cast_lt, Int.toNat_natCast, wI_succ]; grind [goAt]
end spec_l30At
namespace slices_Index_of
theorem law (xs : List (List UInt8)) (s : List UInt8) (hx : xs.length ≤ 1048576) : impl (xs, s, ()) = some (goAt s 0 xs, ()) := by
  rw [impl_eq]; unfold F0
  refine up_list0 xs [] (fun i => L2 (xs, s, (xs.length : Int), (i : Int), ())) (fun i r => some (goAt s i r, ())) ?_ ?_
  · rw [L2_eq]; unfold F2; grind [goAt]
  · intro i hi ih
    rw [L2_eq]; unfold F2; simp (disch := omega) only [inb_nat, cast_lt, Int.toNat_natCast, wI_succ]; grind [goAt]
end slices_Index_of
def isLow (b : UInt8) : Bool := decide (97 ≤ b.toNat) && decide (b.toNat ≤ 122)
def nameOk (s : List UInt8) : Bool := s.all isLow && decide (1 ≤ s.length) && decide (s.length ≤ 8)
namespace spec_l30Name
theorem law (s : List UInt8) (hx : s.length ≤ 1048576) : impl (s, ()) = some (nameOk s, ()) := by
  rw [impl_eq]; unfold F0
  refine (up_list0 s 0 (fun i => L2 (s, (i : Int), ())) (fun i r => some (r.all isLow && (decide (1 ≤ s.length) && decide (s.length ≤ 8)), ())) ?_ ?_).trans (by simp [nameOk, Bool.and_assoc])
  · rw [L2_eq]; unfold F2; rw [spec_l1In.law]; grind [in3]
  · intro i hi ih
    rw [L2_eq]; unfold F2; simp (disch := omega) only [inb_nat, cast_lt, Int.toNat_natCast, wI_succ]; grind [isLow]
end spec_l30Name
theorem contains_az (b : UInt8) : ([97, 98, 99, 100, 101, 102, 103, 104, 105, 106, 107, 108, 109, 110, 111, 112, 113, 114, 115, 116, 117, 118, 119, 120, 121, 122] : List UInt8).contains b = isLow b := by
  have : ∀ n : Fin 256, ([97, 98, 99, 100, 101, 102, 103, 104, 105, 106, 107, 108, 109, 110, 111, 112, 113, 114, 115, 116, 117, 118, 119, 120, 121, 122] : List UInt8).contains (UInt8.ofNat n.val) = isLow (UInt8.ofNat n.val) := by decide +kernel
  have h := this ⟨b.toNat, b.toNat_lt⟩
  simpa using h
theorem trim_az (s : List UInt8) : (Lib.trimS s [97, 98, 99, 100, 101, 102, 103, 104, 105, 106, 107, 108, 109, 110, 111, 112, 113, 114, 115, 116, 117, 118, 119, 120, 121, 122] == []) = s.all isLow := by
  rw [Bool.eq_iff_iff, beq_iff_eq, trim_empty, List.all_eq_true]
  simp only [contains_az]
namespace impl_nameOk
theorem law (s : List UInt8) (hx : s.length ≤ 1048576) : impl (s, ()) = some (nameOk s, ()) := by
  rw [impl_eq]; unfold F0
  rw [impl_in.law, Option.bind_some]
  have : lib_Trim.impl (s, [97, 98, 99, 100, 101, 102, 103, 104, 105, 106, 107, 108, 109, 110, 111, 112, 113, 114, 115, 116, 117, 118, 119, 120, 121, 122], ()) = some (Lib.trimS s [97, 98, 99, 100, 101, 102, 103, 104, 105, 106, 107, 108, 109, 110, 111, 112, 113, 114, 115, 116, 117, 118, 119, 120, 121, 122], ()) := by
    show trimI _ = _
    unfold trimI
    rw [show (decide (s.length ≤ 9223372036854775807)) = true from decide_eq_true (by omega)]
    rfl
  rw [this, Option.bind_some, trim_az]
  unfold nameOk
  grind [in3]
end impl_nameOk
namespace slices_Contains_of
theorem law (xs : List (List UInt8)) (s : List UInt8) (hx : xs.length ≤ 1048576) : impl (xs, s, ()) = some (decide (goAt s 0 xs ≥ 0), ()) := by
  rw [impl_eq]; unfold F0
  rw [slices_Index_of.law _ _ hx]; rfl
end slices_Contains_of
/-- names, each once, behind those that were there -/
def namesGo (old : List (List UInt8)) : List (List UInt8) → Bool
  | [] => true
  | x :: r => nameOk x && (!decide (goAt x 0 old ≥ 0) && namesGo (old ++ [x]) r)
def namesOk (xs : List (List UInt8)) : Bool := decide (xs.length ≤ 5) && namesGo [] xs
theorem namesGo_mem : ∀ (xs old : List (List UInt8)), namesGo old xs = true → ∀ x ∈ xs, nameOk x = true
  | [], _, _, x, hx => by cases hx
  | y :: r, old, h, x, hx => by
    simp only [namesGo, Bool.and_eq_true] at h
    rcases List.mem_cons.1 hx with rfl | hx
    · exact h.1
    · exact namesGo_mem r _ h.2.2 x hx
theorem namesOk_mem {xs : List (List UInt8)} (h : namesOk xs = true) : xs.length ≤ 5 ∧ ∀ x ∈ xs, nameOk x = true := by
  simp only [namesOk, Bool.and_eq_true, decide_eq_true_eq] at h
  exact ⟨h.1, namesGo_mem xs [] h.2⟩
theorem nameOk_len {x : List UInt8} (h : nameOk x = true) : 1 ≤ x.length ∧ x.length ≤ 8 := by
  simp only [nameOk, Bool.and_eq_true, decide_eq_true_eq] at h
  exact ⟨h.1.2, h.2⟩
def szS (xs : List (List UInt8)) : Nat := (xs.map List.length).sum + xs.length
theorem szS_mem {xs : List (List UInt8)} {x : List UInt8} (h : x ∈ xs) : x.length + 1 ≤ szS xs := by
  unfold szS
  induction xs with
  | nil => cases h
  | cons y r ih =>
    simp only [List.map_cons, List.sum_cons, List.length_cons]
    rcases List.mem_cons.1 h with rfl | h
    · omega
    · have := ih h; omega
namespace spec_NamesValid
theorem law (xs : List (List UInt8)) (hx : szS xs ≤ 1048576) : impl (xs, ()) = some (namesOk xs, ()) := by
  have hl : xs.length ≤ 1048576 := by unfold szS at hx; omega
  rw [impl_eq]; unfold F0
  refine (up_list0 xs [] (fun i => L2 (xs, (i : Int), ())) (fun i r => some (namesGo (xs.take i) r && decide (xs.length ≤ 5), ())) ?_ ?_).trans (by simp [namesOk, Bool.and_comm])
  · rw [L2_eq]; unfold F2; rw [show decide ((xs.length : Int) ≤ 5) = decide (xs.length ≤ 5) from decide_eq_decide.2 (by omega)]; grind [namesGo]
  · intro i hi ih
    have hm := szS_mem (getD_mem (d := []) hi)
    rw [L2_eq]; unfold F2; rw [L4_eq]; unfold F4; simp (disch := omega) only [inb_nat, cast_lt, Int.toNat_natCast, wI_succ]
    rw [spec_l30Name.law _ (by omega), List.drop_zero, spec_l30At.law _ _ (by simp; omega)]
    rw [take_snoc [] hi] at ih
    grind [namesGo]
end spec_NamesValid
namespace impl_NamesValid
theorem law (xs : List (List UInt8)) (hx : szS xs ≤ 1048576) : impl (xs, ()) = some (namesOk xs, ()) := by
  have hl : xs.length ≤ 1048576 := by unfold szS at hx; omega
  rw [impl_eq]; unfold F0
  have h := up_list0 xs [] (fun i => L4 (xs, xs, (xs.length : Int), (i : Int), ())) (fun i r => some (namesGo (xs.take i) r, ())) (by
    rw [L4_eq]; unfold F4; grind [namesGo]) (by
    intro i hi ih
    have hm := szS_mem (getD_mem (d := []) hi)
    rw [L4_eq]; unfold F4; simp (disch := omega) only [inb_nat, cast_lt, Int.toNat_natCast, wI_succ]
    rw [impl_nameOk.law _ (by omega), List.drop_zero, slices_Contains_of.law _ _ (by simp; omega)]
    rw [take_snoc [] hi] at ih
    grind [namesGo])
  rw [List.take_zero] at h
  unfold namesOk
  grind
end impl_NamesValid
/-! ### Expressions: their kinds -/
def wantK (op : Int) : Int := if 7 ≤ op then 2 else 1
def ownK (op : Int) : Int := if 5 ≤ op then 2 else 1
def third (t : I4) (acc : List Int) : Bool :=
  in3 t.1 2 9 && (t.2.1 == 0 && (in3 t.2.2.1 0 (acc.length - 1) && (in3 t.2.2.2 0 (acc.length - 1) && (acc.getD t.2.2.1.toNat 0 == wantK t.1 && (acc.getD t.2.2.2.toNat 0 == wantK t.1 && (!(t.1 == 7) || t.2.2.2 == t.2.2.1))))))
/-- the kind of a term behind terms of these kinds -/
def termKind (t : I4) (acc : List Int) (vars : Int) : Int :=
  bif t.1 == 0 && (in3 t.2.1 (-9999) 9999 && (t.2.2.1 == 0 && t.2.2.2 == 0)) then 1
  else bif t.1 == 1 && (in3 t.2.1 0 (vars - 1) && (t.2.2.1 == 0 && t.2.2.2 == 0)) then 1
  else bif third t acc then ownK t.1 else 0
def kindsGo (vars : Int) : List I4 → List Int → List Int
  | [], acc => acc
  | t :: ts, acc => bif termKind t acc vars == 0 then [] else kindsGo vars ts (acc ++ [termKind t acc vars])
def kinds (xs : List I4) (vars : Int) : List Int := bif in3 vars 0 5 && in3 xs.length 1 40 then kindsGo vars xs [] else []
theorem ownK_ne (op : Int) : (ownK op == 0) = false := by unfold ownK; split <;> rfl

namespace spec_l1One
theorem law (x : Int) : impl (x, ()) = some (x == 7, ()) := rfl
end spec_l1One
namespace spec_l1Kind
theorem law (t : I4) (acc : List Int) (vars : Int) (hl : acc.length ≤ 1048576) (hv : 0 ≤ vars ∧ vars ≤ 1048576) : impl (t, acc, vars, ()) = some (termKind t acc vars, ()) := by
  obtain ⟨op, n, a, b⟩ := t
  have h5 : L5 (acc, op, n, a, b, ()) = some (bif third (op, n, a, b) acc then ownK op else 0, ()) := by
    rw [L5_eq]; unfold F5
    simp only [spec_l1In.law, Option.bind_some, wI_small (n := (acc.length : Int) - 1) (by omega) (by omega)]
    unfold third
    simp only
    cases e1 : in3 op 2 9 with
    | false => rfl
    | true => cases e2 : n == 0 with
      | false =>
        have e2' : (n != 0) = true := by unfold bne; rw [e2]; rfl
        rw [e2']; rfl
      | true =>
        have e2' : n = 0 := by simpa using e2
        subst e2'
        cases e3 : in3 a 0 ((acc.length : Int) - 1) with
        | false => rfl
        | true => cases e4 : in3 b 0 ((acc.length : Int) - 1) with
          | false => rfl
          | true =>
            rw [in3_iff] at e1 e3 e4
            have ha : inb a acc.length = true := inb_int (by omega) (by omega)
            have hb : inb b acc.length = true := inb_int (by omega) (by omega)
            simp only [Bool.not_true, cond_false, bne_self_eq_false]
            have h10 : L10 (acc, wantK op, op, 0, a, b, ()) = some (bif (acc.getD a.toNat 0 == wantK op && (acc.getD b.toNat 0 == wantK op && (!(op == 7) || b == a))) then ownK op else 0, ()) := by
              rw [L10_eq]; unfold F10
              simp only [ha, hb, cond_true, spec_l1One.law, Option.bind_some]
              have ho : (bif decide (op ≥ 5) then some ((2 : Int), ()) else some (1, ())) = some (ownK op, ()) := by
                unfold ownK
                by_cases h : 5 ≤ op
                · rw [decide_eq_true (show op ≥ 5 from h), if_pos h]; rfl
                · rw [decide_eq_false (show ¬ op ≥ 5 from h), if_neg h]; rfl
              rw [ho]
              cases f1 : acc.getD a.toNat 0 == wantK op with
              | false =>
                have f1' : (acc.getD a.toNat 0 != wantK op) = true := by unfold bne; rw [f1]; rfl
                rw [f1']; rfl
              | true =>
                have f1' : (acc.getD a.toNat 0 != wantK op) = false := by unfold bne; rw [f1]; rfl
                rw [f1', cond_false]
                cases f2 : acc.getD b.toNat 0 == wantK op with
                | false =>
                  have f2' : (acc.getD b.toNat 0 != wantK op) = true := by unfold bne; rw [f2]; rfl
                  rw [f2']; rfl
                | true =>
                  have f2' : (acc.getD b.toNat 0 != wantK op) = false := by unfold bne; rw [f2]; rfl
                  rw [f2', cond_false]
                  cases op == 7 with
                  | false => rfl
                  | true => cases f3 : b == a with
                    | false =>
                      have f3' : (b != a) = true := by unfold bne; rw [f3]; rfl
                      rw [f3']; rfl
                    | true =>
                      have f3' : (b != a) = false := by unfold bne; rw [f3]; rfl
                      rw [f3']; rfl
            rw [L7_eq]; unfold F7
            by_cases h7 : 7 ≤ op
            · have : wantK op = 2 := by unfold wantK; rw [if_pos h7]
              rw [this] at h10
              rw [decide_eq_true (show op ≥ 7 from h7), cond_true, h10, this]
              rfl
            · have : wantK op = 1 := by unfold wantK; rw [if_neg h7]
              rw [this] at h10
              rw [decide_eq_false (show ¬ op ≥ 7 from h7), cond_false, h10, this]
              rfl
  have h3 : L3 (acc, vars, op, n, a, b, ()) = some (bif op == 1 && (in3 n 0 (vars - 1) && (a == 0 && b == 0)) then 1 else bif third (op, n, a, b) acc then ownK op else 0, ()) := by
    rw [L3_eq]; unfold F3
    simp only [spec_l1In.law, Option.bind_some, wI_small (n := vars - 1) (by omega) (by omega), h5]
    cases op == 1 <;> cases in3 n 0 (vars - 1) <;> cases a == 0 <;> cases b == 0 <;> rfl
  rw [impl_eq]; unfold F0 termKind
  simp only [spec_l1In.law, Option.bind_some, h3]
  cases op == 0 <;> cases in3 n (-9999) 9999 <;> cases a == 0 <;> cases b == 0 <;> rfl
end spec_l1Kind
namespace spec_KindsOf
theorem loop (xs : List I4) (vars : Int) (hv : 0 ≤ vars ∧ vars ≤ 1048576) (hx : xs.length ≤ 1048576) : ∀ d i (acc : List Int), i + d = xs.length → acc.length = i → L5 (xs, vars, (i : Int), acc, ()) = some (kindsGo vars (xs.drop i) acc, ())
  | 0, i, acc, hi, ha => by
    have : i = xs.length := by omega
    subst this
    rw [L5_eq]; unfold F5
    simp [kindsGo]
  | d + 1, i, acc, hi, ha => by
    have hlt : i < xs.length := by omega
    rw [L5_eq]; unfold F5
    rw [lt_len, inb_true hlt, Int.toNat_natCast, spec_l1Kind.law _ _ _ (by omega) hv, Option.bind_some, wI_succ (by omega), List.drop_eq_getElem_cons hlt, getD_eq hlt]
    simp only [hlt, decide_true, cond_true, kindsGo]
    cases h : termKind xs[i] acc vars == 0 with
    | true => rfl
    | false =>
      simp only [cond_false]
      rw [decide_eq_true (by simp; omega), cond_true, loop xs vars hv hx d (i + 1) _ (by omega) (by simp [ha])]
theorem law (xs : List I4) (vars : Int) : impl (xs, vars, ()) = some (kinds xs vars, ()) := by
  rw [impl_eq]; unfold F0
  simp only [spec_l1In.law, Option.bind_some]
  unfold kinds
  cases h1 : in3 vars 0 5 with
  | false => rfl
  | true => cases h2 : in3 xs.length 1 40 with
    | false => rfl
    | true =>
      rw [in3_iff] at h1 h2
      simp only [Bool.not_true, cond_false, Bool.and_self, cond_true]
      rw [L3_eq]; unfold F3
      exact loop xs vars (by omega) (by omega) xs.length 0 [] (by omega) rfl
end spec_KindsOf
def termsOK (xs : List I4) (vars : Int) : Bool := !(kinds xs vars).isEmpty
namespace spec_TermsValid
theorem law (xs : List I4) (vars : Int) : impl (xs, vars, ()) = some (termsOK xs vars, ()) := by
  rw [impl_eq]; unfold F0 termsOK
  rw [spec_KindsOf.law, Option.bind_some]
  cases kinds xs vars <;> simp
end spec_TermsValid
namespace impl_parts
theorem law (op : Int) : impl (op, ()) = some (if 2 ≤ op ∧ op ≤ 9 then (if op = 7 then 1 else 2, wantK op, ownK op, ()) else (0, 0, 1, ())) := by
  rw [impl_eq]
  by_cases h : 2 ≤ op ∧ op ≤ 9
  · have : op = 2 ∨ op = 3 ∨ op = 4 ∨ op = 5 ∨ op = 6 ∨ op = 7 ∨ op = 8 ∨ op = 9 := by omega
    rcases this with rfl | rfl | rfl | rfl | rfl | rfl | rfl | rfl <;> rfl
  · rw [if_neg h]
    unfold F0
    have e2 : (op == 2) = false := by simp; omega
    have e3 : (op == 3) = false := by simp; omega
    have e4 : (op == 4) = false := by simp; omega
    have e5 : (op == 5) = false := by simp; omega
    have e6 : (op == 6) = false := by simp; omega
    have e7 : (op == 7) = false := by simp; omega
    have e8 : (op == 8) = false := by simp; omega
    have e9 : (op == 9) = false := by simp; omega
    rw [e2, e3, e4, e5, e6, e7, e8, e9]; rfl
end impl_parts
namespace impl_kindsOf
theorem step {xs : List I4} {vars : Int} {i : Nat} {acc : List Int} (hv : 0 ≤ vars ∧ vars ≤ 1048576) (hx : xs.length ≤ 1048576) (hi : i < xs.length) (ha : acc.length = i) :
    L5 (vars, xs, (xs.length : Int), (i : Int), acc, ()) = bif termKind (xs.getD i (0, 0, 0, 0)) acc vars == 0 then some ([], ()) else L5 (vars, xs, (xs.length : Int), ((i + 1 : Nat) : Int), acc ++ [termKind (xs.getD i (0, 0, 0, 0)) acc vars], ()) := by
  rw [L5_eq]; unfold F5
  rw [lt_len, inb_true hi, Int.toNat_natCast, wI_succ (by omega), wI_small (n := (i : Int) - 1) (by omega) (by omega), wI_small (n := vars - 1) (by omega) (by omega)]
  simp only [hi, decide_true, cond_true, impl_in.law, impl_parts.law, Option.bind_some]
  have hroom : ∀ k : Int, decide ((acc.length + ([k] : List Int).length) * 8 ≤ 140737488355328) = true := fun k => decide_eq_true (by simp; omega)
  simp only [hroom, cond_true]
  generalize xs.getD i (0, 0, 0, 0) = t
  obtain ⟨op, n, a, b⟩ := t
  generalize hz : (fun k : Int => L5 (vars, xs, (xs.length : Int), ((i + 1 : Nat) : Int), acc ++ [k], ())) = z
  have hz' : ∀ k, L5 (vars, xs, (xs.length : Int), ((i + 1 : Nat) : Int), acc ++ [k], ()) = z k := fun k => by rw [← hz]
  simp only [hz']
  unfold termKind third
  simp only
  rw [ha]
  by_cases h0 : op = 0
  · subst h0
    rw [if_neg (by omega)]
    simp only [show ((0 : Int) == 0) = true by rfl, show ((0 : Int) == 1) = false by rfl, show in3 0 2 9 = false by rfl, cond_true, cond_false, Bool.true_and, Bool.false_and]
    cases in3 n (-9999) 9999 <;> cases a == 0 <;> cases b == 0 <;> rfl
  · by_cases h1 : op = 1
    · subst h1
      rw [if_neg (by omega)]
      simp only [show ((1 : Int) == 0) = false by rfl, show ((1 : Int) == 1) = true by rfl, show in3 1 2 9 = false by rfl, cond_true, cond_false, Bool.true_and, Bool.false_and]
      cases in3 n 0 (vars - 1) <;> cases a == 0 <;> cases b == 0 <;> rfl
    · have e0 : (op == 0) = false := by simpa using h0
      have e1 : (op == 1) = false := by simpa using h1
      simp only [e0, e1, cond_false, Bool.false_and]
      by_cases h2 : 2 ≤ op ∧ op ≤ 9
      · have i1 : in3 op 0 9 = true := in3_iff.2 (by omega)
        have i2 : in3 op 2 9 = true := in3_iff.2 h2
        rw [if_pos h2]
        simp only [i1, i2, cond_true, Bool.true_and]
        cases n == 0 with
        | false => rfl
        | true => cases e3 : in3 a 0 ((i : Int) - 1) with
          | false => rfl
          | true => cases e4 : in3 b 0 ((i : Int) - 1) with
            | false => rfl
            | true =>
              rw [in3_iff] at e3 e4
              simp only [inb_int (show 0 ≤ a by omega) (show a < ((i : Nat) : Int) by omega), inb_int (show 0 ≤ b by omega) (show b < ((i : Nat) : Int) by omega), cond_true, Bool.true_and]
              cases acc.getD a.toNat 0 == wantK op with
              | false => rfl
              | true => cases acc.getD b.toNat 0 == wantK op with
                | false => rfl
                | true =>
                  by_cases h7 : op = 7
                  · subst h7
                    simp only [if_true, show ((7 : Int) == 7) = true by rfl, show ((1 : Int) == 2) = false by rfl, Bool.true_and, cond_true, cond_false, Bool.not_true, Bool.false_or]
                    have : (a == b) = (b == a) := Bool.eq_iff_iff.2 (by simp; omega)
                    rw [this]
                    cases b == a with
                    | false => rfl
                    | true => rfl
                  · have e7 : (op == 7) = false := by simpa using h7
                    simp only [if_neg h7, e7, show ((2 : Int) == 2) = true by rfl, Bool.true_and, cond_true, Bool.not_false, Bool.true_or, ownK_ne, cond_false]
      · have i1 : in3 op 0 9 = false := by rw [← Bool.not_eq_true, in3_iff]; omega
        have i2 : in3 op 2 9 = false := by rw [← Bool.not_eq_true, in3_iff]; omega
        rw [if_neg h2]
        simp only [i1, i2]
        rfl
theorem loop (xs : List I4) (vars : Int) (hv : 0 ≤ vars ∧ vars ≤ 1048576) (hx : xs.length ≤ 1048576) : ∀ d i (acc : List Int), i + d = xs.length → acc.length = i → (d = 0 → acc ≠ []) → L5 (vars, xs, (xs.length : Int), (i : Int), acc, ()) = some (kindsGo vars (xs.drop i) acc, ())
  | 0, i, acc, hi, ha, hne => by
    have : i = xs.length := by omega
    subst this
    rw [L5_eq]; unfold F5
    have : acc.isEmpty = false := by cases acc with | nil => exact absurd rfl (hne rfl) | cons _ _ => rfl
    simp [kindsGo, this]
  | d + 1, i, acc, hi, ha, _ => by
    have hlt : i < xs.length := by omega
    rw [step hv hx hlt ha, List.drop_eq_getElem_cons hlt, getD_eq hlt]
    simp only [kindsGo]
    cases h : termKind xs[i] acc vars == 0 with
    | true => rfl
    | false => exact loop xs vars hv hx d (i + 1) _ (by omega) (by simp [ha]) (fun _ => by simp)
theorem law (xs : List I4) (vars : Int) : impl (xs, vars, ()) = some (kinds xs vars, ()) := by
  rw [impl_eq]; unfold F0
  simp only [impl_in.law, Option.bind_some]
  unfold kinds
  cases h1 : in3 vars 0 5 with
  | false => rfl
  | true => cases h2 : in3 xs.length 1 40 with
    | false => rfl
    | true =>
      rw [in3_iff] at h1 h2
      simp only [Bool.not_true, cond_false, Bool.and_self, cond_true]
      rw [L3_eq]; unfold F3
      rw [decide_eq_true (by omega), decide_eq_true (by omega)]
      exact loop xs vars (by omega) (by omega) xs.length 0 [] (by omega) rfl (fun h => by omega)
end impl_kindsOf
namespace impl_TermsValid
theorem law (xs : List I4) (vars : Int) : impl (xs, vars, ()) = some (termsOK xs vars, ()) := by
  rw [impl_eq]; unfold F0 termsOK
  rw [impl_kindsOf.law]; rfl
end impl_TermsValid

/-! what a valid expression is -/
def TermAt (t : I4) (i : Nat) : Prop :=
  t.1 = 0 ∨ t.1 = 1 ∨ (2 ≤ t.1 ∧ t.1 ≤ 9 ∧ t.2.1 = 0 ∧ 0 ≤ t.2.2.1 ∧ t.2.2.1 < i ∧ 0 ≤ t.2.2.2 ∧ t.2.2.2 < i ∧ (t.1 = 7 → t.2.2.2 = t.2.2.1))
theorem termKind_at {t : I4} {acc : List Int} {vars : Int} (h : (termKind t acc vars == 0) = false) : TermAt t acc.length := by
  unfold termKind at h
  cases e1 : (t.1 == 0 && (in3 t.2.1 (-9999) 9999 && (t.2.2.1 == 0 && t.2.2.2 == 0))) with
  | true => simp only [Bool.and_eq_true, beq_iff_eq] at e1; exact .inl e1.1
  | false =>
    rw [e1, cond_false] at h
    cases e2 : (t.1 == 1 && (in3 t.2.1 0 (vars - 1) && (t.2.2.1 == 0 && t.2.2.2 == 0))) with
    | true => simp only [Bool.and_eq_true, beq_iff_eq] at e2; exact .inr (.inl e2.1)
    | false =>
      rw [e2, cond_false] at h
      cases e3 : third t acc with
      | false => rw [e3] at h; cases h
      | true =>
        unfold third at e3
        simp only [Bool.and_eq_true, beq_iff_eq, in3_iff, Bool.or_eq_true, Bool.not_eq_true', beq_eq_false_iff_ne, ne_eq] at e3
        refine .inr (.inr ⟨e3.1.1, e3.1.2, e3.2.1, e3.2.2.1.1, by omega, e3.2.2.2.1.1, by omega, fun h7 => ?_⟩)
        rcases e3.2.2.2.2.2.2 with h | h
        · exact absurd h7 h
        · exact h
theorem kindsGo_at {vars : Int} : ∀ {xs : List I4} {acc : List Int}, (kindsGo vars xs acc).isEmpty = false → acc.length + xs.length = (kindsGo vars xs acc).length ∧ ∀ j, j < xs.length → TermAt (xs.getD j (0, 0, 0, 0)) (acc.length + j)
  | [], acc, h => by simp [kindsGo]
  | t :: ts, acc, h => by
    unfold kindsGo at h ⊢
    cases e : termKind t acc vars == 0 with
    | true => rw [e] at h; cases h
    | false =>
      rw [e] at h
      simp only [cond_false] at h ⊢
      obtain ⟨h1, h2⟩ := kindsGo_at h
      simp only [List.length_append, List.length_cons, List.length_nil] at h1 h2 ⊢
      refine ⟨by omega, fun j hj => ?_⟩
      cases j with
      | zero => simpa using termKind_at e
      | succ j =>
        have := h2 j (by omega)
        rw [show acc.length + (0 + 1) + j = acc.length + (j + 1) by omega] at this
        simpa using this
def Terms (xs : List I4) : Prop := ∀ i, i < xs.length → TermAt (xs.getD i (0, 0, 0, 0)) i
theorem terms_of {xs : List I4} {vars : Int} (h : termsOK xs vars = true) : Terms xs ∧ 1 ≤ xs.length ∧ xs.length ≤ 40 ∧ 0 ≤ vars ∧ vars ≤ 5 := by
  unfold termsOK kinds at h
  cases e : in3 vars 0 5 && in3 xs.length 1 40 with
  | false => rw [e] at h; cases h
  | true =>
    rw [e, cond_true] at h
    simp only [Bool.and_eq_true, in3_iff] at e
    have := (kindsGo_at (show (kindsGo vars xs []).isEmpty = false by simpa using h)).2
    exact ⟨fun i hi => by simpa using this i hi, by omega, by omega, by omega, by omega⟩
/-! ### systems -/
abbrev Var' := Int × Int × Int
abbrev Rule' := List I4 × List Int × List (List I4)
def varOk (v : Var') : Bool := in3 v.1 (-9999) 9999 && (in3 v.2.1 v.1 9999 && (decide (v.2.1 - v.1 < 20) && in3 v.2.2 v.1 v.2.1))
namespace spec_l2Var
theorem law (v : Var') : impl (v, ()) = some (varOk v, ()) := by
  obtain ⟨a, b, c⟩ := v
  rw [impl_eq]; unfold F0 varOk
  simp only [spec_l1In.law, Option.bind_some]
  cases h1 : in3 a (-9999) 9999 with
  | false => rfl
  | true => cases h2 : in3 b a 9999 with
    | false => rfl
    | true =>
      rw [in3_iff] at h1 h2
      rw [wI_small (by omega) (by omega)]
      cases decide (b - a < 20) <;> rfl
end spec_l2Var
namespace impl_varOk
theorem law (v : Var') : impl (v, ()) = some (varOk v, ()) := by
  obtain ⟨a, b, c⟩ := v
  rw [impl_eq]; unfold F0 varOk
  simp only [impl_in.law, Option.bind_some]
  cases h1 : in3 a (-9999) 9999 with
  | false => rfl
  | true => cases h2 : in3 b a 9999 with
    | false => rfl
    | true =>
      rw [in3_iff] at h1 h2
      rw [wI_small (by omega) (by omega)]
      cases decide (b - a < 20) <;> rfl
end impl_varOk
/-- the kind of the last term, or 0 -/
def lastK (xs : List I4) (vars : Int) : Int := (kinds xs vars).getLastD 0
theorem kindsGo_pos (vars : Int) : ∀ (xs : List I4) (acc : List Int), (∀ k ∈ acc, k = 1 ∨ k = 2) → ∀ k ∈ kindsGo vars xs acc, k = 1 ∨ k = 2
  | [], acc, h, k, hk => h k hk
  | t :: ts, acc, h, k, hk => by
    unfold kindsGo at hk
    cases e : termKind t acc vars == 0 with
    | true => rw [e] at hk; cases hk
    | false =>
      rw [e, cond_false] at hk
      refine kindsGo_pos vars ts _ (fun k hk => ?_) k hk
      rcases List.mem_append.1 hk with hk | hk
      · exact h k hk
      · rw [List.mem_singleton] at hk
        subst hk
        unfold termKind ownK at *
        grind
theorem kinds_pos {xs : List I4} {vars : Int} : ∀ k ∈ kinds xs vars, k = 1 ∨ k = 2 := by
  unfold kinds
  cases in3 vars 0 5 && in3 xs.length 1 40 with
  | false => intro k hk; cases hk
  | true => exact kindsGo_pos vars xs [] (fun k hk => by cases hk)
theorem kinds_len (xs : List I4) (vars : Int) : (kinds xs vars).length ≤ 40 := by
  unfold kinds
  cases e : in3 vars 0 5 && in3 xs.length 1 40 with
  | false => simp
  | true =>
    simp only [Bool.and_eq_true, in3_iff] at e
    rw [cond_true]
    cases h : (kindsGo vars xs []).isEmpty with
    | true => rw [List.isEmpty_iff] at h; rw [h]; simp
    | false => have := (kindsGo_at h).1; simp at this; omega
theorem last_get {ks : List Int} (h : ks ≠ []) : ks.getD (ks.length - 1) 0 = ks.getLastD 0 := by
  cases ks with
  | nil => exact absurd rfl h
  | cons a r => simp [List.getLastD_eq_getLast?, List.getLast?_eq_getElem?, List.getD_eq_getElem?_getD]
def isK (xs : List I4) (vars kind : Int) : Bool := lastK xs vars == kind
namespace spec_l2Is
theorem law (xs : List I4) (vars kind : Int) (hk : kind ≠ 0) : impl (xs, vars, kind, ()) = some (isK xs vars kind, ()) := by
  rw [impl_eq]; unfold F0 isK lastK
  rw [spec_KindsOf.law, Option.bind_some]
  have hl := kinds_len xs vars
  generalize kinds xs vars = ks at *
  cases ks with
  | nil => simp; exact fun e => hk e.symm
  | cons a r =>
    have hl' : 1 ≤ (a :: r).length := by simp
    rw [pos_len, wI_small (n := ((a :: r).length : Int) - 1) (by omega) (by omega), inb_int (i := ((a :: r).length : Int) - 1) (n := (a :: r).length) (by omega) (by omega)]
    have := last_get (ks := a :: r) (by simp)
    rw [show (((a :: r).length : Int) - 1).toNat = (a :: r).length - 1 by omega, this]
    rfl
end spec_l2Is
namespace impl_kindOf
theorem law (xs : List I4) (vars : Int) : impl (xs, vars, ()) = some (lastK xs vars, ()) := by
  rw [impl_eq]; unfold F0 lastK
  rw [impl_kindsOf.law, Option.bind_some]
  have hl := kinds_len xs vars
  generalize kinds xs vars = ks at *
  cases ks with
  | nil => rfl
  | cons a r =>
    have hl' : 1 ≤ (a :: r).length := by simp
    rw [wI_small (n := ((a :: r).length : Int) - 1) (by omega) (by omega), inb_int (i := ((a :: r).length : Int) - 1) (n := (a :: r).length) (by omega) (by omega)]
    have := last_get (ks := a :: r) (by simp)
    rw [show (((a :: r).length : Int) - 1).toNat = (a :: r).length - 1 by omega, this]
    rfl
end impl_kindOf
/-- sets and terms of a rule, from one on; 'old': what was set last -/
def setsGo (vars : Int) : Option Int → List Int → List (List I4) → Bool
  | old, v :: vs, t :: ts => in3 v 0 (vars - 1) && ((match old with | some u => decide (u < v) | none => true) && (isK t vars 1 && setsGo vars (some v) vs ts))
  | _, _, _ => true
def ruleOk (r : Rule') (vars : Int) : Bool := isK r.1 vars 2 && (decide (r.2.1.length = r.2.2.length) && setsGo vars none r.2.1 r.2.2)
/-- rising numbers in a range are not many -/
theorem setsGo_len {vars : Int} : ∀ {vs : List Int} {ts : List (List I4)} {u : Int}, setsGo vars (some u) vs ts = true → vs.length = ts.length → vs = [] ∨ u + vs.length ≤ vars - 1
  | [], _, _, _, _ => .inl rfl
  | v :: vs, [], _, _, h => by simp at h
  | v :: vs, t :: ts, u, h, hl => by
    simp only [setsGo, Bool.and_eq_true, in3_iff, decide_eq_true_eq] at h
    right
    rcases setsGo_len h.2.2.2 (by simpa using hl) with h1 | h1
    · subst h1; simp; omega
    · simp only [List.length_cons]; omega
theorem setsGo_many {vars : Int} {vs : List Int} {ts : List (List I4)} (h : setsGo vars none vs ts = true) (hl : vs.length = ts.length) (hv : 0 ≤ vars) : (vs.length : Int) ≤ vars := by
  cases vs with
  | nil => simpa using hv
  | cons v vs => cases ts with
    | nil => simp at hl
    | cons t ts =>
      simp only [setsGo, Bool.and_eq_true, in3_iff] at h
      rcases setsGo_len h.2.2.2 (by simpa using hl) with h1 | h1
      · subst h1; simp; omega
      · simp only [List.length_cons]; omega
def before (sets : List Int) (i : Nat) : Option Int := if i = 0 then none else some (sets.getD (i - 1) 0)
namespace spec_l2Rule
theorem law (r : Rule') (vars : Int) (hv : 0 ≤ vars ∧ vars ≤ 1048576) (hr : r.2.1.length ≤ 1048576) : impl (r, vars, ()) = some (ruleOk r vars, ()) := by
  obtain ⟨wh, sets, terms⟩ := r
  simp only at hr
  rw [impl_eq]; unfold F0 ruleOk
  rw [spec_l2Is.law _ _ _ (by decide), Option.bind_some]
  cases hw : isK wh vars 2 with
  | false => rfl
  | true =>
    by_cases hl : sets.length = terms.length
    rotate_left
    · rw [show ((sets.length : Int) != (terms.length : Int)) = true by simp; omega, decide_eq_false hl]; rfl
    rw [show ((sets.length : Int) != (terms.length : Int)) = false by simp [hl], decide_eq_true hl]
    by_cases hm : (sets.length : Int) > vars
    · cases hs : setsGo vars none sets terms with
      | true => have := setsGo_many hs hl hv.1; omega
      | false => rw [decide_eq_true hm]; rfl
    rw [decide_eq_false hm, L3_eq]; unfold F3
    have key := up_list0 sets 0 (fun i => L4 (vars, (i : Int), wh, sets, terms, ())) (fun i r => some (setsGo vars (before sets i) r (terms.drop i), ())) (by
      rw [L4_eq]; unfold F4; simp (disch := omega) only [inb_nat, cast_lt, Int.toNat_natCast, wI_succ]
      rw [decide_eq_false (Nat.lt_irrefl _)]; simp [setsGo]) (by
      intro i hi ih
      have hj : i < terms.length := by omega
      rw [L4_eq]; unfold F4; simp (disch := omega) only [inb_nat, cast_lt, Int.toNat_natCast, wI_succ]
      rw [decide_eq_true hi, cond_true, L6_eq]; unfold F6; simp (disch := omega) only [inb_nat, cast_lt, Int.toNat_natCast, wI_succ]
      rw [drop_cons [] hj, spec_l1In.law, wI_small (n := vars - 1) (by omega) (by omega)]
      simp only [spec_l2Is.law _ _ 1 (by decide), Option.bind_some, hi, hj, decide_true, cond_true]
      have hb : before sets (i + 1) = some (sets.getD i 0) := rfl
      rw [hb] at ih
      unfold setsGo before
      by_cases h0 : i = 0
      · subst h0
        rw [decide_eq_false (by omega), if_pos rfl, ih]
        cases in3 (sets.getD 0 0) 0 (vars - 1) <;> cases isK (terms.getD 0 []) vars 1 <;> rfl
      · rw [decide_eq_true (by omega), if_neg h0, ih, wI_small (n := (i : Int) - 1) (by omega) (by omega), inb_int (by omega) (by omega), show ((i : Int) - 1).toNat = i - 1 by omega]
        have e : decide (sets.getD i 0 ≤ sets.getD (i - 1) 0) = !decide (sets.getD (i - 1) 0 < sets.getD i 0) := by
          by_cases h : sets.getD i 0 ≤ sets.getD (i - 1) 0
          · rw [decide_eq_true h, decide_eq_false (by omega)]; rfl
          · rw [decide_eq_false h, decide_eq_true (by omega)]; rfl
        rw [e]
        dsimp only
        cases in3 (sets.getD i 0) 0 (vars - 1) <;> cases isK (terms.getD i []) vars 1 <;> cases decide (sets.getD (i - 1) 0 < sets.getD i 0) <;> rfl)
    exact key
end spec_l2Rule
namespace impl_ruleOk
theorem law (r : Rule') (vars : Int) (hv : 0 ≤ vars ∧ vars ≤ 1048576) (hr : r.2.1.length ≤ 1048576) : impl (r, vars, ()) = some (ruleOk r vars, ()) := by
  obtain ⟨wh, sets, terms⟩ := r
  simp only at hr
  rw [impl_eq]; unfold F0 ruleOk
  rw [impl_kindOf.law, Option.bind_some, show (lastK wh vars != 2) = !isK wh vars 2 from rfl]
  cases hw : isK wh vars 2 with
  | false => rfl
  | true =>
    by_cases hl : sets.length = terms.length
    rotate_left
    · rw [show ((sets.length : Int) != (terms.length : Int)) = true by simp; omega, decide_eq_false hl]; rfl
    rw [show ((sets.length : Int) != (terms.length : Int)) = false by simp [hl], decide_eq_true hl, L3_eq]; unfold F3
    have key := up_list0 sets 0 (fun i => L4 (vars, sets, (sets.length : Int), (i : Int), wh, sets, terms, ())) (fun i r => some (setsGo vars (before sets i) r (terms.drop i), ())) (by
      rw [L4_eq]; unfold F4; simp (disch := omega) only [inb_nat, cast_lt, Int.toNat_natCast, wI_succ]
      rw [decide_eq_false (Nat.lt_irrefl _)]; simp [setsGo]) (by
      intro i hi ih
      have hj : i < terms.length := by omega
      rw [L4_eq]; unfold F4; simp (disch := omega) only [inb_nat, cast_lt, Int.toNat_natCast, wI_succ]
      rw [drop_cons [] hj, impl_in.law, wI_small (n := vars - 1) (by omega) (by omega)]
      simp only [impl_kindOf.law, Option.bind_some, hi, hj, decide_true, cond_true]
      have hb : before sets (i + 1) = some (sets.getD i 0) := rfl
      rw [hb] at ih
      unfold setsGo before
      rw [show (lastK (terms.getD i []) vars != 1) = !isK (terms.getD i []) vars 1 from rfl]
      by_cases h0 : i = 0
      · subst h0
        rw [decide_eq_false (by omega), if_pos rfl, ih]
        cases in3 (sets.getD 0 0) 0 (vars - 1) <;> cases isK (terms.getD 0 []) vars 1 <;> rfl
      · rw [decide_eq_true (by omega), if_neg h0, ih, wI_small (n := (i : Int) - 1) (by omega) (by omega), inb_int (by omega) (by omega), show ((i : Int) - 1).toNat = i - 1 by omega]
        have e : decide (sets.getD (i - 1) 0 ≥ sets.getD i 0) = !decide (sets.getD (i - 1) 0 < sets.getD i 0) := by
          by_cases h : sets.getD i 0 ≤ sets.getD (i - 1) 0
          · rw [decide_eq_true (show sets.getD (i - 1) 0 ≥ sets.getD i 0 from h), decide_eq_false (by omega)]; rfl
          · rw [decide_eq_false h, decide_eq_true (by omega)]; rfl
        rw [e]
        dsimp only
        cases in3 (sets.getD i 0) 0 (vars - 1) <;> cases isK (terms.getD i []) vars 1 <;> cases decide (sets.getD (i - 1) 0 < sets.getD i 0) <;> rfl)
    exact key
end impl_ruleOk
def sizeOf (n : Int) (vars : List Var') : Int := vars.foldl (fun n v => n * (v.2.1 - v.1 + 1)) n
abbrev System' := List Var' × List Rule'
def sysOk (s : System') : Bool :=
  in3 s.1.length 1 5 && (decide (s.2.length ≤ 8) && (s.1.all varOk && (decide (sizeOf 1 s.1 ≤ 400) && s.2.all fun r => ruleOk r s.1.length)))
def szRule (r : Rule') : Nat := r.1.length + r.2.1.length + mL List.length r.2.2
theorem varOk_span {v : Var'} (h : varOk v = true) : 1 ≤ v.2.1 - v.1 + 1 ∧ v.2.1 - v.1 + 1 ≤ 20 ∧ -9999 ≤ v.1 ∧ v.1 ≤ 9999 ∧ v.2.1 ≤ 9999 := by
  simp only [varOk, Bool.and_eq_true, in3_iff, decide_eq_true_eq] at h
  omega
theorem mul_span {n k : Int} (hn : 1 ≤ n ∧ n ≤ 100000000) (hk : 1 ≤ k ∧ k ≤ 20) : 1 ≤ n * k ∧ n * k ≤ n * 20 := by
  refine ⟨?_, Int.mul_le_mul_of_nonneg_left hk.2 (by omega)⟩
  have := Int.mul_le_mul_of_nonneg_left hk.1 (show 0 ≤ n by omega)
  omega
theorem size_step {n : Int} {v : Var'} (hn : 1 ≤ n ∧ n ≤ 100000000) (h : varOk v = true) : wI (n * (wI ((wI (v.2.1 - v.1)) + 1))) = n * (v.2.1 - v.1 + 1) := by
  have h1 := varOk_span h
  have h2 := mul_span hn ⟨h1.1, h1.2.1⟩
  rw [wI_small (n := v.2.1 - v.1) (by omega) (by omega), wI_small (n := v.2.1 - v.1 + 1) (by omega) (by omega), wI_small (by omega) (by omega)]
namespace spec_SystemValid
theorem law (s : System') (hr : ∀ r ∈ s.2, r.2.1.length ≤ 1048576) (hl : s.1.length ≤ 1048576 ∧ s.2.length ≤ 1048576) : impl (s, ()) = some (sysOk s, ()) := by
  obtain ⟨vars, rules⟩ := s
  simp only at hr hl
  rw [impl_eq]; unfold F0 sysOk
  simp only
  rw [spec_l1In.law, Option.bind_some]
  cases hv : in3 vars.length 1 5 with
  | false => rfl
  | true =>
    by_cases h8 : rules.length ≤ 8
    rotate_left
    · rw [decide_eq_true (show (rules.length : Int) > 8 by omega), decide_eq_false h8]; rfl
    rw [decide_eq_false (show ¬ (rules.length : Int) > 8 by omega), decide_eq_true h8, L3_eq]; unfold F3
    rw [in3_iff] at hv
    have h11 : ∀ n : Int, L11 (n, 0, vars, rules, ()) = some ((rules.all fun r => ruleOk r vars.length) && decide (n ≤ 400), ()) := by
      intro n
      exact up_list0 rules ([], [], []) (fun i => L11 (n, (i : Int), vars, rules, ())) (fun i r => some ((r.all fun r => ruleOk r vars.length) && decide (n ≤ 400), ())) (by
        rw [L11_eq]; unfold F11; simp (disch := omega) only [inb_nat, cast_lt, Int.toNat_natCast, wI_succ]
        rw [decide_eq_false (Nat.lt_irrefl _)]; simp) (by
        intro i hi ih
        have hm := hr _ (getD_mem (d := ([], [], [])) hi)
        rw [L11_eq]; unfold F11; simp (disch := omega) only [inb_nat, cast_lt, Int.toNat_natCast, wI_succ]
        rw [decide_eq_true hi, cond_true, L13_eq]; unfold F13; simp (disch := omega) only [inb_nat, cast_lt, Int.toNat_natCast, wI_succ]
        rw [decide_eq_true hi, cond_true, spec_l2Rule.law _ _ (by omega) hm, Option.bind_some, ih, List.all_cons]
        cases ruleOk (rules.getD i ([], [], [])) vars.length <;> rfl)
    have key := up_list (S := Int) vars (0, 0, 0) (fun i n => 1 ≤ n ∧ n ≤ 20 ^ i) (fun i n => L5 (n, (i : Int), vars, rules, ())) (fun i r n => some (r.all varOk && ((rules.all fun r => ruleOk r vars.length) && decide (sizeOf n r ≤ 400)), ())) (by
      intro n hn
      rw [L5_eq]; unfold F5; simp (disch := omega) only [inb_nat, cast_lt, Int.toNat_natCast, wI_succ]
      rw [decide_eq_false (Nat.lt_irrefl _), cond_false, h11]; rfl) (by
      intro i n hi hn ih
      have hp : (20 : Int) ^ i ≤ 20 ^ 5 := by
        have : (20 : Nat) ^ i ≤ 20 ^ 5 := Nat.pow_le_pow_right (by decide) (by omega)
        exact_mod_cast this
      have hn' : n ≤ 100000000 := by have : (20 : Int) ^ 5 = 3200000 := by decide
                                     omega
      rw [L5_eq]; unfold F5; simp (disch := omega) only [inb_nat, cast_lt, Int.toNat_natCast, wI_succ]
      rw [decide_eq_true hi, cond_true, cond_true, spec_l2Var.law, Option.bind_some, List.all_cons]
      cases ho : varOk (vars.getD i (0, 0, 0)) with
      | false => rfl
      | true =>
        have h1 := varOk_span ho
        have h2 := mul_span ⟨hn.1, hn'⟩ ⟨h1.1, h1.2.1⟩
        rw [Bool.not_true, cond_false, L9_eq]; unfold F9; simp (disch := omega) only [inb_nat, cast_lt, Int.toNat_natCast, wI_succ]
        rw [decide_eq_true hi, cond_true, cond_true, size_step ⟨hn.1, hn'⟩ ho, ih _ ⟨h2.1, by rw [Int.pow_succ]; omega⟩]
        rfl)
    have k0 : L5 (1, 0, vars, rules, ()) = _ := key 1 (by decide)
    rw [cond_false, Bool.not_true, cond_false, k0]
    cases vars.all varOk <;> cases decide (sizeOf 1 vars ≤ 400) <;> cases (rules.all fun r => ruleOk r vars.length) <;> rfl
end spec_SystemValid
namespace impl_SystemValid_1
theorem law (v : Var') : impl (v, ()) = some (!varOk v, ()) := by
  rw [impl_eq]; unfold F0; rw [impl_varOk.law]; rfl
end impl_SystemValid_1
namespace slices_IndexFunc_of
theorem law (xs : List Var') (hx : xs.length ≤ 1048576) : impl (xs, ()) = some (goIdx (fun v => !varOk v) 0 xs, ()) := by
  rw [impl_eq]; unfold F0
  exact up_list0 xs (0, 0, 0) (fun i => L2 (xs, (xs.length : Int), (i : Int), ())) (fun i r => some (goIdx (fun v => !varOk v) i r, ())) (by
    rw [L2_eq]; unfold F2; simp (disch := omega) only [inb_nat, cast_lt, Int.toNat_natCast, wI_succ]
    rw [decide_eq_false (Nat.lt_irrefl _)]; rfl) (by
    intro i hi ih
    rw [L2_eq]; unfold F2; simp (disch := omega) only [inb_nat, cast_lt, Int.toNat_natCast, wI_succ]
    rw [decide_eq_true hi, cond_true, cond_true, impl_SystemValid_1.law, Option.bind_some, ih]
    rw [goIdx_cons]
    cases varOk (xs.getD i (0, 0, 0)) <;> rfl)
end slices_IndexFunc_of
namespace slices_ContainsFunc_of
theorem law (xs : List Var') (hx : xs.length ≤ 1048576) : impl (xs, ()) = some (xs.any fun v => !varOk v, ()) := by
  rw [impl_eq]; unfold F0
  rw [slices_IndexFunc_of.law _ hx, Option.bind_some, goIdx_any]
end slices_ContainsFunc_of
namespace impl_size
theorem law (xs : List Var') (hx : xs.length ≤ 5) (ho : ∀ v ∈ xs, varOk v = true) : impl (xs, ()) = some (sizeOf 1 xs, ()) := by
  rw [impl_eq]; unfold F0
  exact up_list (S := Int) xs (0, 0, 0) (fun i n => 1 ≤ n ∧ n ≤ 20 ^ i) (fun i n => L3 (n, xs, (xs.length : Int), (i : Int), ())) (fun i r n => some (sizeOf n r, ())) (by
    intro n hn
    rw [L3_eq]; unfold F3; simp (disch := omega) only [inb_nat, cast_lt, Int.toNat_natCast, wI_succ]
    rw [decide_eq_false (Nat.lt_irrefl _)]; rfl) (by
    intro i n hi hn ih
    have hp : (20 : Int) ^ i ≤ 20 ^ 5 := by
      have : (20 : Nat) ^ i ≤ 20 ^ 5 := Nat.pow_le_pow_right (by decide) (by omega)
      exact_mod_cast this
    have hn' : n ≤ 100000000 := by have : (20 : Int) ^ 5 = 3200000 := by decide
                                   omega
    have hv := ho _ (getD_mem (d := (0, 0, 0)) hi)
    have h1 := varOk_span hv
    have h2 := mul_span ⟨hn.1, hn'⟩ ⟨h1.1, h1.2.1⟩
    rw [L3_eq]; unfold F3; simp (disch := omega) only [inb_nat, cast_lt, Int.toNat_natCast, wI_succ]
    rw [decide_eq_true hi, cond_true, cond_true, size_step ⟨hn.1, hn'⟩ hv, ih _ ⟨h2.1, by rw [Int.pow_succ]; omega⟩]
    rfl) 1 (by decide)
end impl_size
namespace impl_SystemValid_2
theorem law (r : Rule') (vars : List Var') (rules : List Rule') (hr : r.2.1.length ≤ 1048576) (hv : vars.length ≤ 1048576) : impl (r, vars, rules, ()) = some (!ruleOk r vars.length, vars, rules, ()) := by
  rw [impl_eq]; unfold F0; rw [impl_ruleOk.law _ _ (by omega) hr]; rfl
end impl_SystemValid_2
namespace slices_IndexFunc_of_1
theorem law (xs : List Rule') (vars : List Var') (rules : List Rule') (hx : xs.length ≤ 1048576) (hr : ∀ r ∈ xs, r.2.1.length ≤ 1048576) (hv : vars.length ≤ 1048576) : impl (xs, vars, rules, ()) = some (goIdx (fun r => !ruleOk r vars.length) 0 xs, vars, rules, ()) := by
  rw [impl_eq]; unfold F0
  exact up_list0 xs ([], [], []) (fun i => L2 (xs, (xs.length : Int), (i : Int), vars, rules, ())) (fun i r => some (goIdx (fun r => !ruleOk r vars.length) i r, vars, rules, ())) (by
    rw [L2_eq]; unfold F2; simp (disch := omega) only [inb_nat, cast_lt, Int.toNat_natCast, wI_succ]
    rw [decide_eq_false (Nat.lt_irrefl _)]; rfl) (by
    intro i hi ih
    have hm := hr _ (getD_mem (d := ([], [], [])) hi)
    rw [L2_eq]; unfold F2; simp (disch := omega) only [inb_nat, cast_lt, Int.toNat_natCast, wI_succ]
    rw [decide_eq_true hi, cond_true, cond_true, impl_SystemValid_2.law _ _ _ hm hv, Option.bind_some, ih]
    rw [goIdx_cons]
    cases ruleOk (xs.getD i ([], [], [])) vars.length <;> rfl)
end slices_IndexFunc_of_1
namespace slices_ContainsFunc_of_1
theorem law (xs : List Rule') (vars : List Var') (rules : List Rule') (hx : xs.length ≤ 1048576) (hr : ∀ r ∈ xs, r.2.1.length ≤ 1048576) (hv : vars.length ≤ 1048576) : impl (xs, vars, rules, ()) = some (xs.any fun r => !ruleOk r vars.length, vars, rules, ()) := by
  rw [impl_eq]; unfold F0
  rw [slices_IndexFunc_of_1.law _ _ _ hx hr hv, Option.bind_some, goIdx_any]
end slices_ContainsFunc_of_1
namespace impl_SystemValid
theorem law (s : System') (hr : ∀ r ∈ s.2, r.2.1.length ≤ 1048576) (hl : s.1.length ≤ 1048576 ∧ s.2.length ≤ 1048576) : impl (s, ()) = some (sysOk s, ()) := by
  obtain ⟨vars, rules⟩ := s
  simp only at hr hl
  rw [impl_eq]; unfold F0 sysOk
  simp only
  rw [impl_in.law, Option.bind_some]
  cases hv : in3 vars.length 1 5 with
  | false => rfl
  | true =>
    by_cases h8 : rules.length ≤ 8
    rotate_left
    · rw [decide_eq_true (show (rules.length : Int) > 8 by omega), decide_eq_false h8]; rfl
    rw [decide_eq_false (show ¬ (rules.length : Int) > 8 by omega), decide_eq_true h8, slices_ContainsFunc_of.law _ hl.1, Option.bind_some, ← any_not varOk vars]
    rw [in3_iff] at hv
    cases ha : vars.any fun v => !varOk v with
    | true => rfl
    | false =>
      have hall : ∀ v ∈ vars, varOk v = true := by
        have := any_not varOk vars
        rw [ha] at this
        exact List.all_eq_true.1 this.symm
      rw [impl_size.law _ (by omega) hall, Option.bind_some, slices_ContainsFunc_of_1.law _ _ _ hl.2 hr hl.1, ← any_not (fun r => ruleOk r vars.length) rules]
      by_cases h4 : sizeOf 1 vars ≤ 400
      · rw [decide_eq_true h4, decide_eq_false (by omega)]
        rfl
      · rw [decide_eq_false h4, decide_eq_true (by omega)]; rfl
end impl_SystemValid
abbrev Model' := List (List UInt8) × System' × List (List I4)
def modelOk (m : Model') : Bool :=
  sysOk m.2.1 && (namesOk m.1 && (decide (m.1.length = m.2.1.1.length) && (decide (m.2.2.length ≤ 4) && m.2.2.all fun g => isK g m.1.length 2)))
/-- what is asked of a model's sizes -/
structure ModSz (m : Model') : Prop where
  names : mL List.length m.1 ≤ 1048576
  vars : m.2.1.1.length ≤ 1048576
  rules : m.2.1.2.length ≤ 1048576
  sets : ∀ r ∈ m.2.1.2, r.2.1.length ≤ 1048576
  goals : m.2.2.length ≤ 1048576
namespace spec_ModelValid
theorem law (m : Model') (h : ModSz m) : impl (m, ()) = some (modelOk m, ()) := by
  obtain ⟨names, ⟨vars, rules⟩, goals⟩ := m
  obtain ⟨h1, h2, h3, h4, h5⟩ := h
  simp only at h1 h2 h3 h4 h5
  rw [impl_eq]; unfold F0 modelOk
  have key := up_list0 goals [] (fun i => L2 ((i : Int), names, vars, rules, goals, ())) (fun i r => some ((r.all fun g => isK g names.length 2) && (namesOk names && (sysOk (vars, rules) && (decide (names.length = vars.length) && decide (goals.length ≤ 4)))), ())) (by
    rw [L2_eq]; unfold F2; simp (disch := omega) only [inb_nat, cast_lt, Int.toNat_natCast, wI_succ]
    rw [decide_eq_false (Nat.lt_irrefl _), cond_false, spec_NamesValid.law _ h1, Option.bind_some]
    simp only [spec_SystemValid.law (vars, rules) h4 ⟨h2, h3⟩, Option.bind_some]
    have e1 : ((names.length : Int) == (vars.length : Int)) = decide (names.length = vars.length) := by rw [Bool.eq_iff_iff]; simp; omega
    have e2 : decide ((goals.length : Int) ≤ 4) = decide (goals.length ≤ 4) := decide_eq_decide.2 (by omega)
    rw [e1, e2]
    cases namesOk names <;> cases sysOk (vars, rules) <;> cases decide (names.length = vars.length) <;> rfl) (by
    intro i hi ih
    rw [L2_eq]; unfold F2; simp (disch := omega) only [inb_nat, cast_lt, Int.toNat_natCast, wI_succ]
    rw [decide_eq_true hi, cond_true, L4_eq]; unfold F4; simp (disch := omega) only [inb_nat, cast_lt, Int.toNat_natCast, wI_succ]
    rw [decide_eq_true hi, cond_true, spec_l2Is.law _ _ _ (by decide), Option.bind_some, ih, List.all_cons]
    cases isK (goals.getD i []) names.length 2 <;> rfl)
  have k0 : L2 (0, names, vars, rules, goals, ()) = _ := key
  simp only
  rw [k0]
  cases namesOk names <;> cases sysOk (vars, rules) <;> cases decide (names.length = vars.length) <;> cases decide (goals.length ≤ 4) <;> cases (goals.all fun g => isK g names.length 2) <;> rfl
end spec_ModelValid
namespace impl_ModelValid_1
theorem law (g : List I4) (names : List (List UInt8)) (vars : List Var') (rules : List Rule') (goals : List (List I4)) : impl (g, names, vars, rules, goals, ()) = some (!isK g names.length 2, names, vars, rules, goals, ()) := by
  rw [impl_eq]; unfold F0; rw [impl_kindOf.law]; rfl
end impl_ModelValid_1
namespace slices_IndexFunc_of_2
theorem law (xs : List (List I4)) (names : List (List UInt8)) (vars : List Var') (rules : List Rule') (goals : List (List I4)) (hx : xs.length ≤ 1048576) : impl (xs, names, vars, rules, goals, ()) = some (goIdx (fun g => !isK g names.length 2) 0 xs, names, vars, rules, goals, ()) := by
  rw [impl_eq]; unfold F0
  exact up_list0 xs [] (fun i => L2 (xs, (xs.length : Int), (i : Int), names, vars, rules, goals, ())) (fun i r => some (goIdx (fun g => !isK g names.length 2) i r, names, vars, rules, goals, ())) (by
    rw [L2_eq]; unfold F2; simp (disch := omega) only [inb_nat, cast_lt, Int.toNat_natCast, wI_succ]
    rw [decide_eq_false (Nat.lt_irrefl _)]; rfl) (by
    intro i hi ih
    rw [L2_eq]; unfold F2; simp (disch := omega) only [inb_nat, cast_lt, Int.toNat_natCast, wI_succ]
    rw [decide_eq_true hi, cond_true, cond_true, impl_ModelValid_1.law, Option.bind_some, ih]
    rw [goIdx_cons]
    cases isK (xs.getD i []) names.length 2 <;> rfl)
end slices_IndexFunc_of_2
namespace slices_ContainsFunc_of_2
theorem law (xs : List (List I4)) (names : List (List UInt8)) (vars : List Var') (rules : List Rule') (goals : List (List I4)) (hx : xs.length ≤ 1048576) : impl (xs, names, vars, rules, goals, ()) = some (xs.any fun g => !isK g names.length 2, names, vars, rules, goals, ()) := by
  rw [impl_eq]; unfold F0
  rw [slices_IndexFunc_of_2.law _ _ _ _ _ hx, Option.bind_some, goIdx_any]
end slices_ContainsFunc_of_2
namespace impl_ModelValid
theorem law (m : Model') (h : ModSz m) : impl (m, ()) = some (modelOk m, ()) := by
  obtain ⟨names, ⟨vars, rules⟩, goals⟩ := m
  obtain ⟨h1, h2, h3, h4, h5⟩ := h
  simp only at h1 h2 h3 h4 h5
  rw [impl_eq]; unfold F0 modelOk
  simp only
  rw [impl_SystemValid.law (vars, rules) h4 ⟨h2, h3⟩, Option.bind_some, impl_NamesValid.law _ h1, slices_ContainsFunc_of_2.law _ _ _ _ _ h5]
  simp only [Option.bind_some]
  have e1 : ((names.length : Int) == (vars.length : Int)) = decide (names.length = vars.length) := by rw [Bool.eq_iff_iff]; simp; omega
  have e2 : decide ((goals.length : Int) ≤ 4) = decide (goals.length ≤ 4) := decide_eq_decide.2 (by omega)
  rw [e1, e2, any_not (fun g => isK g names.length 2)]
  cases namesOk names <;> cases sysOk (vars, rules) <;> cases decide (names.length = vars.length) <;> cases decide (goals.length ≤ 4) <;> rfl
end impl_ModelValid
/-! ### decimals -/
theorem itoa_len (n : Int) (h1 : -9223372036854775808 ≤ n) (h2 : n ≤ 9223372036854775807) : (Lib.itoa n).length ≤ 20 := by
  have h3 : ∀ (k u : Nat), u < 10 ^ (k + 1) → Lib.nDigits u ≤ k + 1 := by
    intro k
    induction k with
    | zero => intro u hu; rw [Lib.nDigits_small (by omega)]; omega
    | succ k ih =>
      intro u hu
      by_cases hs : u < 10
      · rw [Lib.nDigits_small hs]; omega
      · rw [Lib.nDigits_big hs]
        have := ih (u / 10) (by rw [Nat.pow_succ] at hu; omega)
        omega
  have key : ∀ u : Nat, u < 10 ^ 19 → (Lib.decDigits u).length ≤ 19 := fun u hu => by
    rw [Lib.decDigits_length]
    exact h3 18 u hu
  unfold Lib.itoa
  split
  · have := key n.natAbs (by omega)
    simp; omega
  · have := key n.toNat (by omega)
    omega
namespace spec_l40Dec
theorem dig (d : Nat) (h : d < 10) : strOf ([IntKind.u8.wrap (wI (48 + (d : Int)))] : List Int) = [UInt8.ofNat (48 + d)] := by
  have : ∀ d : Fin 10, strOf ([IntKind.u8.wrap (wI (48 + (d.val : Int)))] : List Int) = [UInt8.ofNat (48 + d.val)] := by decide +kernel
  exact this ⟨d, h⟩
theorem loop (G : PI → Option PO) : ∀ (k n : Nat) (acc : List UInt8), n < 10 ^ (k + 1) → n ≤ 9223372036854775807 → acc.length + k ≤ 1000 → L6 G ((n : Int), acc, ()) = some (Lib.decDigits n ++ acc, ())
  | k, n, acc, hn, hm, ha => by
    rw [L6_eq]; unfold F6
    by_cases h9 : n < 10
    · rw [decide_eq_false (show ¬ ((n : Int) > 9) by omega), cond_false, dig n h9, Lib.decDigits_one h9]
      rw [decide_eq_true (by simp; omega)]
      rfl
    · rw [decide_eq_true (show (n : Int) > 9 by omega), cond_true]
      have e1 : Int.tmod (n : Int) 10 = ((n % 10 : Nat) : Int) := rfl
      have e2 : wI (Int.tdiv (n : Int) 10) = ((n / 10 : Nat) : Int) := by
        rw [show Int.tdiv (n : Int) 10 = ((n / 10 : Nat) : Int) from rfl]
        exact wI_small (by omega) (by omega)
      rw [e1, e2, dig (n % 10) (by omega)]
      rw [decide_eq_true (by simp; omega), cond_true]
      match k, hn, ha with
      | 0, hn, _ => simp at hn; omega
      | k + 1, hn, ha =>
        rw [loop G k (n / 10) _ (by rw [Nat.pow_succ] at hn; omega) (by omega) (by simp; omega)]
        conv => rhs; rw [Lib.decDigits, dif_neg h9]
        simp
theorem pos (n : Int) (h0 : 0 ≤ n) (h2 : n ≤ 9223372036854775807) : impl (n, ()) = some (Lib.itoa n, ()) := by
  rw [impl_eq]; unfold F0
  rw [decide_eq_false (show ¬ n < -9223372036854775807 by omega), cond_false, decide_eq_false (show ¬ n < 0 by omega), cond_false]
  have := loop impl 19 n.toNat [] (by omega) (by omega) (by simp)
  rw [Int.toNat_of_nonneg h0] at this
  rw [this, Lib.itoa, if_neg (by omega), List.append_nil]
theorem law (n : Int) (h1 : -9223372036854775808 ≤ n) (h2 : n ≤ 9223372036854775807) : impl (n, ()) = some (Lib.itoa n, ()) := by
  by_cases h : n < 0
  · rw [impl_eq]; unfold F0
    by_cases hm : n < -9223372036854775807
    · rw [decide_eq_true hm, cond_true]
      have : n = -9223372036854775808 := by omega
      subst this
      have hd : Lib.decDigits 9223372036854775808 = [57, 50, 50, 51, 51, 55, 50, 48, 51, 54, 56, 53, 52, 55, 55, 53, 56, 48, 56] := by
        rw [Lib.decDigits_eq]; decide +kernel
      rw [Lib.itoa, if_pos (by omega), show (-9223372036854775808 : Int).natAbs = 9223372036854775808 from rfl, hd]
    · rw [decide_eq_false hm, cond_false, decide_eq_true h, cond_true]
      have e : wI (0 - n) = -n := by rw [wI_small (by omega) (by omega)]; omega
      rw [e, pos (-n) (by omega) (by omega), Option.bind_some]
      have hi : Lib.itoa (-n) = Lib.decDigits n.natAbs := by
        rw [Lib.itoa, if_neg (by omega)]
        congr 1
        omega
      have hl := itoa_len (-n) (by omega) (by omega)
      rw [decide_eq_true (by simp; omega), cond_true]
      rw [hi, Lib.itoa, if_pos h]
      rfl
  · exact pos n (by omega) h2
end spec_l40Dec
theorem itoa_law (n : Int) (h1 : -9223372036854775808 ≤ n) (h2 : n ≤ 9223372036854775807) : lib_Itoa.impl (n, ()) = some (Lib.itoa n, ()) := by
  show itoaI _ = _
  unfold itoaI
  rw [show (decide (-9223372036854775808 ≤ n) && decide (n ≤ 9223372036854775807)) = true by simp [h1, h2]]
  rfl
/-! ### what a valid expression is, in full -/
def TermV (t : I4) (i : Nat) (vars : Int) : Prop :=
  (t.1 = 0 ∧ -9999 ≤ t.2.1 ∧ t.2.1 ≤ 9999 ∧ t.2.2.1 = 0 ∧ t.2.2.2 = 0) ∨ (t.1 = 1 ∧ 0 ≤ t.2.1 ∧ t.2.1 < vars ∧ t.2.2.1 = 0 ∧ t.2.2.2 = 0) ∨
  (2 ≤ t.1 ∧ t.1 ≤ 9 ∧ t.2.1 = 0 ∧ 0 ≤ t.2.2.1 ∧ t.2.2.1 < i ∧ 0 ≤ t.2.2.2 ∧ t.2.2.2 < i ∧ (t.1 = 7 → t.2.2.2 = t.2.2.1))
theorem termKind_v {t : I4} {acc : List Int} {vars : Int} (h : (termKind t acc vars == 0) = false) : TermV t acc.length vars := by
  unfold termKind at h
  unfold TermV
  cases e1 : (t.1 == 0 && (in3 t.2.1 (-9999) 9999 && (t.2.2.1 == 0 && t.2.2.2 == 0))) with
  | true => simp only [Bool.and_eq_true, beq_iff_eq, in3_iff] at e1; exact .inl ⟨e1.1, e1.2.1.1, e1.2.1.2, e1.2.2.1, e1.2.2.2⟩
  | false =>
    rw [e1, cond_false] at h
    cases e2 : (t.1 == 1 && (in3 t.2.1 0 (vars - 1) && (t.2.2.1 == 0 && t.2.2.2 == 0))) with
    | true => simp only [Bool.and_eq_true, beq_iff_eq, in3_iff] at e2; exact .inr (.inl ⟨e2.1, e2.2.1.1, by omega, e2.2.2.1, e2.2.2.2⟩)
    | false =>
      rw [e2, cond_false] at h
      cases e3 : third t acc with
      | false => rw [e3] at h; cases h
      | true =>
        unfold third at e3
        simp only [Bool.and_eq_true, beq_iff_eq, in3_iff, Bool.or_eq_true, Bool.not_eq_true', beq_eq_false_iff_ne, ne_eq] at e3
        refine .inr (.inr ⟨e3.1.1, e3.1.2, e3.2.1, e3.2.2.1.1, by omega, e3.2.2.2.1.1, by omega, fun h7 => ?_⟩)
        rcases e3.2.2.2.2.2.2 with h | h
        · exact absurd h7 h
        · exact h
theorem kindsGo_v {vars : Int} : ∀ {xs : List I4} {acc : List Int}, (kindsGo vars xs acc).isEmpty = false → ∀ j, j < xs.length → TermV (xs.getD j (0, 0, 0, 0)) (acc.length + j) vars
  | [], acc, h => by simp
  | t :: ts, acc, h => by
    unfold kindsGo at h
    cases e : termKind t acc vars == 0 with
    | true => rw [e] at h; cases h
    | false =>
      rw [e] at h
      simp only [cond_false] at h
      have h2 := kindsGo_v h
      intro j hj
      cases j with
      | zero => simpa using termKind_v e
      | succ j =>
        have := h2 j (by simp at hj; omega)
        simp only [List.length_append, List.length_cons, List.length_nil] at this
        rw [show acc.length + (0 + 1) + j = acc.length + (j + 1) by omega] at this
        simpa using this
def TermsV (xs : List I4) (vars : Int) : Prop := ∀ i, i < xs.length → TermV (xs.getD i (0, 0, 0, 0)) i vars
theorem termsV_of {xs : List I4} {vars : Int} (h : termsOK xs vars = true) : TermsV xs vars ∧ 1 ≤ xs.length ∧ xs.length ≤ 40 ∧ 0 ≤ vars ∧ vars ≤ 5 := by
  refine ⟨?_, (terms_of h).2⟩
  unfold termsOK kinds at h
  cases e : in3 vars 0 5 && in3 xs.length 1 40 with
  | false => rw [e] at h; cases h
  | true =>
    rw [e, cond_true] at h
    have := kindsGo_v (show (kindsGo vars xs []).isEmpty = false by simpa using h)
    exact fun i hi => by simpa using this i hi
/-! ### how an expression is written -/
def signs : List UInt8 := [32, 32, 43, 45, 42, 60, 61, 33, 38, 124]
def termText (names out : List (List UInt8)) (t : I4) : List UInt8 :=
  if t.1 = 0 then Lib.itoa t.2.1 else if t.1 = 1 then names.getD t.2.1.toNat [] else if t.1 = 7 then [33] ++ out.getD t.2.2.1.toNat []
  else [40] ++ out.getD t.2.2.1.toNat [] ++ [32] ++ [signs.getD t.1.toNat 0] ++ [32] ++ out.getD t.2.2.2.toNat [] ++ [41]
def exprGo (names : List (List UInt8)) : List I4 → List (List UInt8) → List UInt8
  | [], out => out.getD (out.length - 1) []
  | t :: r, out => if 4000 < (termText names out t).length then [] else exprGo names r (out ++ [termText names out t])
def writeExpr (names : List (List UInt8)) (list : List I4) : List UInt8 := if namesOk names = true ∧ termsOK list names.length = true then exprGo names list [] else []
theorem szS_namesOk {xs : List (List UInt8)} (h : namesOk xs = true) : szS xs ≤ 100 := by
  obtain ⟨h1, h2⟩ := namesOk_mem h
  have : (xs.map List.length).sum ≤ xs.length * 8 := by
    clear h h1
    induction xs with
    | nil => simp
    | cons x r ih =>
      have h3 := nameOk_len (h2 x (by simp))
      have h4 := ih fun y hy => h2 y (by simp [hy])
      simp only [List.map_cons, List.sum_cons, List.length_cons]
      omega
  unfold szS; omega
/-- what stands is short -/
def Short (out : List (List UInt8)) : Prop := ∀ x ∈ out, x.length ≤ 4000
theorem short_get {out : List (List UInt8)} (h : Short out) (i : Nat) : (out.getD i []).length ≤ 4000 := by
  rcases Nat.lt_or_ge i out.length with hi | hi
  · exact h _ (getD_mem hi)
  · rw [List.getD_eq_getElem?_getD, List.getElem?_eq_none hi]; simp
theorem short_snoc {out : List (List UInt8)} {s : List UInt8} (h : Short out) (hs : s.length ≤ 4000) : Short (out ++ [s]) := fun x hx => by
  rcases List.mem_append.1 hx with hx | hx
  · exact h x hx
  · rw [List.mem_singleton] at hx; subst hx; exact hs
namespace spec_l1Sign
theorem law (op : Int) (h2 : 2 ≤ op) (h9 : op ≤ 9) : impl (op, ()) = some ([signs.getD op.toNat 0], ()) := by
  have : ∀ k : Fin 8, impl (((k.val + 2 : Nat) : Int), ()) = some ([signs.getD (k.val + 2) 0], ()) := by
    intro k
    rw [impl_eq]; unfold F0
    obtain ⟨k, hk⟩ := k
    match k, hk with
    | 0, _ => rfl
    | 1, _ => rfl
    | 2, _ => rfl
    | 3, _ => rfl
    | 4, _ => rfl
    | 5, _ => rfl
    | 6, _ => rfl
    | 7, _ => rfl
  have h := this ⟨(op - 2).toNat, by omega⟩
  have e : (((op - 2).toNat + 2 : Nat) : Int) = op := by omega
  simp only [e] at h
  rw [h, show (op - 2).toNat + 2 = op.toNat by omega]
end spec_l1Sign
namespace spec_WriteExpr
theorem law (names : List (List UInt8)) (list : List I4) (hx : szS names ≤ 1048576) : impl (names, list, ()) = some (writeExpr names list, ()) := by
  rw [impl_eq]; unfold F0 writeExpr
  rw [spec_NamesValid.law _ hx, Option.bind_some, spec_TermsValid.law, Option.bind_some, L3_eq]; unfold F3
  by_cases hn : namesOk names = true
  rotate_left
  · simp [hn]
  by_cases ht : termsOK list names.length = true
  rotate_left
  · simp [hn, ht]
  obtain ⟨h5, hm⟩ := namesOk_mem hn
  obtain ⟨hv, hl1, hl2, _, _⟩ := termsV_of ht
  have key := up_list (S := List (List UInt8)) list (0, 0, 0, 0) (fun i out => out.length = i ∧ Short out) (fun i out => L5 (names, list, (i : Int), out, ())) (fun i r out => some (exprGo names r out, ())) (by
    intro out hout
    rw [L5_eq]; unfold F5; simp (disch := omega) only [inb_nat, cast_lt, Int.toNat_natCast, wI_succ]
    rw [wI_small (by omega) (by omega), inb_int (i := (out.length : Int) - 1) (n := out.length) (by omega) (by omega), show ((out.length : Int) - 1).toNat = out.length - 1 by omega]
    simp [exprGo]) (by
    intro i out hi hout ih
    have hT := hv i hi
    obtain ⟨hlen, hsh⟩ := hout
    have h16 : ∀ s : List UInt8, s = termText names out (list.getD i (0, 0, 0, 0)) → L16 L5 (names, list, (i : Int), s, out, ()) = some (exprGo names (list.getD i (0, 0, 0, 0) :: list.drop (i + 1)) out, ()) := by
      intro s hs
      rw [L16_eq]; unfold F16 exprGo; simp (disch := omega) only [inb_nat, cast_lt, Int.toNat_natCast, wI_succ]
      rw [← hs]
      by_cases h4 : 4000 < s.length
      · grind
      · have := ih (out ++ [s]) ⟨by simp only [List.length_append, List.length_cons, List.length_nil]; omega, short_snoc hsh (by omega)⟩
        rw [if_neg h4, ← this]
        simp (disch := omega) only [decide_eq_true, decide_eq_false, cond_true, cond_false, Option.bind_some, Option.bind_none, List.length_append, List.length_cons, List.length_nil]
    rw [L5_eq]; unfold F5; rw [Int.toNat_natCast]
    have hA := short_get hsh (list.getD i (0, 0, 0, 0)).2.2.1.toNat
    have hB := short_get hsh (list.getD i (0, 0, 0, 0)).2.2.2.toNat
    unfold termText at h16
    generalize list.getD i (0, 0, 0, 0) = t at hT h16 hA hB ⊢
    obtain ⟨op, n, a, b⟩ := t
    unfold TermV at hT
    simp only at hT h16 hA hB ⊢
    simp (disch := omega) only [inb_nat, cast_lt, Int.toNat_natCast, wI_succ]
    rw [decide_eq_true hi, cond_true, cond_true]
    rcases hT with ⟨rfl, hn1, hn2, _⟩ | ⟨rfl, hn1, hn2, _⟩ | ⟨h2, h9, _, ha0, ha, hb0, hb, hab⟩
    · rw [spec_l40Dec.law n (by omega) (by omega)]
      exact h16 _ (by simp)
    · rw [inb_int (by omega) (by omega)]
      exact h16 _ (by simp)
    · rw [show (op == 0) = false by simp; omega, show (op == 1) = false by simp; omega, cond_false, cond_false, spec_l1One.law, Option.bind_some]
      by_cases h7 : op = 7
      · subst h7
        rw [inb_int (by omega) (by omega), show ((7 : Int) == 7) = true from rfl, cond_true, cond_true]
        simp (disch := omega) only [decide_eq_true, decide_eq_false, cond_true, cond_false, Option.bind_some, Option.bind_none, List.length_append, List.length_cons, List.length_nil]
        exact h16 _ (by simp)
      · rw [show (op == 7) = false by simpa using h7, cond_false, L15_eq]; unfold F15
        rw [inb_int (by omega) (by omega), inb_int (by omega) (by omega), spec_l1Sign.law op h2 h9]
        simp (disch := omega) only [decide_eq_true, decide_eq_false, cond_true, cond_false, Option.bind_some, Option.bind_none, List.length_append, List.length_cons, List.length_nil]
        exact h16 _ (by rw [if_neg (by omega), if_neg (by omega), if_neg h7]))
  have h := key [] ⟨rfl, fun _ h => by cases h⟩
  have h' : L5 (names, list, 0, [], ()) = _ := h
  simp [hn, ht, h']
end spec_WriteExpr
/-- a row as it is filled from the left -/
def fill (out : List (List UInt8)) (n : Nat) : List (List UInt8) := out ++ List.replicate (n - out.length) []
theorem fill_length {out : List (List UInt8)} {n : Nat} (h : out.length ≤ n) : (fill out n).length = n := by unfold fill; simp; omega
theorem fill_set {out : List (List UInt8)} {n i : Nat} (h : out.length = i) (hi : i < n) (s : List UInt8) : (fill out n).set i s = fill (out ++ [s]) n := by
  subst h
  unfold fill
  rw [List.set_append_right _ _ (Nat.le_refl _), Nat.sub_self]
  obtain ⟨k, hk⟩ : ∃ k, n - out.length = k + 1 := ⟨n - out.length - 1, by omega⟩
  rw [hk, List.length_append, List.length_singleton, show n - (out.length + 1) = k by omega, List.replicate_succ, List.set_cons_zero, List.append_assoc]
  rfl
theorem fill_get {out : List (List UInt8)} {n j : Nat} (h : j < out.length) : (fill out n).getD j [] = out.getD j [] := by
  unfold fill
  rw [List.getD_eq_getElem?_getD, List.getElem?_append_left h, List.getD_eq_getElem?_getD]
theorem fill_last (out : List (List UInt8)) (s : List UInt8) (n : Nat) : (fill (out ++ [s]) n).getD out.length [] = s := by
  rw [fill_get (by simp)]
  simp [List.getD_eq_getElem?_getD]
theorem sign_slice {op : Int} (h2 : 2 ≤ op) (h9 : op ≤ 9) : (([32, 32, 43, 45, 42, 60, 61, 33, 38, 124] : List UInt8).take (op + 1).toNat).drop op.toNat = [signs.getD op.toNat 0] := by
  have : ∀ k : Fin 8, (([32, 32, 43, 45, 42, 60, 61, 33, 38, 124] : List UInt8).take (k.val + 2 + 1)).drop (k.val + 2) = [signs.getD (k.val + 2) 0] := by decide
  have h := this ⟨(op - 2).toNat, by omega⟩
  simp only at h
  rw [show (op - 2).toNat + 2 = op.toNat by omega] at h
  rw [show (op + 1).toNat = op.toNat + 1 by omega]
  exact h
namespace impl_WriteExpr
theorem law (names : List (List UInt8)) (list : List I4) (hx : szS names ≤ 1048576) : impl (names, list, ()) = some (writeExpr names list, ()) := by
  rw [impl_eq]; unfold F0 writeExpr
  rw [impl_NamesValid.law _ hx, Option.bind_some, impl_TermsValid.law, Option.bind_some, L3_eq]; unfold F3
  by_cases hn : namesOk names = true
  rotate_left
  · simp [hn]
  by_cases ht : termsOK list names.length = true
  rotate_left
  · simp [hn, ht]
  obtain ⟨h5, hm⟩ := namesOk_mem hn
  obtain ⟨hv, hl1, hl2, _, _⟩ := termsV_of ht
  have key := up_list (S := List (List UInt8)) list (0, 0, 0, 0) (fun i out => out.length = i ∧ Short out) (fun i out => L5 (names, list, (list.length : Int), (i : Int), fill out list.length, ())) (fun i r out => some (exprGo names r out, ())) (by
    intro out hout
    obtain ⟨hlen, hsh⟩ := hout
    rw [L5_eq]; unfold F5; simp (disch := omega) only [inb_nat, cast_lt, Int.toNat_natCast, wI_succ]
    rw [decide_eq_false (Nat.lt_irrefl _), cond_false, fill_length (by omega), wI_small (by omega) (by omega), inb_int (i := (list.length : Int) - 1) (n := list.length) (by omega) (by omega), show ((list.length : Int) - 1).toNat = out.length - 1 by omega, fill_get (by omega), cond_true]
    simp [exprGo]) (by
    intro i out hi hout ih
    have hT := hv i hi
    obtain ⟨hlen, hsh⟩ := hout
    have hfl := fill_length (out := out) (n := list.length) (by omega)
    have h16 : ∀ s : List UInt8, s = termText names out (list.getD i (0, 0, 0, 0)) → (bif decide (i < list.length) then bif decide (i < ((fill out list.length).set i s).length) then bif decide (((((fill out list.length).set i s).getD i []).length : Int) > 4000) then some ([], ()) else L5 (names, list, (list.length : Int), ((i + 1 : Nat) : Int), (fill out list.length).set i s, ()) else none else none) = some (exprGo names (list.getD i (0, 0, 0, 0) :: list.drop (i + 1)) out, ()) := by
      intro s hs
      rw [List.length_set, hfl, decide_eq_true hi, cond_true, cond_true, fill_set hlen hi, ← hlen, fill_last, hlen]
      unfold exprGo
      rw [← hs]
      by_cases h4 : 4000 < s.length
      · grind
      · have := ih (out ++ [s]) ⟨by simp only [List.length_append, List.length_cons, List.length_nil]; omega, short_snoc hsh (by omega)⟩
        rw [if_neg h4, ← this]
        simp (disch := omega) only [decide_eq_true, decide_eq_false, cond_true, cond_false, Option.bind_some, Option.bind_none, List.length_append, List.length_cons, List.length_nil]
    rw [L5_eq]; unfold F5; rw [Int.toNat_natCast]
    have hA := short_get hsh (list.getD i (0, 0, 0, 0)).2.2.1.toNat
    have hB := short_get hsh (list.getD i (0, 0, 0, 0)).2.2.2.toNat
    unfold termText at h16
    generalize list.getD i (0, 0, 0, 0) = t at hT h16 hA hB ⊢
    obtain ⟨op, n, a, b⟩ := t
    unfold TermV at hT
    simp only [hfl] at hT h16 hA hB ⊢
    simp (disch := omega) only [inb_nat, cast_lt, Int.toNat_natCast, wI_succ]
    simp only [hi, decide_true, cond_true] at h16 ⊢
    rcases hT with ⟨rfl, hn1, hn2, _⟩ | ⟨rfl, hn1, hn2, _⟩ | ⟨h2, h9, _, ha0, ha, hb0, hb, hab⟩
    · rw [itoa_law n (by omega) (by omega)]
      exact h16 (Lib.itoa n) (by simp)
    · rw [inb_int (by omega) (by omega)]
      exact h16 (names.getD n.toNat []) (by simp)
    · have eA := fill_get (out := out) (n := list.length) (j := a.toNat) (by omega)
      have eB := fill_get (out := out) (n := list.length) (j := b.toNat) (by omega)
      rw [show (op == 0) = false by simp; omega, show (op == 1) = false by simp; omega, cond_false, cond_false]
      by_cases h7 : op = 7
      · subst h7
        rw [inb_int (by omega) (by omega), show ((7 : Int) == 7) = true from rfl, cond_true, cond_true, eA]
        rw [decide_eq_true (show ([33] : List UInt8).length + (out.getD a.toNat []).length ≤ 140737488355328 by simp only [List.length_append, List.length_cons, List.length_nil]; omega), cond_true]
        exact h16 ([33] ++ out.getD a.toNat []) (by simp)
      · rw [show (op == 7) = false by simpa using h7, cond_false, L8_eq]; unfold F8
        rw [hfl, inb_int (by omega) (by omega), inb_int (by omega) (by omega), wI_small (n := op + 1) (by omega) (by omega), sign_slice h2 h9, eA, eB]
        simp (disch := omega) only [inb_nat, cast_lt, Int.toNat_natCast, wI_succ]
        rw [show (decide (0 ≤ op) && decide (op ≤ op + 1) && decide (op + 1 ≤ (([32, 32, 43, 45, 42, 60, 61, 33, 38, 124] : List UInt8).length : Int))) = true by simp; omega]
        have h17 := h16 ([40] ++ out.getD a.toNat [] ++ [32] ++ [signs.getD op.toNat 0] ++ [32] ++ out.getD b.toNat [] ++ [41]) (by rw [if_neg (by omega), if_neg (by omega), if_neg h7])
        rw [← h17]
        simp only [hi, decide_true, cond_true]
        simp (disch := omega) only [decide_eq_true, decide_eq_false, cond_true, cond_false, Option.bind_some, Option.bind_none, List.length_append, List.length_cons, List.length_nil])
  have h := key [] ⟨rfl, fun _ h => by cases h⟩
  have h' : L5 (names, list, (list.length : Int), 0, (List.replicate list.length [] : List (List UInt8)), ()) = _ := h
  have e0 : (decide (0 ≤ (list.length : Int)) && decide ((list.length : Int) ≤ (list.length : Int)) && decide ((list.length : Int) * 16 ≤ 140737488355328)) = true := by simp; omega
  rw [hn, ht, e0]
  simpa [hn, ht] using h'
end impl_WriteExpr
/-! ### how a model is written -/
theorem exprGo_len (names : List (List UInt8)) : ∀ (r : List I4) (out : List (List UInt8)), Short out → (exprGo names r out).length ≤ 4000
  | [], out, h => short_get h _
  | t :: r, out, h => by
    unfold exprGo
    split
    · simp
    · exact exprGo_len names r _ (short_snoc h (by omega))
theorem writeExpr_len (names : List (List UInt8)) (list : List I4) : (writeExpr names list).length ≤ 4000 := by
  unfold writeExpr
  split
  · exact exprGo_len names list [] (fun _ h => by cases h)
  · simp
def wVars (names : List (List UInt8)) : Nat → List Var' → List UInt8 → List UInt8
  | _, [], t => t
  | i, v :: r, t => wVars names (i + 1) r (t ++ ([118, 97, 114, 32] ++ names.getD i [] ++ [32] ++ Lib.itoa v.1 ++ [32] ++ Lib.itoa v.2.1 ++ [32] ++ Lib.itoa v.2.2 ++ [10]))
def wSets (names : List (List UInt8)) : List Int → List (List I4) → List UInt8 → List UInt8
  | v :: vs, e :: es, t => wSets names vs es (t ++ ([32, 59, 32] ++ names.getD v.toNat [] ++ [32, 61, 32] ++ writeExpr names e))
  | _, _, t => t
def wRule (names : List (List UInt8)) (r : Rule') (t : List UInt8) : List UInt8 := wSets names r.2.1 r.2.2 (t ++ ([114, 117, 108, 101, 32] ++ writeExpr names r.1)) ++ [10]
def wRules (names : List (List UInt8)) : List Rule' → List UInt8 → List UInt8
  | [], t => t
  | r :: rs, t => wRules names rs (wRule names r t)
def wGoals (names : List (List UInt8)) : List (List I4) → List UInt8 → List UInt8
  | [], t => t
  | g :: gs, t => wGoals names gs (t ++ ([103, 111, 97, 108, 32] ++ writeExpr names g ++ [10]))
def short4 (t : List UInt8) : List UInt8 := if 4000 < t.length then [] else t
def writeModel (m : Model') : List UInt8 := if modelOk m = true then short4 (wGoals m.1 m.2.2 (wRules m.1 m.2.1.2 (wVars m.1 0 m.2.1.1 []))) else []
structure RuleIn (names : List (List UInt8)) (r : Rule') : Prop where
  same : r.2.1.length = r.2.2.length
  few : r.2.1.length ≤ 5
  into : ∀ v ∈ r.2.1, 0 ≤ v ∧ v < names.length
structure ModIn (names : List (List UInt8)) (vars : List Var') (rules : List Rule') (goals : List (List I4)) : Prop where
  ok : namesOk names = true
  n8 : ∀ i, (names.getD i []).length ≤ 8
  nl : names.length ≤ 5
  vl : vars.length = names.length
  vs : ∀ v ∈ vars, (-9999 ≤ v.1 ∧ v.1 ≤ 9999) ∧ (-9999 ≤ v.2.1 ∧ v.2.1 ≤ 9999) ∧ (-9999 ≤ v.2.2 ∧ v.2.2 ≤ 9999)
  rl : rules.length ≤ 8
  rs : ∀ r ∈ rules, RuleIn names r
  gl : goals.length ≤ 4
theorem setsGo_in {vars : Int} : ∀ (vs : List Int) (ts : List (List I4)) (old : Option Int), vs.length = ts.length → setsGo vars old vs ts = true → ∀ v ∈ vs, 0 ≤ v ∧ v < vars
  | [], _, _, _, _, v, hv => by cases hv
  | v :: vs, [], _, hl, _, _, _ => by simp at hl
  | v :: vs, t :: ts, old, hl, h, x, hx => by
    simp only [setsGo, Bool.and_eq_true, in3_iff] at h
    rcases List.mem_cons.1 hx with rfl | hx
    · omega
    · exact setsGo_in vs ts _ (by simpa using hl) h.2.2.2 x hx
theorem modIn_of {names : List (List UInt8)} {vars : List Var'} {rules : List Rule'} {goals : List (List I4)} (h : modelOk (names, (vars, rules), goals) = true) : ModIn names vars rules goals := by
  simp only [modelOk, sysOk, Bool.and_eq_true, in3_iff, decide_eq_true_eq, List.all_eq_true] at h
  obtain ⟨⟨⟨h1, h2⟩, h3, h4, h5, h6⟩, h7, h8, h9, h10⟩ := h
  have hm := namesOk_mem h7
  refine ⟨h7, fun i => ?_, hm.1, h8.symm, fun v hv => ?_, h3, fun r hr => ?_, h9⟩
  · rcases Nat.lt_or_ge i names.length with hi | hi
    · exact (nameOk_len (hm.2 _ (getD_mem hi))).2
    · rw [List.getD_eq_getElem?_getD, List.getElem?_eq_none hi]; simp
  · have := h4 v hv
    simp only [varOk, Bool.and_eq_true, in3_iff, decide_eq_true_eq] at this
    omega
  · have := h6 r hr
    simp only [ruleOk, Bool.and_eq_true, decide_eq_true_eq] at this
    have hmany := setsGo_many this.2.2 this.2.1 (by omega)
    refine ⟨this.2.1, by omega, fun v hv => ?_⟩
    have := setsGo_in _ _ _ this.2.1 this.2.2 v hv
    omega
theorem wSets_len {names : List (List UInt8)} (h8 : ∀ i, (names.getD i []).length ≤ 8) : ∀ (vs : List Int) (es : List (List I4)) (t : List UInt8), (wSets names vs es t).length ≤ t.length + 4014 * vs.length
  | [], es, t => by simp [wSets]
  | v :: vs, [], t => by simp [wSets]
  | v :: vs, e :: es, t => by
    unfold wSets
    have h1 := wSets_len h8 vs es (t ++ ([32, 59, 32] ++ names.getD v.toNat [] ++ [32, 61, 32] ++ writeExpr names e))
    have h2 := h8 v.toNat
    have h3 := writeExpr_len names e
    simp only [List.length_append, List.length_cons, List.length_nil] at h1 ⊢
    omega
theorem wRule_len {names : List (List UInt8)} (h8 : ∀ i, (names.getD i []).length ≤ 8) {r : Rule'} (hr : RuleIn names r) (t : List UInt8) : (wRule names r t).length ≤ t.length + 25000 := by
  unfold wRule
  have h1 := wSets_len h8 r.2.1 r.2.2 (t ++ ([114, 117, 108, 101, 32] ++ writeExpr names r.1))
  have h2 := hr.few
  have h3 := writeExpr_len names r.1
  simp only [List.length_append, List.length_cons, List.length_nil] at h1 ⊢
  omega
theorem wRules_len {names : List (List UInt8)} (h8 : ∀ i, (names.getD i []).length ≤ 8) : ∀ (rs : List Rule') (t : List UInt8), (∀ r ∈ rs, RuleIn names r) → (wRules names rs t).length ≤ t.length + 25000 * rs.length
  | [], t, _ => by simp [wRules]
  | r :: rs, t, h => by
    unfold wRules
    have h1 := wRules_len h8 rs (wRule names r t) fun x hx => h x (by simp [hx])
    have h2 := wRule_len h8 (h r (by simp)) t
    simp only [List.length_cons]
    omega
theorem itoa9 {n : Int} (h1 : -9999 ≤ n) (h2 : n ≤ 9999) : (Lib.itoa n).length ≤ 20 := itoa_len n (by omega) (by omega)
theorem wVars_len {names : List (List UInt8)} (h8 : ∀ i, (names.getD i []).length ≤ 8) : ∀ (r : List Var') (i : Nat) (t : List UInt8), (∀ v ∈ r, (-9999 ≤ v.1 ∧ v.1 ≤ 9999) ∧ (-9999 ≤ v.2.1 ∧ v.2.1 ≤ 9999) ∧ (-9999 ≤ v.2.2 ∧ v.2.2 ≤ 9999)) → (wVars names i r t).length ≤ t.length + 100 * r.length
  | [], i, t, _ => by simp [wVars]
  | v :: r, i, t, h => by
    unfold wVars
    have h1 := wVars_len h8 r (i + 1) (t ++ ([118, 97, 114, 32] ++ names.getD i [] ++ [32] ++ Lib.itoa v.1 ++ [32] ++ Lib.itoa v.2.1 ++ [32] ++ Lib.itoa v.2.2 ++ [10])) fun x hx => h x (by simp [hx])
    have hv := h v (by simp)
    have a1 := itoa9 hv.1.1 hv.1.2
    have a2 := itoa9 hv.2.1.1 hv.2.1.2
    have a3 := itoa9 hv.2.2.1 hv.2.2.2
    have a4 := h8 i
    simp only [List.length_append, List.length_cons, List.length_nil] at h1 ⊢
    omega
namespace spec_WriteModel
variable {names : List (List UInt8)} {vars : List Var'} {rules : List Rule'} {goals : List (List I4)}
theorem goalsL (h : ModIn names vars rules goals) (t : List UInt8) (ht : t.length ≤ 300000) : L20 (t, 0, names, vars, rules, goals, ()) = some (short4 (wGoals names goals t), ()) := by
  have hsz := szS_namesOk h.ok
  refine up_list (S := List UInt8) goals [] (fun i t => t.length ≤ 300000 + 5000 * i) (fun i t => L20 (t, (i : Int), names, vars, rules, goals, ())) (fun i r t => some (short4 (wGoals names r t), ())) ?_ ?_ t (by omega)
  · intro t ht
    rw [L20_eq]; unfold F20; simp (disch := omega) only [inb_nat, cast_lt, Int.toNat_natCast, wI_succ]
    rw [decide_eq_false (Nat.lt_irrefl _), cond_false]
    unfold wGoals short4
    by_cases h4 : 4000 < t.length
    · rw [decide_eq_true (by omega), if_pos h4]; rfl
    · rw [decide_eq_false (by omega), if_neg h4]; rfl
  · intro i t hi ht ih
    have h4 := h.gl
    have hw := writeExpr_len names (goals.getD i [])
    rw [L20_eq]; unfold F20; simp (disch := omega) only [inb_nat, cast_lt, Int.toNat_natCast, wI_succ]
    rw [decide_eq_true hi, cond_true, L22_eq]; unfold F22; simp (disch := omega) only [inb_nat, cast_lt, Int.toNat_natCast, wI_succ]
    generalize goals.getD i [] = g at hw ⊢
    rw [decide_eq_true hi, spec_WriteExpr.law names g (by omega)]
    simp (disch := omega) only [decide_eq_true, decide_eq_false, cond_true, cond_false, Option.bind_some, Option.bind_none, List.length_append, List.length_cons, List.length_nil]
    rw [ih _ (by simp only [List.length_append, List.length_cons, List.length_nil]; omega)]
    simp only [wGoals, List.append_assoc]
theorem setsL (h : ModIn names vars rules goals) {r : Rule'} (hr : RuleIn names r) (i : Nat) (hi : i ≤ 100) (t : List UInt8) (ht : t.length ≤ 300000) : L15 L10 (t, (i : Int), 0, names, vars, rules, goals, r.1, r.2.1, r.2.2, ()) = L10 (wSets names r.2.1 r.2.2 t ++ [10], ((i + 1 : Nat) : Int), names, vars, rules, goals, ()) := by
  have hsz := szS_namesOk h.ok
  obtain ⟨when_, sets, terms⟩ := r
  obtain ⟨hs, hf, hin⟩ := hr
  simp only at hs hf hin ⊢
  refine (up_list (S := List UInt8) sets 0 (fun j t => t.length ≤ 300000 + 5000 * j) (fun j t => L15 L10 (t, (i : Int), (j : Int), names, vars, rules, goals, when_, sets, terms, ())) (fun j q t => L10 (wSets names q (terms.drop j) t ++ [10], ((i + 1 : Nat) : Int), names, vars, rules, goals, ())) ?_ ?_ t (by omega)).trans (by rw [List.drop_zero])
  · intro t ht
    rw [L15_eq]; unfold F15; simp (disch := omega) only [inb_nat, cast_lt, Int.toNat_natCast, wI_succ]
    rw [decide_eq_false (Nat.lt_irrefl _), cond_false, decide_eq_true (by simp only [List.length_append, List.length_cons, List.length_nil]; omega), cond_true]
    simp only [wSets]
  · intro j t hj ht ih
    have hv := hin _ (getD_mem (d := 0) hj)
    have hn := h.n8 (sets.getD j 0).toNat
    have hw := writeExpr_len names (terms.getD j [])
    have hd := drop_cons ([] : List I4) (xs := terms) (i := j) (by omega)
    rw [L15_eq]; unfold F15; simp (disch := omega) only [inb_nat, cast_lt, Int.toNat_natCast, wI_succ]
    rw [decide_eq_true hj, cond_true, L17_eq]; unfold F17; simp (disch := omega) only [inb_nat, cast_lt, Int.toNat_natCast, wI_succ]
    rw [hd]
    obtain ⟨v, hve⟩ : ∃ v, sets.getD j 0 = v := ⟨_, rfl⟩
    simp only [hve] at hv hn ⊢
    generalize terms.getD j [] = e at hw ⊢
    rw [decide_eq_true hj, inb_int hv.1 hv.2, decide_eq_true (show j < terms.length by omega), spec_WriteExpr.law names e (by omega)]
    simp (disch := omega) only [decide_eq_true, decide_eq_false, cond_true, cond_false, Option.bind_some, Option.bind_none, List.length_append, List.length_cons, List.length_nil]
    rw [ih _ (by simp only [List.length_append, List.length_cons, List.length_nil]; omega)]
    simp only [wSets, List.append_assoc]
theorem rulesL (h : ModIn names vars rules goals) (t : List UInt8) (ht : t.length ≤ 1000) : L10 (t, 0, names, vars, rules, goals, ()) = some (short4 (wGoals names goals (wRules names rules t)), ()) := by
  have hsz := szS_namesOk h.ok
  have h8 := h.rl
  refine up_list (S := List UInt8) rules ([], [], []) (fun i t => t.length ≤ 1000 + 25000 * i) (fun i t => L10 (t, (i : Int), names, vars, rules, goals, ())) (fun i r t => some (short4 (wGoals names goals (wRules names r t)), ())) ?_ ?_ t (by omega)
  · intro t ht
    rw [L10_eq]; unfold F10; simp (disch := omega) only [inb_nat, cast_lt, Int.toNat_natCast, wI_succ]
    rw [decide_eq_false (Nat.lt_irrefl _), cond_false]
    exact goalsL h t (by omega)
  · intro i t hi ht ih
    have hr := h.rs _ (getD_mem (d := ([], [], [])) hi)
    have hw := writeExpr_len names (rules.getD i ([], [], [])).1
    have hl := wRule_len h.n8 hr t
    rw [L10_eq]; unfold F10; simp (disch := omega) only [inb_nat, cast_lt, Int.toNat_natCast, wI_succ]
    generalize rules.getD i ([], [], []) = r at hr hw hl ⊢
    rw [decide_eq_true hi, cond_true, cond_true, decide_eq_true (by simp only [List.length_append, List.length_cons, List.length_nil]; omega), cond_true, spec_WriteExpr.law names r.1 (by omega), Option.bind_some]
    simp only
    rw [decide_eq_true (by simp only [List.length_append, List.length_cons, List.length_nil]; omega), cond_true, setsL h hr i (by omega) _ (by simp only [List.length_append, List.length_cons, List.length_nil]; omega)]
    have e : wSets names r.2.1 r.2.2 ((t ++ [114, 117, 108, 101, 32]) ++ writeExpr names r.1) ++ [10] = wRule names r t := by unfold wRule; rw [List.append_assoc]
    have ih2 := ih (wRule names r t) (Nat.le_trans hl (by rw [Nat.mul_add]; omega))
    rw [e, ih2]
    rfl
theorem law (m : Model') (hm : ModSz m) : impl (m, ()) = some (writeModel m, ()) := by
  obtain ⟨names, ⟨vars, rules⟩, goals⟩ := m
  rw [impl_eq]; unfold F0 writeModel
  rw [spec_ModelValid.law _ hm, Option.bind_some]
  by_cases hk : modelOk (names, (vars, rules), goals) = true
  rotate_left
  · simp [hk]
  have h := modIn_of hk
  have h5 := h.nl
  rw [hk, Bool.not_true, cond_false, if_pos rfl]
  refine up_list (S := List UInt8) vars (0, 0, 0) (fun i t => t.length ≤ 100 * i) (fun i t => L5 (t, (i : Int), names, vars, rules, goals, ())) (fun i r t => some (short4 (wGoals names goals (wRules names rules (wVars names i r t))), ())) ?_ ?_ [] (by simp)
  · intro t ht
    rw [L5_eq]; unfold F5; simp (disch := omega) only [inb_nat, cast_lt, Int.toNat_natCast, wI_succ]
    rw [h.vl, decide_eq_false (Nat.lt_irrefl _), cond_false]
    have := h.vl
    exact rulesL h t (by omega)
  · intro i t hi ht ih
    have hv := h.vs _ (getD_mem (d := (0, 0, 0)) hi)
    have hn := h.n8 i
    have hin : i < names.length := by have := h.vl; omega
    rw [L5_eq]; unfold F5; simp (disch := omega) only [inb_nat, cast_lt, Int.toNat_natCast, wI_succ]
    generalize vars.getD i (0, 0, 0) = v at hv ⊢
    have a1 := itoa9 hv.1.1 hv.1.2
    have a2 := itoa9 hv.2.1.1 hv.2.1.2
    have a3 := itoa9 hv.2.2.1 hv.2.2.2
    rw [decide_eq_true hin, cond_true, decide_eq_true hi, cond_true, L8_eq]; unfold F8; simp (disch := omega) only [inb_nat, cast_lt, Int.toNat_natCast, wI_succ]
    rw [decide_eq_true hin, spec_l40Dec.law v.1 (by omega) (by omega), spec_l40Dec.law v.2.1 (by omega) (by omega), spec_l40Dec.law v.2.2 (by omega) (by omega)]
    simp (disch := omega) only [decide_eq_true, decide_eq_false, cond_true, cond_false, Option.bind_some, Option.bind_none, List.length_append, List.length_cons, List.length_nil]
    rw [ih _ (by simp only [List.length_append, List.length_cons, List.length_nil]; omega)]
    simp only [wVars, List.append_assoc]
end spec_WriteModel
namespace impl_WriteModel
variable {names : List (List UInt8)} {vars : List Var'} {rules : List Rule'} {goals : List (List I4)}
theorem goalsL (h : ModIn names vars rules goals) (t : List UInt8) (ht : t.length ≤ 300000) : L21 (goals, (goals.length : Int), 0, names, vars, rules, goals, t, ()) = some (short4 (wGoals names goals t), ()) := by
  have hsz := szS_namesOk h.ok
  refine up_list (S := List UInt8) goals [] (fun i t => t.length ≤ 300000 + 5000 * i) (fun i t => L21 (goals, (goals.length : Int), (i : Int), names, vars, rules, goals, t, ())) (fun i r t => some (short4 (wGoals names r t), ())) ?_ ?_ t (by omega)
  · intro t ht
    rw [L21_eq]; unfold F21; simp (disch := omega) only [inb_nat, cast_lt, Int.toNat_natCast, wI_succ]
    rw [decide_eq_false (Nat.lt_irrefl _), cond_false]
    unfold wGoals short4
    by_cases h4 : 4000 < t.length
    · rw [decide_eq_true (by omega), if_pos h4]; rfl
    · rw [decide_eq_false (by omega), if_neg h4]; rfl
  · intro i t hi ht ih
    have h4 := h.gl
    have hw := writeExpr_len names (goals.getD i [])
    rw [L21_eq]; unfold F21; simp (disch := omega) only [inb_nat, cast_lt, Int.toNat_natCast, wI_succ]
    generalize goals.getD i [] = g at hw ⊢
    rw [decide_eq_true hi, impl_WriteExpr.law names g (by omega)]
    simp (disch := omega) only [decide_eq_true, decide_eq_false, cond_true, cond_false, Option.bind_some, Option.bind_none, List.length_append, List.length_cons, List.length_nil]
    rw [ih _ (by simp only [List.length_append, List.length_cons, List.length_nil]; omega)]
    simp only [wGoals, List.append_assoc]
theorem setsL (h : ModIn names vars rules goals) {r : Rule'} (hr : RuleIn names r) (i : Nat) (hi : i ≤ 100) (t : List UInt8) (ht : t.length ≤ 300000) : L14 L10 (rules, (rules.length : Int), (i : Int), r.2.1, (r.2.1.length : Int), 0, names, vars, rules, goals, r.1, r.2.1, r.2.2, t, ()) = L10 (rules, (rules.length : Int), ((i + 1 : Nat) : Int), names, vars, rules, goals, wSets names r.2.1 r.2.2 t ++ [10], ()) := by
  have hsz := szS_namesOk h.ok
  obtain ⟨when_, sets, terms⟩ := r
  obtain ⟨hs, hf, hin⟩ := hr
  simp only at hs hf hin ⊢
  refine (up_list (S := List UInt8) sets 0 (fun j t => t.length ≤ 300000 + 5000 * j) (fun j t => L14 L10 (rules, (rules.length : Int), (i : Int), sets, (sets.length : Int), (j : Int), names, vars, rules, goals, when_, sets, terms, t, ())) (fun j q t => L10 (rules, (rules.length : Int), ((i + 1 : Nat) : Int), names, vars, rules, goals, wSets names q (terms.drop j) t ++ [10], ())) ?_ ?_ t (by omega)).trans (by rw [List.drop_zero])
  · intro t ht
    rw [L14_eq]; unfold F14; simp (disch := omega) only [inb_nat, cast_lt, Int.toNat_natCast, wI_succ]
    rw [decide_eq_false (Nat.lt_irrefl _), cond_false, decide_eq_true (by simp only [List.length_append, List.length_cons, List.length_nil]; omega), cond_true]
    simp only [wSets]
  · intro j t hj ht ih
    have hv := hin _ (getD_mem (d := 0) hj)
    have hn := h.n8 (sets.getD j 0).toNat
    have hw := writeExpr_len names (terms.getD j [])
    have hd := drop_cons ([] : List I4) (xs := terms) (i := j) (by omega)
    rw [L14_eq]; unfold F14; simp (disch := omega) only [inb_nat, cast_lt, Int.toNat_natCast, wI_succ]
    rw [decide_eq_true hj, cond_true, cond_true, L16_eq]; unfold F16; simp (disch := omega) only [inb_nat, cast_lt, Int.toNat_natCast, wI_succ]
    rw [hd]
    obtain ⟨v, hve⟩ : ∃ v, sets.getD j 0 = v := ⟨_, rfl⟩
    simp only [hve] at hv hn ⊢
    generalize terms.getD j [] = e at hw ⊢
    rw [inb_int hv.1 hv.2, decide_eq_true (show j < terms.length by omega), impl_WriteExpr.law names e (by omega)]
    simp (disch := omega) only [decide_eq_true, decide_eq_false, cond_true, cond_false, Option.bind_some, Option.bind_none, List.length_append, List.length_cons, List.length_nil]
    rw [ih _ (by simp only [List.length_append, List.length_cons, List.length_nil]; omega)]
    simp only [wSets, List.append_assoc]
theorem rulesL (h : ModIn names vars rules goals) (t : List UInt8) (ht : t.length ≤ 1000) : L10 (rules, (rules.length : Int), 0, names, vars, rules, goals, t, ()) = some (short4 (wGoals names goals (wRules names rules t)), ()) := by
  have hsz := szS_namesOk h.ok
  have h8 := h.rl
  refine up_list (S := List UInt8) rules ([], [], []) (fun i t => t.length ≤ 1000 + 25000 * i) (fun i t => L10 (rules, (rules.length : Int), (i : Int), names, vars, rules, goals, t, ())) (fun i r t => some (short4 (wGoals names goals (wRules names r t)), ())) ?_ ?_ t (by omega)
  · intro t ht
    rw [L10_eq]; unfold F10; simp (disch := omega) only [inb_nat, cast_lt, Int.toNat_natCast, wI_succ]
    rw [decide_eq_false (Nat.lt_irrefl _), cond_false]
    exact goalsL h t (by omega)
  · intro i t hi ht ih
    have hr := h.rs _ (getD_mem (d := ([], [], [])) hi)
    have hw := writeExpr_len names (rules.getD i ([], [], [])).1
    have hl := wRule_len h.n8 hr t
    rw [L10_eq]; unfold F10; simp (disch := omega) only [inb_nat, cast_lt, Int.toNat_natCast, wI_succ]
    generalize rules.getD i ([], [], []) = r at hr hw hl ⊢
    rw [decide_eq_true hi, cond_true, cond_true, impl_WriteExpr.law names r.1 (by omega), Option.bind_some]
    simp only
    rw [decide_eq_true (by simp only [List.length_append, List.length_cons, List.length_nil]; omega), cond_true, decide_eq_true (by simp only [List.length_append, List.length_cons, List.length_nil]; omega), cond_true, setsL h hr i (by omega) _ (by simp only [List.length_append, List.length_cons, List.length_nil]; omega)]
    have e : wSets names r.2.1 r.2.2 (t ++ ([114, 117, 108, 101, 32] ++ writeExpr names r.1)) ++ [10] = wRule names r t := rfl
    have ih2 := ih (wRule names r t) (Nat.le_trans hl (by rw [Nat.mul_add]; omega))
    rw [e, ih2]
    rfl
theorem law (m : Model') (hm : ModSz m) : impl (m, ()) = some (writeModel m, ()) := by
  obtain ⟨names, ⟨vars, rules⟩, goals⟩ := m
  rw [impl_eq]; unfold F0 writeModel
  rw [impl_ModelValid.law _ hm, Option.bind_some]
  by_cases hk : modelOk (names, (vars, rules), goals) = true
  rotate_left
  · simp [hk]
  have h := modIn_of hk
  have h5 := h.nl
  have hvl := h.vl
  rw [hk, Bool.not_true, cond_false, if_pos rfl]
  refine up_list (S := List UInt8) vars (0, 0, 0) (fun i t => t.length ≤ 100 * i) (fun i t => L5 (vars, (vars.length : Int), (i : Int), names, vars, rules, goals, t, ())) (fun i r t => some (short4 (wGoals names goals (wRules names rules (wVars names i r t))), ())) ?_ ?_ [] (by simp)
  · intro t ht
    rw [L5_eq]; unfold F5; simp (disch := omega) only [inb_nat, cast_lt, Int.toNat_natCast, wI_succ]
    rw [decide_eq_false (Nat.lt_irrefl _), cond_false]
    exact rulesL h t (by omega)
  · intro i t hi ht ih
    have hv := h.vs _ (getD_mem (d := (0, 0, 0)) hi)
    have hn := h.n8 i
    have hin : i < names.length := by omega
    rw [L5_eq]; unfold F5; simp (disch := omega) only [inb_nat, cast_lt, Int.toNat_natCast, wI_succ]
    generalize vars.getD i (0, 0, 0) = v at hv ⊢
    have a1 := itoa9 hv.1.1 hv.1.2
    have a2 := itoa9 hv.2.1.1 hv.2.1.2
    have a3 := itoa9 hv.2.2.1 hv.2.2.2
    rw [decide_eq_true hi, cond_true, cond_true, L7_eq]; unfold F7; simp (disch := omega) only [inb_nat, cast_lt, Int.toNat_natCast, wI_succ]
    rw [decide_eq_true hin, itoa_law v.1 (by omega) (by omega), itoa_law v.2.1 (by omega) (by omega), itoa_law v.2.2 (by omega) (by omega)]
    simp (disch := omega) only [decide_eq_true, decide_eq_false, cond_true, cond_false, Option.bind_some, Option.bind_none, List.length_append, List.length_cons, List.length_nil]
    rw [ih _ (by simp only [List.length_append, List.length_cons, List.length_nil]; omega)]
    simp only [wVars, List.append_assoc]
end impl_WriteModel
namespace laws_FnExactWriteModel
theorem law (m : (List (List UInt8)) × ((List (Int × Int × Int)) × List ((List (Int × Int × Int × Int)) × (List Int) × List (List (Int × Int × Int × Int)))) × List (List (Int × Int × Int × Int))) (hw : (Ty.prod (.sl .str) (.prod (.prod (.sl (.prod (.int .i64) (.prod (.int .i64) (.last (.int .i64))))) (.last (.sl (.prod (.sl (.prod (.int .i64) (.prod (.int .i64) (.prod (.int .i64) (.last (.int .i64)))))) (.prod (.sl (.int .i64)) (.last (.sl (.sl (.prod (.int .i64) (.prod (.int .i64) (.prod (.int .i64) (.last (.int .i64))))))))))))) (.last (.sl (.sl (.prod (.int .i64) (.prod (.int .i64) (.prod (.int .i64) (.last (.int .i64)))))))))).wf m) : impl (m, ()) = some (true, ()) := by
  rw [impl_eq]; unfold F0
  rw [laws_szModel.law m _ (by omega) (by omega) hw, Option.bind_some]
  generalize hz : (fun x => _) m = z
  by_cases hs : z ≤ 1048576
  rotate_left
  · have : less 1048576 z < 0 := by unfold less; split <;> omega
    rw [decide_eq_true this]; rfl
  have hn : ¬ less 1048576 z < 0 := by unfold less; split <;> omega
  rw [decide_eq_false hn, cond_false]
  have hto := laws_toModel.law m (by rw [hz]; exact hs)
  obtain ⟨names, ⟨vars, rules⟩, goals⟩ := m
  simp only at hz hto
  have hM : ModSz (names, (vars, rules), goals) := ⟨by simp only; omega, by simp only; omega, by have := mL_len (fun (x : (List (Int × Int × Int × Int)) × (List Int) × List (List (Int × Int × Int × Int))) => x.1.length + x.2.1.length + mL List.length x.2.2) rules; simp only; omega, fun r hr => by
    have := mL_mem (fun (x : (List (Int × Int × Int × Int)) × (List Int) × List (List (Int × Int × Int × Int))) => x.1.length + x.2.1.length + mL List.length x.2.2) hr
    simp only at this; omega, by have := mL_len List.length goals; simp only; omega⟩
  have heq := laws_eqModel.law (names, (vars, rules), goals) (names, (vars, rules), goals) (by simp only; omega)
  simp only [hto, Option.bind_some, spec_WriteModel.law _ hM, impl_WriteModel.law _ hM, L10_eq, F10, heq]
  simp
end laws_FnExactWriteModel
end Go.Proofs.YtfjnckjkpkhbdaaGreatDoorB
