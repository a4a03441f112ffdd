/- The plain law: what the functions compute, in plain Lean. -/
import Derived.Test.YtambmmpilakgoaaDoorKFnExactNamesValid
import Derived.Test.YtambmmpilakgoaaDoorP0
set_option linter.unusedVariables false
set_option linter.unusedSimpArgs false
set_option maxRecDepth 10000
set_option synthInstance.maxSize 10000
set_option synthInstance.maxHeartbeats 400000
namespace Go.Proofs.YtambmmpilakgoaaDoorB
open Go
namespace spec_l1In
theorem law (x a b : Int) : impl (x, a, b, ()) = some (in3 x a b, ()) := by
  rw [impl_eq]; unfold F0
  rw [cond_ret]
  congr 2
  rw [Bool.eq_iff_iff, in3_iff]
  simp only [cond_iff, decide_eq_true_eq, Bool.false_eq_true, and_false, or_false]
end spec_l1In
namespace impl_in
theorem law (x a b : Int) : impl (x, a, b, ()) = some (in3 x a b, ()) := by
  rw [impl_eq]; unfold F0
  rw [cond_ret]
  congr 2
  rw [Bool.eq_iff_iff, in3_iff]
  simp only [cond_iff, decide_eq_true_eq, Bool.false_eq_true, and_false, or_false]
end impl_in
/-! ### a text cut at each byte of a kind -/
def cutAt (c : UInt8) : List UInt8 → List (List UInt8)
  | [] => [[]]
  | b :: l => if b = c then [] :: cutAt c l else match cutAt c l with
    | [] => [[b]]
    | p :: ps => (b :: p) :: ps
theorem cutAt_ne (c : UInt8) (s : List UInt8) : cutAt c s ≠ [] := by
  cases s with
  | nil => simp [cutAt]
  | cons b l =>
    unfold cutAt
    split
    · simp
    · split <;> simp
theorem index_one_cons (b c : UInt8) (l : List UInt8) : Lib.index (b :: l) [c] = if b = c then 0 else if Lib.index l [c] = -1 then -1 else Lib.index l [c] + 1 := by
  rw [Lib.index]
  by_cases h : b = c
  · subst h; simp
  · have : ¬ c = b := fun e => h e.symm
    simp [h, this]
theorem split_cut (c : UInt8) : ∀ (s : List UInt8) (k : Nat), Lib.count s [c] ≤ k → Lib.splitK [c] 0 k s = cutAt c s
  | [], 0, _ => rfl
  | [], k + 1, _ => by simp [Lib.splitK, Lib.index, cutAt]
  | b :: l, k, hk => by
    by_cases h : b = c
    · subst h
      rw [Lib.count_cons_eq] at hk
      obtain ⟨k, rfl⟩ : ∃ k', k = k' + 1 := ⟨k - 1, by omega⟩
      have := split_cut b l k (by omega)
      rw [Lib.splitK, index_one_cons]
      simp [cutAt, this]
    · rw [Lib.count_cons_ne b c l h] at hk
      have ih := split_cut c l k hk
      rw [cutAt, if_neg h, ← ih]
      cases k with
      | zero => simp [Lib.splitK]
      | succ k =>
        rw [Lib.splitK, index_one_cons, if_neg h, Lib.splitK]
        by_cases hi : Lib.index l [c] = -1
        · simp [hi]
        · have := Lib.index_ge l [c]
          have hn : ¬ Lib.index l [c] + 1 = -1 := by omega
          simp only [hi, if_false, beq_iff_eq, hn, List.length_cons, List.length_nil, Nat.add_zero]
          rw [show (Lib.index l [c] + 1).toNat = (Lib.index l [c]).toNat + 1 by omega, show (Lib.index l [c]).toNat + 1 + (0 + 1) = (Lib.index l [c]).toNat + (0 + 1) + 1 by omega]
          simp
theorem split_one (c : UInt8) (s : List UInt8) : Lib.split s [c] = cutAt c s := split_cut c s _ (Nat.le_refl _)
theorem cutAt_pre (c : UInt8) : ∀ (p : List UInt8) (r : List UInt8), (∀ b ∈ p, b ≠ c) → cutAt c (p ++ r) = match cutAt c r with
    | [] => [p]
    | q :: qs => (p ++ q) :: qs
  | [], r, _ => by
    cases h : cutAt c r with
    | nil => exact absurd h (cutAt_ne c r)
    | cons q qs => simp [h]
  | b :: p, r, hp => by
    have hb := hp b (by simp)
    rw [List.cons_append, cutAt, if_neg hb, cutAt_pre c p r fun x hx => hp x (by simp [hx])]
    cases h : cutAt c r with
    | nil => exact absurd h (cutAt_ne c r)
    | cons q qs => rfl
theorem cutAt_none {c : UInt8} {p : List UInt8} (hp : ∀ b ∈ p, b ≠ c) : cutAt c p = [p] := by
  have := cutAt_pre c p [] hp
  simpa [cutAt] using this
theorem cutAt_sep {c : UInt8} {p r : List UInt8} (hp : ∀ b ∈ p, b ≠ c) : cutAt c (p ++ c :: r) = p :: cutAt c r := by
  rw [cutAt_pre c p _ hp, cutAt, if_pos rfl]
  simp
theorem cutAt_count (c : UInt8) : ∀ s : List UInt8, (cutAt c s).length = s.count c + 1
  | [] => rfl
  | b :: l => by
    have ih := cutAt_count c l
    unfold cutAt
    by_cases h : b = c
    · subst h; simp [ih]
    · rw [if_neg h, List.count_cons_of_ne h]
      cases hc : cutAt c l with
      | nil => exact absurd hc (cutAt_ne c l)
      | cons q qs => rw [hc] at ih; simpa using ih
theorem cutAt_length (c : UInt8) (s : List UInt8) : (cutAt c s).length ≤ s.length + 1 := by
  rw [cutAt_count]
  have := List.count_le_length (a := c) (l := s)
  omega
theorem cutAt_mem (c : UInt8) : ∀ (s : List UInt8), ∀ w ∈ cutAt c s, w.length ≤ s.length ∧ ∀ b ∈ w, b ≠ c
  | [], w, hw => by simp [cutAt] at hw; subst hw; simp
  | b :: l, w, hw => by
    have ih := cutAt_mem c l
    unfold cutAt at hw
    by_cases h : b = c
    · rw [if_pos h] at hw
      rcases List.mem_cons.1 hw with rfl | hw
      · simp
      · have := ih w hw; exact ⟨by simp; omega, this.2⟩
    · rw [if_neg h] at hw
      cases hc : cutAt c l with
      | nil => exact absurd hc (cutAt_ne c l)
      | cons q qs =>
        rw [hc] at hw ih
        rcases List.mem_cons.1 hw with rfl | hw
        · have := ih q (by simp)
          refine ⟨by simp; omega, fun x hx => ?_⟩
          rcases List.mem_cons.1 hx with rfl | hx
          · exact h
          · exact this.2 x hx
        · have := ih w (by simp [hw]); exact ⟨by simp; omega, this.2⟩
/-! ### cut off what is of some kind -/
theorem trim_empty {s cs : List UInt8} : Lib.trimS s cs = [] ↔ ∀ b ∈ s, cs.contains b = true := by
  unfold Lib.trimS Lib.trimLeftS Lib.trimRightS
  have key : ∀ l : List UInt8, l.dropWhile (cs.contains ·) = [] ↔ ∀ b ∈ l, cs.contains b = true := by
    intro l
    induction l with
    | nil => simp
    | cons b l ih =>
      rw [List.dropWhile_cons]
      by_cases h : cs.contains b = true
      · rw [if_pos h, ih, List.forall_mem_cons]; exact ⟨fun a => ⟨h, a⟩, fun a => a.2⟩
      · rw [if_neg h, List.forall_mem_cons]; exact ⟨fun a => (by cases a), fun a => absurd a.1 h⟩
  rw [key]
  constructor
  · intro h b hb
    by_cases hc : cs.contains b = true
    · exact hc
    · have h2 : (s.reverse.dropWhile (cs.contains ·)) = [] := by
        cases hd : s.reverse.dropWhile (cs.contains ·) with
        | nil => rfl
        | cons x xs =>
          have hx : ¬ cs.contains x = true := by
            have := List.head_dropWhile_not (cs.contains ·) (l := s.reverse) (by rw [hd]; simp)
            simp only [hd, List.head_cons] at this
            simpa using this
          exact absurd (h x (by rw [hd]; simp)) hx
      exact (key s.reverse).1 h2 b (by simpa using hb)
  · intro h b hb
    have := List.mem_reverse.1 hb
    exact h b (by simpa using List.dropWhile_sublist _ |>.subset this)
/-! ### loops over a list -/
theorem drop_cons {α : Type} {xs : List α} {i : Nat} (d : α) (h : i < xs.length) : xs.drop i = xs.getD i d :: xs.drop (i + 1) := by
  rw [List.drop_eq_getElem_cons h, getD_eq h]
/-- a loop that goes up along a list, and what it computes along what is left -/
theorem up_list {α S R : Type} (xs : List α) (d : α) (I : Nat → S → Prop) (L : Nat → S → Option R) (g : Nat → List α → S → Option R)
    (hn : ∀ s, I xs.length s → L xs.length s = g xs.length [] s)
    (hc : ∀ i s, i < xs.length → I i s → (∀ s', I (i + 1) s' → L (i + 1) s' = g (i + 1) (xs.drop (i + 1)) s') → L i s = g i (xs.getD i d :: xs.drop (i + 1)) s) :
    ∀ s, I 0 s → L 0 s = g 0 xs s := by
  have key : ∀ k i s, i + k = xs.length → I i s → L i s = g i (xs.drop i) s := by
    intro k
    induction k with
    | zero =>
      intro i s hi hI
      have : i = xs.length := by omega
      subst this
      rw [List.drop_length]
      exact hn s hI
    | succ k ih =>
      intro i s hi hI
      rw [drop_cons d (by omega)]
      exact hc i s (by omega) hI fun s' hI' => ih (i + 1) s' (by omega) hI'
  intro s hI
  have := key xs.length 0 s (by omega) hI
  rwa [List.drop_zero] at this
theorem inb_eq (i : Int) (n : Nat) : inb i n = (decide (0 ≤ i) && decide (i < n)) := rfl
theorem cast_lt (i n : Nat) : decide ((i : Int) < (n : Int)) = decide (i < n) := by simp
theorem up_list0 {α R : Type} (xs : List α) (d : α) (L : Nat → Option R) (g : Nat → List α → Option R) (hn : L xs.length = g xs.length [])
    (hc : ∀ i, i < xs.length → L (i + 1) = g (i + 1) (xs.drop (i + 1)) → L i = g i (xs.getD i d :: xs.drop (i + 1))) : L 0 = g 0 xs :=
  up_list (S := Unit) xs d (fun _ _ => True) (fun i _ => L i) (fun i r _ => g i r) (fun _ _ => hn) (fun i _ hi _ ih => hc i hi (ih () trivial)) () trivial
theorem decide_cons {α : Type} [DecidableEq α] (a b : α) (x y : List α) : decide (a :: x = b :: y) = (decide (a = b) && decide (x = y)) := by
  rw [Bool.eq_iff_iff]; simp
theorem bne_dec {α : Type} [DecidableEq α] (a b : α) : (a != b) = !decide (a = b) := by
  by_cases h : a = b <;> simp [h]
theorem isEmpty_len {α : Type} (xs : List α) : ((xs.length : Int) == 0) = xs.isEmpty := by cases xs <;> simp <;> omega
theorem pos_len {α : Type} (xs : List α) : decide ((xs.length : Int) > 0) = !xs.isEmpty := by cases xs <;> simp <;> omega
theorem take_snoc {α : Type} {xs : List α} {i : Nat} (d : α) (h : i < xs.length) : xs.take (i + 1) = xs.take i ++ [xs.getD i d] := by
  rw [List.take_add_one, List.getElem?_eq_getElem h, getD_eq h]; rfl
theorem lit_wf {n : Int} (h : (Lit.int .i64 n).wf = true) : -9223372036854775808 ≤ n ∧ n ≤ 9223372036854775807 := by
  simp only [Lit.wf, Bool.and_eq_true, decide_eq_true_eq] at h
  exact ⟨h.1, h.2⟩
/-- the first of a kind -/
def goIdx {α : Type} (p : α → Bool) : Nat → List α → Int
  | _, [] => -1
  | i, x :: r => bif p x then (i : Int) else goIdx p (i + 1) r
theorem goIdx_any {α : Type} (p : α → Bool) : ∀ (r : List α) (i : Nat), decide (goIdx p i r ≥ 0) = r.any p
  | [], _ => rfl
  | x :: r, i => by
    unfold goIdx
    rw [List.any_cons, ← goIdx_any p r (i + 1)]
    cases p x with
    | true => simp
    | false => rfl
theorem any_not {α : Type} (p : α → Bool) (r : List α) : (!r.any fun x => !p x) = r.all p := by
  induction r with
  | nil => rfl
  | cons x r ih => rw [List.any_cons, List.all_cons, ← ih]; cases p x <;> rfl
/-! ### names -/
def goAt (s : List UInt8) : Nat → List (List UInt8) → Int
  | _, [] => -1
  | i, x :: r => if x = s then (i : Int) else goAt s (i + 1) r
namespace spec_l30At
theorem law (xs : List (List UInt8)) (s : List UInt8) (hx : xs.length ≤ 1048576) : impl (xs, s, ()) = some (goAt s 0 xs, ()) := by
  rw [impl_eq]; unfold F0
  refine up_list0 xs [] (fun i => L2 (xs, s, (i : Int), ())) (fun i r => some (goAt s i r, ())) ?_ ?_
  · rw [L2_eq]; unfold F2; grind [goAt]
  · intro i hi ih
    rw [L2_eq]; unfold F2; simp (disch := omega) only [inb_nat, cast_lt, Int.toNat_natCast, wI_succ]; grind [goAt]
end spec_l30At
namespace slices_Index_of
theorem law (xs : List (List UInt8)) (s : List UInt8) (hx : xs.length ≤ 1048576) : impl (xs, s, ()) = some (goAt s 0 xs, ()) := by
  rw [impl_eq]; unfold F0
  refine up_list0 xs [] (fun i => L2 (xs, s, (xs.length : Int), (i : Int), ())) (fun i r => some (goAt s i r, ())) ?_ ?_
  · rw [L2_eq]; unfold F2; grind [goAt]
  · intro i hi ih
    rw [L2_eq]; unfold F2; simp (disch := omega) only [inb_nat, cast_lt, Int.toNat_natCast, wI_succ]; grind [goAt]
end slices_Index_of
def isLow (b : UInt8) : Bool := decide (97 ≤ b.toNat) && decide (b.toNat ≤ 122)
def nameOk (s : List UInt8) : Bool := s.all isLow && decide (1 ≤ s.length) && decide (s.length ≤ 8)
namespace spec_l30Name
theorem law (s : List UInt8) (hx : s.length ≤ 1048576) : impl (s, ()) = some (nameOk s, ()) := by
  rw [impl_eq]; unfold F0
  refine (up_list0 s 0 (fun i => L2 (s, (i : Int), ())) (fun i r => some (r.all isLow && (decide (1 ≤ s.length) && decide (s.length ≤ 8)), ())) ?_ ?_).trans (by simp [nameOk, Bool.and_assoc])
  · rw [L2_eq]; unfold F2; rw [spec_l1In.law]; grind [in3]
  · intro i hi ih
    rw [L2_eq]; unfold F2; simp (disch := omega) only [inb_nat, cast_lt, Int.toNat_natCast, wI_succ]; grind [isLow]
end spec_l30Name
theorem contains_az (b : UInt8) : ([97, 98, 99, 100, 101, 102, 103, 104, 105, 106, 107, 108, 109, 110, 111, 112, 113, 114, 115, 116, 117, 118, 119, 120, 121, 122] : List UInt8).contains b = isLow b := by
  have : ∀ n : Fin 256, ([97, 98, 99, 100, 101, 102, 103, 104, 105, 106, 107, 108, 109, 110, 111, 112, 113, 114, 115, 116, 117, 118, 119, 120, 121, 122] : List UInt8).contains (UInt8.ofNat n.val) = isLow (UInt8.ofNat n.val) := by decide +kernel
  have h := this ⟨b.toNat, b.toNat_lt⟩
  simpa using h
theorem trim_az (s : List UInt8) : (Lib.trimS s [97, 98, 99, 100, 101, 102, 103, 104, 105, 106, 107, 108, 109, 110, 111, 112, 113, 114, 115, 116, 117, 118, 119, 120, 121, 122] == []) = s.all isLow := by
  rw [Bool.eq_iff_iff, beq_iff_eq, trim_empty, List.all_eq_true]
  simp only [contains_az]
namespace impl_nameOk
theorem law (s : List UInt8) (hx : s.length ≤ 1048576) : impl (s, ()) = some (nameOk s, ()) := by
  rw [impl_eq]; unfold F0
  rw [impl_in.law, Option.bind_some]
  have : lib_Trim.impl (s, [97, 98, 99, 100, 101, 102, 103, 104, 105, 106, 107, 108, 109, 110, 111, 112, 113, 114, 115, 116, 117, 118, 119, 120, 121, 122], ()) = some (Lib.trimS s [97, 98, 99, 100, 101, 102, 103, 104, 105, 106, 107, 108, 109, 110, 111, 112, 113, 114, 115, 116, 117, 118, 119, 120, 121, 122], ()) := by
    show trimI _ = _
    unfold trimI
    rw [show (decide (s.length ≤ 9223372036854775807)) = true from decide_eq_true (by omega)]
    rfl
  rw [this, Option.bind_some, trim_az]
  unfold nameOk
  grind [in3]
end impl_nameOk
namespace slices_Contains_of
theorem law (xs : List (List UInt8)) (s : List UInt8) (hx : xs.length ≤ 1048576) : impl (xs, s, ()) = some (decide (goAt s 0 xs ≥ 0), ()) := by
  rw [impl_eq]; unfold F0
  rw [slices_Index_of.law _ _ hx]; rfl
end slices_Contains_of
/-- names, each once, behind those that were there -/
def namesGo (old : List (List UInt8)) : List (List UInt8) → Bool
  | [] => true
  | x :: r => nameOk x && (!decide (goAt x 0 old ≥ 0) && namesGo (old ++ [x]) r)
def namesOk (xs : List (List UInt8)) : Bool := decide (xs.length ≤ 5) && namesGo [] xs
theorem namesGo_mem : ∀ (xs old : List (List UInt8)), namesGo old xs = true → ∀ x ∈ xs, nameOk x = true
  | [], _, _, x, hx => by cases hx
  | y :: r, old, h, x, hx => by
    simp only [namesGo, Bool.and_eq_true] at h
    rcases List.mem_cons.1 hx with rfl | hx
    · exact h.1
    · exact namesGo_mem r _ h.2.2 x hx
theorem namesOk_mem {xs : List (List UInt8)} (h : namesOk xs = true) : xs.length ≤ 5 ∧ ∀ x ∈ xs, nameOk x = true := by
  simp only [namesOk, Bool.and_eq_true, decide_eq_true_eq] at h
  exact ⟨h.1, namesGo_mem xs [] h.2⟩
theorem nameOk_len {x : List UInt8} (h : nameOk x = true) : 1 ≤ x.length ∧ x.length ≤ 8 := by
  simp only [nameOk, Bool.and_eq_true, decide_eq_true_eq] at h
  exact ⟨h.1.2, h.2⟩
def szS (xs : List (List UInt8)) : Nat := (xs.map List.length).sum + xs.length
theorem szS_mem {xs : List (List UInt8)} {x : List UInt8} (h : x ∈ xs) : x.length + 1 ≤ szS xs := by
  unfold szS
  induction xs with
  | nil => cases h
  | cons y r ih =>
    simp only [List.map_cons, List.sum_cons, List.length_cons]
    rcases List.mem_cons.1 h with rfl | h
    · omega
    · have := ih h; omega
namespace spec_NamesValid
theorem law (xs : List (List UInt8)) (hx : szS xs ≤ 1048576) : impl (xs, ()) = some (namesOk xs, ()) := by
  have hl : xs.length ≤ 1048576 := by unfold szS at hx; omega
  rw [impl_eq]; unfold F0
  refine (up_list0 xs [] (fun i => L2 (xs, (i : Int), ())) (fun i r => some (namesGo (xs.take i) r && decide (xs.length ≤ 5), ())) ?_ ?_).trans (by simp [namesOk, Bool.and_comm])
  · rw [L2_eq]; unfold F2; rw [show decide ((xs.length : Int) ≤ 5) = decide (xs.length ≤ 5) from decide_eq_decide.2 (by omega)]; grind [namesGo]
  · intro i hi ih
    have hm := szS_mem (getD_mem (d := []) hi)
    rw [L2_eq]; unfold F2; rw [L4_eq]; unfold F4; simp (disch := omega) only [inb_nat, cast_lt, Int.toNat_natCast, wI_succ]
    rw [spec_l30Name.law _ (by omega), List.drop_zero, spec_l30At.law _ _ (by simp; omega)]
    rw [take_snoc [] hi] at ih
    grind [namesGo]
end spec_NamesValid
namespace impl_NamesValid
theorem law (xs : List (List UInt8)) (hx : szS xs ≤ 1048576) : impl (xs, ()) = some (namesOk xs, ()) := by
  have hl : xs.length ≤ 1048576 := by unfold szS at hx; omega
  rw [impl_eq]; unfold F0
  have h := up_list0 xs [] (fun i => L4 (xs, xs, (xs.length : Int), (i : Int), ())) (fun i r => some (namesGo (xs.take i) r, ())) (by
    rw [L4_eq]; unfold F4; grind [namesGo]) (by
    intro i hi ih
    have hm := szS_mem (getD_mem (d := []) hi)
    rw [L4_eq]; unfold F4; simp (disch := omega) only [inb_nat, cast_lt, Int.toNat_natCast, wI_succ]
    rw [impl_nameOk.law _ (by omega), List.drop_zero, slices_Contains_of.law _ _ (by simp; omega)]
    rw [take_snoc [] hi] at ih
    grind [namesGo])
  rw [List.take_zero] at h
  unfold namesOk
  grind
end impl_NamesValid
/-! ### lists of strings: size, copy, eq -/
namespace laws_szStringS
theorem law (xs : List (List UInt8)) (l : Nat) (hx : xs.length ≤ maxLen) (hm : ∀ x ∈ xs, x.length ≤ maxLen) (hl : l ≤ 1048576) : impl (xs, (l : Int), ()) = some (if (l : Int) - szS xs < 0 then -1 else (l : Int) - szS xs, ()) := by
  have hM : maxLen = 9223372036854775807 := by unfold maxLen; rfl
  rw [impl_eq]; unfold F0
  rw [wI_small (by omega) (by omega)]
  have key := up_list (S := Int) xs [] (fun _ l => 0 ≤ l ∧ l ≤ 1048576) (fun i l => L5 (xs, l, (i : Int), ())) (fun i r l => some (if l - ((r.map List.length).sum : Nat) < 0 then -1 else l - ((r.map List.length).sum : Nat), ())) (by
    intro s hs
    rw [L5_eq]; unfold F5; simp (disch := omega) only [inb_nat, cast_lt, Int.toNat_natCast, wI_succ]; simp; omega) (by
    intro i s hi hs ih
    have h1 := hm _ (getD_mem (d := []) hi)
    rw [L5_eq]; unfold F5; simp (disch := omega) only [inb_nat, cast_lt, Int.toNat_natCast, wI_succ]
    simp (disch := omega) only [List.map_cons, List.sum_cons, wI_small]
    by_cases h : s - ((xs.getD i []).length : Int) < 0
    · grind
    · have := ih (s - ((xs.getD i []).length : Int)) (by omega)
      grind)
  unfold szS
  by_cases h : (l : Int) - (xs.length : Int) < 0
  · grind
  · have h2 := key ((l : Int) - (xs.length : Int)) (by omega)
    have h3 : L5 (xs, (l : Int) - (xs.length : Int), 0, ()) = _ := h2
    grind
end laws_szStringS
namespace laws_toStringS
theorem law (xs : List (List UInt8)) (hx : xs.length ≤ 1048576) : impl (xs, ()) = some (xs, ()) := by
  rw [impl_eq]; unfold F0
  have : (decide (0 ≤ (xs.length : Int)) && decide ((xs.length : Int) ≤ (xs.length : Int)) && decide ((xs.length : Int) * 16 ≤ 140737488355328)) = true := by
    simp; omega
  rw [this, cond_true]
  have h := up_copy (R := PO) xs [] id (fun i r => L3 (xs, (i : Int), r, ())) (fun r => (r, ())) (fun i r hi hr => by
    show L3 _ = _
    rw [L3_eq]; unfold F3; simp (disch := omega) only [inb_nat, cast_lt, Int.toNat_natCast, wI_succ]; simp [hi, hr]) (fun r hr => by
    show L3 _ = _
    rw [L3_eq]; unfold F3
    simp) (List.replicate xs.length []) (by simp)
  simpa using h
end laws_toStringS
namespace laws_eqStringS
theorem law (xs ys : List (List UInt8)) (hx : xs.length ≤ 1048576) : impl (xs, ys, ()) = some (decide (xs = ys), ()) := by
  rw [impl_eq]; unfold F0
  by_cases hl : xs.length = ys.length
  · rw [show ((xs.length : Int) != (ys.length : Int)) = false by simp [hl], cond_false]
    have h := up_list0 xs [] (fun i => L4 (xs, ys, (i : Int), ())) (fun i r => some (decide (r = ys.drop i), ())) (by
      rw [L4_eq]; unfold F4; simp (disch := omega) only [inb_nat, cast_lt, Int.toNat_natCast, wI_succ]; simp [hl]) (by
      intro i hi ih
      have hj : i < ys.length := by omega
      rw [L4_eq]; unfold F4; simp (disch := omega) only [inb_nat, cast_lt, Int.toNat_natCast, wI_succ]; rw [L6_eq]; unfold F6; simp (disch := omega) only [inb_nat, cast_lt, Int.toNat_natCast, wI_succ]
      rw [drop_cons [] hj, decide_cons]
      grind)
    simpa using h
  · rw [show ((xs.length : Int) != (ys.length : Int)) = true by simp; omega, cond_true]
    have : xs ≠ ys := fun e => hl (by rw [e])
    simp [this]
end laws_eqStringS
namespace laws_FnExactNamesValid
theorem law (names : List (List UInt8)) (hw : (Ty.sl .str).wf names) : impl (names, ()) = some (true, ()) := by
  have hM : maxLen = 9223372036854775807 := by unfold maxLen; rfl
  rw [impl_eq]; unfold F0
  have hz := laws_szStringS.law names 1048576 hw.1 hw.2 (by omega)
  have hz' : laws_szStringS.impl (names, 1048576, ()) = _ := hz
  rw [hz', Option.bind_some]
  by_cases hn : ((1048576 : Nat) : Int) - szS names < 0
  · grind
  have hx : szS names ≤ 1048576 := by omega
  have hx2 : names.length ≤ 1048576 := by unfold szS at hx; omega
  simp only [hn, if_false]
  simp only [laws_toStringS.law _ hx2, Option.bind_some, spec_NamesValid.law _ hx, impl_NamesValid.law _ hx, laws_eqStringS.law _ _ hx2]
  simp [hn]
end laws_FnExactNamesValid
end Go.Proofs.YtambmmpilakgoaaDoorB
