/- The plain law: what the functions compute, in plain Lean. -/
import Derived.Test.YtambmmpilakgoaaDoorKFnExactWriteExpr
import Derived.Test.YtambmmpilakgoaaDoorP0
set_option linter.unusedVariables false
set_option linter.unusedSimpArgs false
set_option maxRecDepth 10000
namespace Go.Proofs.YtambmmpilakgoaaDoorB
open Go
namespace spec_l1In
theorem law (x a b : Int) : impl (x, a, b, ()) = some (in3 x a b, ()) := by
  rw [impl_eq]; unfold F0
  rw [cond_ret]
  congr 2
  rw [Bool.eq_iff_iff, in3_iff]
  simp only [cond_iff, decide_eq_true_eq, Bool.false_eq_true, and_false, or_false]
end spec_l1In
namespace impl_in
theorem law (x a b : Int) : impl (x, a, b, ()) = some (in3 x a b, ()) := by
  rw [impl_eq]; unfold F0
  rw [cond_ret]
  congr 2
  rw [Bool.eq_iff_iff, in3_iff]
  simp only [cond_iff, decide_eq_true_eq, Bool.false_eq_true, and_false, or_false]
end impl_in
/-! ### numbers as they are written -/
def isDig (c : UInt8) : Bool := decide (48 ≤ c.toNat) && decide (c.toNat ≤ 57)
def valD (l : List UInt8) : Nat := l.foldl (fun a c => a * 10 + (c.toNat - 48)) 0
def canon (l : List UInt8) : Bool := l.all isDig && (match l with | [] => false | c :: r => !(c == 48) || r.isEmpty)
theorem valD_snoc (l : List UInt8) (c : UInt8) : valD (l ++ [c]) = valD l * 10 + (c.toNat - 48) := by simp [valD]
theorem isDig_iff {c : UInt8} : isDig c = true ↔ 48 ≤ c.toNat ∧ c.toNat ≤ 57 := by simp [isDig]
theorem digs_dec (u : Nat) : (Lib.decDigits u).all isDig = true := by
  induction u using Nat.strongRecOn with
  | _ u ih =>
    rw [Lib.decDigits]
    split
    · rename_i h
      simp only [List.all_cons, List.all_nil, Bool.and_true, isDig_iff]
      have : (UInt8.ofNat (48 + u)).toNat = 48 + u := by simp; omega
      omega
    · rename_i h
      rw [List.all_append, ih (u / 10) (by omega)]
      simp only [List.all_cons, List.all_nil, Bool.and_true, Bool.true_and, isDig_iff]
      have : (UInt8.ofNat (48 + u % 10)).toNat = 48 + u % 10 := by simp; omega
      omega
theorem val_dec (u : Nat) : valD (Lib.decDigits u) = u := by
  induction u using Nat.strongRecOn with
  | _ u ih =>
    rw [Lib.decDigits]
    split
    · rename_i h
      have : (UInt8.ofNat (48 + u)).toNat = 48 + u := by simp; omega
      simp only [valD, List.foldl_cons, List.foldl_nil]
      omega
    · rename_i h
      have : (UInt8.ofNat (48 + u % 10)).toNat = 48 + u % 10 := by simp; omega
      rw [valD_snoc, ih (u / 10) (by omega)]
      omega
theorem dec_ne (u : Nat) : Lib.decDigits u ≠ [] := by
  rw [Lib.decDigits]
  split <;> simp
theorem head_dec (u : Nat) : ∀ c r, Lib.decDigits u = c :: r → u = 0 ∧ c = 48 ∧ r = [] ∨ 0 < u ∧ c ≠ 48 := by
  induction u using Nat.strongRecOn with
  | _ u ih =>
    intro c r h
    rw [Lib.decDigits] at h
    split at h
    · rename_i hu
      simp only [List.cons.injEq] at h
      obtain ⟨h1, h2⟩ := h
      by_cases h0 : u = 0
      · subst h0; left; exact ⟨rfl, h1.symm, h2.symm⟩
      · right
        refine ⟨by omega, fun e => ?_⟩
        rw [← h1] at e
        have : (UInt8.ofNat (48 + u)).toNat = 48 + u := by simp; omega
        rw [e] at this
        have h48 : (48 : UInt8).toNat = 48 := rfl
        omega
    · rename_i hu
      cases hd : Lib.decDigits (u / 10) with
      | nil => exact absurd hd (dec_ne _)
      | cons c' r' =>
        rw [hd] at h
        simp only [List.cons_append, List.cons.injEq] at h
        rcases ih (u / 10) (by omega) c' r' hd with ⟨h0, _⟩ | ⟨_, h1⟩
        · omega
        · right; exact ⟨by omega, by rw [← h.1]; exact h1⟩
theorem canon_dec (u : Nat) : canon (Lib.decDigits u) = true := by
  unfold canon
  rw [digs_dec, Bool.true_and]
  cases h : Lib.decDigits u with
  | nil => exact absurd h (dec_ne _)
  | cons c r =>
    rcases head_dec u c r h with ⟨_, _, h1⟩ | ⟨_, h1⟩
    · subst h1; simp
    · simp [h1]
theorem dec_val_aux : ∀ (n : Nat) (l : List UInt8), l.length = n → l.all isDig = true → (∀ c r, l = c :: r → c ≠ 48) → l ≠ [] → Lib.decDigits (valD l) = l ∧ 1 ≤ valD l := by
  intro n
  induction n with
  | zero => intro l hl _ _ hn; exact absurd (List.length_eq_zero_iff.1 hl) hn
  | succ n ih =>
    intro l hl hd hh hn
    obtain ⟨p, c, rfl⟩ : ∃ p c, l = p ++ [c] := ⟨l.dropLast, l.getLast hn, (List.dropLast_concat_getLast hn).symm⟩
    rw [List.all_append, Bool.and_eq_true] at hd
    have hc := isDig_iff.1 (show isDig c = true by simpa using hd.2)
    have hco : UInt8.ofNat c.toNat = c := by simp
    rw [valD_snoc]
    cases p with
    | nil =>
      have hc0 : c ≠ 48 := hh c [] rfl
      have : c.toNat ≠ 48 := fun e => hc0 (by rw [← hco, e]; rfl)
      have e0 : valD [] = 0 := rfl
      rw [e0, Lib.decDigits, dif_pos (by omega)]
      refine ⟨?_, by omega⟩
      rw [show 48 + (0 * 10 + (c.toNat - 48)) = c.toNat by omega, hco]; rfl
    | cons a p =>
      have hl' : (a :: p).length = n := by simpa using hl
      obtain ⟨h1, h2⟩ := ih (a :: p) hl' hd.1 (fun c' r' e => hh c' (r' ++ [c]) (by rw [e]; rfl)) (by simp)
      refine ⟨?_, by omega⟩
      rw [Lib.decDigits, dif_neg (by omega), show (valD (a :: p) * 10 + (c.toNat - 48)) / 10 = valD (a :: p) by omega, h1, show 48 + (valD (a :: p) * 10 + (c.toNat - 48)) % 10 = c.toNat by omega, hco]
theorem dec_val {l : List UInt8} (h : canon l = true) : Lib.decDigits (valD l) = l := by
  unfold canon at h
  rw [Bool.and_eq_true] at h
  cases l with
  | nil => simp at h
  | cons c r =>
    by_cases hc : c = 48
    · subst hc
      have : r = [] := by simpa using h.2
      subst this
      rw [Lib.decDigits]; rfl
    · exact (dec_val_aux _ _ rfl h.1 (fun c' r' e => by simp only [List.cons.injEq] at e; rw [← e.1]; exact hc) (by simp)).1
/-- the number, if it is written as it must be and is in bounds -/
def numT (s : List UInt8) : Option Int := match s with
  | 45 :: r => if canon r = true ∧ r ≠ [48] ∧ valD r ≤ 9999 then some (-(valD r : Int)) else none
  | s => if canon s = true ∧ valD s ≤ 9999 then some (valD s : Int) else none
theorem numT_itoa {n : Int} (h1 : -9999 ≤ n) (h2 : n ≤ 9999) : numT (Lib.itoa n) = some n := by
  unfold Lib.itoa
  split
  · rename_i h
    have hne : Lib.decDigits n.natAbs ≠ [48] := fun e => by
      rcases head_dec n.natAbs 48 [] e with ⟨h0, _⟩ | ⟨_, h0⟩
      · omega
      · exact h0 rfl
    simp only [numT, canon_dec, val_dec, hne, ne_eq, not_false_eq_true, true_and]
    rw [if_pos (by omega)]
    congr 1; omega
  · rename_i h
    have hd := digs_dec n.toNat
    have hc := canon_dec n.toNat
    have hv := val_dec n.toNat
    cases hl : Lib.decDigits n.toNat with
    | nil => exact absurd hl (dec_ne _)
    | cons c r =>
      rw [hl] at hd hc hv
      have hc45 : c ≠ 45 := by
        rintro rfl
        simp only [List.all_cons, Bool.and_eq_true] at hd
        have := isDig_iff.1 hd.1
        have h45 : (45 : UInt8).toNat = 45 := rfl
        omega
      unfold numT
      split
      · rename_i e; simp only [List.cons.injEq] at e; exact absurd e.1 hc45
      · rw [hc, hv, if_pos ⟨rfl, by omega⟩]; congr 1; omega
theorem numT_some {s : List UInt8} {n : Int} (h : numT s = some n) : Lib.itoa n = s ∧ -9999 ≤ n ∧ n ≤ 9999 := by
  unfold numT at h
  split at h
  · rename_i r
    split at h
    · rename_i hr
      obtain ⟨hc, h0, hv⟩ := hr
      simp only [Option.some.injEq] at h
      subst h
      have hp : 1 ≤ valD r := by
        rcases Nat.eq_zero_or_pos (valD r) with e | e
        · have := dec_val hc
          rw [e, Lib.decDigits_one (by omega)] at this
          exact absurd this.symm h0
        · exact e
      refine ⟨?_, by omega, by omega⟩
      rw [Lib.itoa, if_pos (by omega), show (-(valD r : Int)).natAbs = valD r by omega, dec_val hc]
    · cases h
  · split at h
    · rename_i hr
      simp only [Option.some.injEq] at h
      subst h
      refine ⟨?_, by omega, by omega⟩
      rw [Lib.itoa, if_neg (by omega), Int.toNat_natCast, dec_val hr.1]
    · cases h
/-! what Atoi makes of it -/
theorem parse_digs : ∀ (l : List UInt8) (acc : Nat), l.all isDig = true → l.foldl (fun a c => a * 10 + (c.toNat - 48)) acc < 1844674407370955162 → acc ≤ l.foldl (fun a c => a * 10 + (c.toNat - 48)) acc ∧ Lib.parseUint10 acc l = .ok (l.foldl (fun a c => a * 10 + (c.toNat - 48)) acc)
  | [], acc, _, _ => ⟨Nat.le_refl _, rfl⟩
  | c :: r, acc, hd, hv => by
    simp only [List.all_cons, Bool.and_eq_true] at hd
    have hc := isDig_iff.1 hd.1
    simp only [List.foldl_cons] at hv ⊢
    obtain ⟨h1, h2⟩ := parse_digs r _ hd.2 hv
    refine ⟨by omega, ?_⟩
    rw [Lib.parseUint10, if_pos hc, if_neg (by omega), if_neg (by omega), h2]
theorem parseMag_canon {l : List UInt8} (h : canon l = true) (hv : valD l ≤ 9999) : Lib.parseMag l = .ok (valD l) := by
  unfold canon at h
  rw [Bool.and_eq_true] at h
  unfold Lib.parseMag
  rw [if_neg (by rintro rfl; simp at h)]
  exact (parse_digs l 0 h.1 (by unfold valD at hv; omega)).2
theorem atoi_numT {s : List UInt8} {n : Int} (h : numT s = some n) : Lib.atoiAll s = .ok n := by
  unfold numT at h
  split at h
  · rename_i r
    split at h
    · rename_i hr
      simp only [Option.some.injEq] at h
      subst h
      unfold Lib.atoiAll
      simp only [show (45 : UInt8).toNat = 45 from rfl, or_true, if_true, parseMag_canon hr.1 hr.2.2]
      rw [if_neg (by simp), if_neg (by omega)]
    · cases h
  · rename_i h45
    split at h
    · rename_i hr
      simp only [Option.some.injEq] at h
      subst h
      cases s with
      | nil => simp [canon] at hr
      | cons c r =>
        have hc := hr.1
        unfold canon at hc
        simp only [List.all_cons, Bool.and_eq_true] at hc
        have := isDig_iff.1 hc.1.1
        have hv := hr.2
        unfold Lib.atoiAll
        simp only [show ¬ c.toNat = 43 by omega, show ¬ c.toNat = 45 by omega, or_self, if_false, parseMag_canon hr.1 hr.2, not_false_eq_true, true_and, false_and]
        rw [if_neg (by omega)]
    · cases h
/-! ### a text cut at each byte of a kind -/
def cutAt (c : UInt8) : List UInt8 → List (List UInt8)
  | [] => [[]]
  | b :: l => if b = c then [] :: cutAt c l else match cutAt c l with
    | [] => [[b]]
    | p :: ps => (b :: p) :: ps
theorem cutAt_ne (c : UInt8) (s : List UInt8) : cutAt c s ≠ [] := by
  cases s with
  | nil => simp [cutAt]
  | cons b l =>
    unfold cutAt
    split
    · simp
    · split <;> simp
theorem index_one_cons (b c : UInt8) (l : List UInt8) : Lib.index (b :: l) [c] = if b = c then 0 else if Lib.index l [c] = -1 then -1 else Lib.index l [c] + 1 := by
  rw [Lib.index]
  by_cases h : b = c
  · subst h; simp
  · have : ¬ c = b := fun e => h e.symm
    simp [h, this]
theorem split_cut (c : UInt8) : ∀ (s : List UInt8) (k : Nat), Lib.count s [c] ≤ k → Lib.splitK [c] 0 k s = cutAt c s
  | [], 0, _ => rfl
  | [], k + 1, _ => by simp [Lib.splitK, Lib.index, cutAt]
  | b :: l, k, hk => by
    by_cases h : b = c
    · subst h
      rw [Lib.count_cons_eq] at hk
      obtain ⟨k, rfl⟩ : ∃ k', k = k' + 1 := ⟨k - 1, by omega⟩
      have := split_cut b l k (by omega)
      rw [Lib.splitK, index_one_cons]
      simp [cutAt, this]
    · rw [Lib.count_cons_ne b c l h] at hk
      have ih := split_cut c l k hk
      rw [cutAt, if_neg h, ← ih]
      cases k with
      | zero => simp [Lib.splitK]
      | succ k =>
        rw [Lib.splitK, index_one_cons, if_neg h, Lib.splitK]
        by_cases hi : Lib.index l [c] = -1
        · simp [hi]
        · have := Lib.index_ge l [c]
          have hn : ¬ Lib.index l [c] + 1 = -1 := by omega
          simp only [hi, if_false, beq_iff_eq, hn, List.length_cons, List.length_nil, Nat.add_zero]
          rw [show (Lib.index l [c] + 1).toNat = (Lib.index l [c]).toNat + 1 by omega, show (Lib.index l [c]).toNat + 1 + (0 + 1) = (Lib.index l [c]).toNat + (0 + 1) + 1 by omega]
          simp
theorem split_one (c : UInt8) (s : List UInt8) : Lib.split s [c] = cutAt c s := split_cut c s _ (Nat.le_refl _)
theorem cutAt_pre (c : UInt8) : ∀ (p : List UInt8) (r : List UInt8), (∀ b ∈ p, b ≠ c) → cutAt c (p ++ r) = match cutAt c r with
    | [] => [p]
    | q :: qs => (p ++ q) :: qs
  | [], r, _ => by
    cases h : cutAt c r with
    | nil => exact absurd h (cutAt_ne c r)
    | cons q qs => simp [h]
  | b :: p, r, hp => by
    have hb := hp b (by simp)
    rw [List.cons_append, cutAt, if_neg hb, cutAt_pre c p r fun x hx => hp x (by simp [hx])]
    cases h : cutAt c r with
    | nil => exact absurd h (cutAt_ne c r)
    | cons q qs => rfl
theorem cutAt_none {c : UInt8} {p : List UInt8} (hp : ∀ b ∈ p, b ≠ c) : cutAt c p = [p] := by
  have := cutAt_pre c p [] hp
  simpa [cutAt] using this
theorem cutAt_sep {c : UInt8} {p r : List UInt8} (hp : ∀ b ∈ p, b ≠ c) : cutAt c (p ++ c :: r) = p :: cutAt c r := by
  rw [cutAt_pre c p _ hp, cutAt, if_pos rfl]
  simp
theorem cutAt_count (c : UInt8) : ∀ s : List UInt8, (cutAt c s).length = s.count c + 1
  | [] => rfl
  | b :: l => by
    have ih := cutAt_count c l
    unfold cutAt
    by_cases h : b = c
    · subst h; simp [ih]
    · rw [if_neg h, List.count_cons_of_ne h]
      cases hc : cutAt c l with
      | nil => exact absurd hc (cutAt_ne c l)
      | cons q qs => rw [hc] at ih; simpa using ih
theorem cutAt_length (c : UInt8) (s : List UInt8) : (cutAt c s).length ≤ s.length + 1 := by
  rw [cutAt_count]
  have := List.count_le_length (a := c) (l := s)
  omega
theorem cutAt_mem (c : UInt8) : ∀ (s : List UInt8), ∀ w ∈ cutAt c s, w.length ≤ s.length ∧ ∀ b ∈ w, b ≠ c
  | [], w, hw => by simp [cutAt] at hw; subst hw; simp
  | b :: l, w, hw => by
    have ih := cutAt_mem c l
    unfold cutAt at hw
    by_cases h : b = c
    · rw [if_pos h] at hw
      rcases List.mem_cons.1 hw with rfl | hw
      · simp
      · have := ih w hw; exact ⟨by simp; omega, this.2⟩
    · rw [if_neg h] at hw
      cases hc : cutAt c l with
      | nil => exact absurd hc (cutAt_ne c l)
      | cons q qs =>
        rw [hc] at hw ih
        rcases List.mem_cons.1 hw with rfl | hw
        · have := ih q (by simp)
          refine ⟨by simp; omega, fun x hx => ?_⟩
          rcases List.mem_cons.1 hx with rfl | hx
          · exact h
          · exact this.2 x hx
        · have := ih w (by simp [hw]); exact ⟨by simp; omega, this.2⟩
/-! ### cut off what is of some kind -/
theorem trim_empty {s cs : List UInt8} : Lib.trimS s cs = [] ↔ ∀ b ∈ s, cs.contains b = true := by
  unfold Lib.trimS Lib.trimLeftS Lib.trimRightS
  have key : ∀ l : List UInt8, l.dropWhile (cs.contains ·) = [] ↔ ∀ b ∈ l, cs.contains b = true := by
    intro l
    induction l with
    | nil => simp
    | cons b l ih =>
      rw [List.dropWhile_cons]
      by_cases h : cs.contains b = true
      · rw [if_pos h, ih, List.forall_mem_cons]; exact ⟨fun a => ⟨h, a⟩, fun a => a.2⟩
      · rw [if_neg h, List.forall_mem_cons]; exact ⟨fun a => (by cases a), fun a => absurd a.1 h⟩
  rw [key]
  constructor
  · intro h b hb
    by_cases hc : cs.contains b = true
    · exact hc
    · have h2 : (s.reverse.dropWhile (cs.contains ·)) = [] := by
        cases hd : s.reverse.dropWhile (cs.contains ·) with
        | nil => rfl
        | cons x xs =>
          have hx : ¬ cs.contains x = true := by
            have := List.head_dropWhile_not (cs.contains ·) (l := s.reverse) (by rw [hd]; simp)
            simp only [hd, List.head_cons] at this
            simpa using this
          exact absurd (h x (by rw [hd]; simp)) hx
      exact (key s.reverse).1 h2 b (by simpa using hb)
  · intro h b hb
    have := List.mem_reverse.1 hb
    exact h b (by simpa using List.dropWhile_sublist _ |>.subset this)
/-! ### loops over a list -/
theorem drop_cons {α : Type} {xs : List α} {i : Nat} (d : α) (h : i < xs.length) : xs.drop i = xs.getD i d :: xs.drop (i + 1) := by
  rw [List.drop_eq_getElem_cons h, getD_eq h]
/-- a loop that goes up along a list, and what it computes along what is left -/
theorem up_list {α S R : Type} (xs : List α) (d : α) (I : Nat → S → Prop) (L : Nat → S → Option R) (g : Nat → List α → S → Option R)
    (hn : ∀ s, I xs.length s → L xs.length s = g xs.length [] s)
    (hc : ∀ i s, i < xs.length → I i s → (∀ s', I (i + 1) s' → L (i + 1) s' = g (i + 1) (xs.drop (i + 1)) s') → L i s = g i (xs.getD i d :: xs.drop (i + 1)) s) :
    ∀ s, I 0 s → L 0 s = g 0 xs s := by
  have key : ∀ k i s, i + k = xs.length → I i s → L i s = g i (xs.drop i) s := by
    intro k
    induction k with
    | zero =>
      intro i s hi hI
      have : i = xs.length := by omega
      subst this
      rw [List.drop_length]
      exact hn s hI
    | succ k ih =>
      intro i s hi hI
      rw [drop_cons d (by omega)]
      exact hc i s (by omega) hI fun s' hI' => ih (i + 1) s' (by omega) hI'
  intro s hI
  have := key xs.length 0 s (by omega) hI
  rwa [List.drop_zero] at this
theorem inb_eq (i : Int) (n : Nat) : inb i n = (decide (0 ≤ i) && decide (i < n)) := rfl
theorem cast_lt (i n : Nat) : decide ((i : Int) < (n : Int)) = decide (i < n) := by simp
theorem up_list0 {α R : Type} (xs : List α) (d : α) (L : Nat → Option R) (g : Nat → List α → Option R) (hn : L xs.length = g xs.length [])
    (hc : ∀ i, i < xs.length → L (i + 1) = g (i + 1) (xs.drop (i + 1)) → L i = g i (xs.getD i d :: xs.drop (i + 1))) : L 0 = g 0 xs :=
  up_list (S := Unit) xs d (fun _ _ => True) (fun i _ => L i) (fun i r _ => g i r) (fun _ _ => hn) (fun i _ hi _ ih => hc i hi (ih () trivial)) () trivial
theorem decide_cons {α : Type} [DecidableEq α] (a b : α) (x y : List α) : decide (a :: x = b :: y) = (decide (a = b) && decide (x = y)) := by
  rw [Bool.eq_iff_iff]; simp
/-! ### names -/
def goAt (s : List UInt8) : Nat → List (List UInt8) → Int
  | _, [] => -1
  | i, x :: r => if x = s then (i : Int) else goAt s (i + 1) r
namespace spec_l30At
theorem law (xs : List (List UInt8)) (s : List UInt8) (hx : xs.length ≤ 1048576) : impl (xs, s, ()) = some (goAt s 0 xs, ()) := by
  rw [impl_eq]; unfold F0
  refine up_list0 xs [] (fun i => L2 (xs, s, (i : Int), ())) (fun i r => some (goAt s i r, ())) ?_ ?_
  · rw [L2_eq]; unfold F2; grind [goAt]
  · intro i hi ih
    rw [L2_eq]; unfold F2; simp (disch := omega) only [inb_nat, cast_lt, Int.toNat_natCast, wI_succ]; grind [goAt]
end spec_l30At
namespace slices_Index_of
theorem law (xs : List (List UInt8)) (s : List UInt8) (hx : xs.length ≤ 1048576) : impl (xs, s, ()) = some (goAt s 0 xs, ()) := by
  rw [impl_eq]; unfold F0
  refine up_list0 xs [] (fun i => L2 (xs, s, (xs.length : Int), (i : Int), ())) (fun i r => some (goAt s i r, ())) ?_ ?_
  · rw [L2_eq]; unfold F2; grind [goAt]
  · intro i hi ih
    rw [L2_eq]; unfold F2; simp (disch := omega) only [inb_nat, cast_lt, Int.toNat_natCast, wI_succ]; grind [goAt]
end slices_Index_of
def isLow (b : UInt8) : Bool := decide (97 ≤ b.toNat) && decide (b.toNat ≤ 122)
def nameOk (s : List UInt8) : Bool := s.all isLow && decide (1 ≤ s.length) && decide (s.length ≤ 8)
namespace spec_l30Name
theorem law (s : List UInt8) (hx : s.length ≤ 1048576) : impl (s, ()) = some (nameOk s, ()) := by
  rw [impl_eq]; unfold F0
  refine (up_list0 s 0 (fun i => L2 (s, (i : Int), ())) (fun i r => some (r.all isLow && (decide (1 ≤ s.length) && decide (s.length ≤ 8)), ())) ?_ ?_).trans (by simp [nameOk, Bool.and_assoc])
  · rw [L2_eq]; unfold F2; rw [spec_l1In.law]; grind [in3]
  · intro i hi ih
    rw [L2_eq]; unfold F2; simp (disch := omega) only [inb_nat, cast_lt, Int.toNat_natCast, wI_succ]; grind [isLow]
end spec_l30Name
theorem contains_az (b : UInt8) : ([97, 98, 99, 100, 101, 102, 103, 104, 105, 106, 107, 108, 109, 110, 111, 112, 113, 114, 115, 116, 117, 118, 119, 120, 121, 122] : List UInt8).contains b = isLow b := by
  have : ∀ n : Fin 256, ([97, 98, 99, 100, 101, 102, 103, 104, 105, 106, 107, 108, 109, 110, 111, 112, 113, 114, 115, 116, 117, 118, 119, 120, 121, 122] : List UInt8).contains (UInt8.ofNat n.val) = isLow (UInt8.ofNat n.val) := by decide +kernel
  have h := this ⟨b.toNat, b.toNat_lt⟩
  simpa using h
theorem trim_az (s : List UInt8) : (Lib.trimS s [97, 98, 99, 100, 101, 102, 103, 104, 105, 106, 107, 108, 109, 110, 111, 112, 113, 114, 115, 116, 117, 118, 119, 120, 121, 122] == []) = s.all isLow := by
  rw [Bool.eq_iff_iff, beq_iff_eq, trim_empty, List.all_eq_true]
  simp only [contains_az]
namespace impl_nameOk
theorem law (s : List UInt8) (hx : s.length ≤ 1048576) : impl (s, ()) = some (nameOk s, ()) := by
  rw [impl_eq]; unfold F0
  rw [impl_in.law, Option.bind_some]
  have : lib_Trim.impl (s, [97, 98, 99, 100, 101, 102, 103, 104, 105, 106, 107, 108, 109, 110, 111, 112, 113, 114, 115, 116, 117, 118, 119, 120, 121, 122], ()) = some (Lib.trimS s [97, 98, 99, 100, 101, 102, 103, 104, 105, 106, 107, 108, 109, 110, 111, 112, 113, 114, 115, 116, 117, 118, 119, 120, 121, 122], ()) := by
    show trimI _ = _
    unfold trimI
    rw [show (decide (s.length ≤ 9223372036854775807)) = true from decide_eq_true (by omega)]
    rfl
  rw [this, Option.bind_some, trim_az]
  unfold nameOk
  grind [in3]
end impl_nameOk
namespace slices_Contains_of
theorem law (xs : List (List UInt8)) (s : List UInt8) (hx : xs.length ≤ 1048576) : impl (xs, s, ()) = some (decide (goAt s 0 xs ≥ 0), ()) := by
  rw [impl_eq]; unfold F0
  rw [slices_Index_of.law _ _ hx]; rfl
end slices_Contains_of
/-- names, each once, behind those that were there -/
def namesGo (old : List (List UInt8)) : List (List UInt8) → Bool
  | [] => true
  | x :: r => nameOk x && (!decide (goAt x 0 old ≥ 0) && namesGo (old ++ [x]) r)
def namesOk (xs : List (List UInt8)) : Bool := decide (xs.length ≤ 5) && namesGo [] xs
theorem namesGo_mem : ∀ (xs old : List (List UInt8)), namesGo old xs = true → ∀ x ∈ xs, nameOk x = true
  | [], _, _, x, hx => by cases hx
  | y :: r, old, h, x, hx => by
    simp only [namesGo, Bool.and_eq_true] at h
    rcases List.mem_cons.1 hx with rfl | hx
    · exact h.1
    · exact namesGo_mem r _ h.2.2 x hx
theorem namesOk_mem {xs : List (List UInt8)} (h : namesOk xs = true) : xs.length ≤ 5 ∧ ∀ x ∈ xs, nameOk x = true := by
  simp only [namesOk, Bool.and_eq_true, decide_eq_true_eq] at h
  exact ⟨h.1, namesGo_mem xs [] h.2⟩
theorem nameOk_len {x : List UInt8} (h : nameOk x = true) : 1 ≤ x.length ∧ x.length ≤ 8 := by
  simp only [nameOk, Bool.and_eq_true, decide_eq_true_eq] at h
  exact ⟨h.1.2, h.2⟩
theorem take_snoc {α : Type} {xs : List α} {i : Nat} (d : α) (h : i < xs.length) : xs.take (i + 1) = xs.take i ++ [xs.getD i d] := by
  rw [List.take_add_one, List.getElem?_eq_getElem h, getD_eq h]; rfl
def szS (xs : List (List UInt8)) : Nat := (xs.map List.length).sum + xs.length
theorem szS_mem {xs : List (List UInt8)} {x : List UInt8} (h : x ∈ xs) : x.length + 1 ≤ szS xs := by
  unfold szS
  induction xs with
  | nil => cases h
  | cons y r ih =>
    simp only [List.map_cons, List.sum_cons, List.length_cons]
    rcases List.mem_cons.1 h with rfl | h
    · omega
    · have := ih h; omega
namespace spec_NamesValid
theorem law (xs : List (List UInt8)) (hx : szS xs ≤ 1048576) : impl (xs, ()) = some (namesOk xs, ()) := by
  have hl : xs.length ≤ 1048576 := by unfold szS at hx; omega
  rw [impl_eq]; unfold F0
  refine (up_list0 xs [] (fun i => L2 (xs, (i : Int), ())) (fun i r => some (namesGo (xs.take i) r && decide (xs.length ≤ 5), ())) ?_ ?_).trans (by simp [namesOk, Bool.and_comm])
  · rw [L2_eq]; unfold F2; rw [show decide ((xs.length : Int) ≤ 5) = decide (xs.length ≤ 5) from decide_eq_decide.2 (by omega)]; grind [namesGo]
  · intro i hi ih
    have hm := szS_mem (getD_mem (d := []) hi)
    rw [L2_eq]; unfold F2; rw [L4_eq]; unfold F4; simp (disch := omega) only [inb_nat, cast_lt, Int.toNat_natCast, wI_succ]
    rw [spec_l30Name.law _ (by omega), List.drop_zero, spec_l30At.law _ _ (by simp; omega)]
    rw [take_snoc [] hi] at ih
    grind [namesGo]
end spec_NamesValid
namespace impl_NamesValid
theorem law (xs : List (List UInt8)) (hx : szS xs ≤ 1048576) : impl (xs, ()) = some (namesOk xs, ()) := by
  have hl : xs.length ≤ 1048576 := by unfold szS at hx; omega
  rw [impl_eq]; unfold F0
  have h := up_list0 xs [] (fun i => L4 (xs, xs, (xs.length : Int), (i : Int), ())) (fun i r => some (namesGo (xs.take i) r, ())) (by
    rw [L4_eq]; unfold F4; grind [namesGo]) (by
    intro i hi ih
    have hm := szS_mem (getD_mem (d := []) hi)
    rw [L4_eq]; unfold F4; simp (disch := omega) only [inb_nat, cast_lt, Int.toNat_natCast, wI_succ]
    rw [impl_nameOk.law _ (by omega), List.drop_zero, slices_Contains_of.law _ _ (by simp; omega)]
    rw [take_snoc [] hi] at ih
    grind [namesGo])
  rw [List.take_zero] at h
  unfold namesOk
  grind
end impl_NamesValid
/-! ### lists of strings: size, copy, eq -/
namespace laws_szStringS
theorem law (xs : List (List UInt8)) (l : Nat) (hx : xs.length ≤ maxLen) (hm : ∀ x ∈ xs, x.length ≤ maxLen) (hl : l ≤ 1048576) : impl (xs, (l : Int), ()) = some (if (l : Int) - szS xs < 0 then -1 else (l : Int) - szS xs, ()) := by
  have hM : maxLen = 9223372036854775807 := by unfold maxLen; rfl
  rw [impl_eq]; unfold F0
  rw [wI_small (by omega) (by omega)]
  have key := up_list (S := Int) xs [] (fun _ l => 0 ≤ l ∧ l ≤ 1048576) (fun i l => L5 (xs, l, (i : Int), ())) (fun i r l => some (if l - ((r.map List.length).sum : Nat) < 0 then -1 else l - ((r.map List.length).sum : Nat), ())) (by
    intro s hs
    rw [L5_eq]; unfold F5; simp (disch := omega) only [inb_nat, cast_lt, Int.toNat_natCast, wI_succ]; simp; omega) (by
    intro i s hi hs ih
    have h1 := hm _ (getD_mem (d := []) hi)
    rw [L5_eq]; unfold F5; simp (disch := omega) only [inb_nat, cast_lt, Int.toNat_natCast, wI_succ]
    simp (disch := omega) only [List.map_cons, List.sum_cons, wI_small]
    by_cases h : s - ((xs.getD i []).length : Int) < 0
    · grind
    · have := ih (s - ((xs.getD i []).length : Int)) (by omega)
      grind)
  unfold szS
  by_cases h : (l : Int) - (xs.length : Int) < 0
  · grind
  · have h2 := key ((l : Int) - (xs.length : Int)) (by omega)
    have h3 : L5 (xs, (l : Int) - (xs.length : Int), 0, ()) = _ := h2
    grind
end laws_szStringS
namespace laws_toStringS
theorem law (xs : List (List UInt8)) (hx : xs.length ≤ 1048576) : impl (xs, ()) = some (xs, ()) := by
  rw [impl_eq]; unfold F0
  have : (decide (0 ≤ (xs.length : Int)) && decide ((xs.length : Int) ≤ (xs.length : Int)) && decide ((xs.length : Int) * 16 ≤ 140737488355328)) = true := by
    simp; omega
  rw [this, cond_true]
  have h := up_copy (R := PO) xs [] id (fun i r => L3 (xs, (i : Int), r, ())) (fun r => (r, ())) (fun i r hi hr => by
    show L3 _ = _
    rw [L3_eq]; unfold F3; simp (disch := omega) only [inb_nat, cast_lt, Int.toNat_natCast, wI_succ]; simp [hi, hr]) (fun r hr => by
    show L3 _ = _
    rw [L3_eq]; unfold F3
    simp) (List.replicate xs.length []) (by simp)
  simpa using h
end laws_toStringS
namespace laws_eqStringS
theorem law (xs ys : List (List UInt8)) (hx : xs.length ≤ 1048576) : impl (xs, ys, ()) = some (decide (xs = ys), ()) := by
  rw [impl_eq]; unfold F0
  by_cases hl : xs.length = ys.length
  · rw [show ((xs.length : Int) != (ys.length : Int)) = false by simp [hl], cond_false]
    have h := up_list0 xs [] (fun i => L4 (xs, ys, (i : Int), ())) (fun i r => some (decide (r = ys.drop i), ())) (by
      rw [L4_eq]; unfold F4; simp (disch := omega) only [inb_nat, cast_lt, Int.toNat_natCast, wI_succ]; simp [hl]) (by
      intro i hi ih
      have hj : i < ys.length := by omega
      rw [L4_eq]; unfold F4; simp (disch := omega) only [inb_nat, cast_lt, Int.toNat_natCast, wI_succ]; rw [L6_eq]; unfold F6; simp (disch := omega) only [inb_nat, cast_lt, Int.toNat_natCast, wI_succ]
      rw [drop_cons [] hj, decide_cons]
      grind)
    simpa using h
  · rw [show ((xs.length : Int) != (ys.length : Int)) = true by simp; omega, cond_true]
    have : xs ≠ ys := fun e => hl (by rw [e])
    simp [this]
end laws_eqStringS
/-! ### lists of Term: eq, mark, held, size, copy -/
namespace laws_szTermS
theorem law (xs : List I4) (l : Int) (h0 : 0 ≤ l) (hl : l ≤ 1048576) (hx : xs.length ≤ maxLen) : impl (xs, l, ()) = some (if l - xs.length < 0 then -1 else l - xs.length, ()) := by
  have : wI (l - xs.length) = l - xs.length := wI_small (by simp [maxLen] at hx; omega) (by omega)
  rw [impl_eq]; unfold F0
  rw [this]
  by_cases h : l - (xs.length : Int) < 0 <;> simp [h]
end laws_szTermS
namespace laws_toTerm
theorem law (x : I4) : impl (x, ()) = some (x, ()) := rfl
end laws_toTerm
namespace laws_toTermS
theorem law (xs : List I4) (hx : xs.length ≤ 1048576) : impl (xs, ()) = some (xs, ()) := by
  rw [impl_eq]; unfold F0
  have : (decide (0 ≤ (xs.length : Int)) && decide ((xs.length : Int) ≤ (xs.length : Int)) && decide ((xs.length : Int) * 32 ≤ 140737488355328)) = true := by
    simp; omega
  rw [this, cond_true]
  have h := up_copy (R := PO) xs (0, 0, 0, 0) id (fun i r => L3 (xs, (i : Int), r, ())) (fun r => (r, ())) (fun i r hi hr => by
    show L3 _ = _
    rw [L3_eq]; unfold F3
    rw [lt_len, inb_true hi, laws_toTerm.law, inb_true (by omega), wI_succ (by omega), Option.bind_some, Int.toNat_natCast]
    simp only [hi, decide_true, cond_true, id]) (fun r hr => by
    show L3 _ = _
    rw [L3_eq]; unfold F3
    simp) (List.replicate xs.length (0, 0, 0, 0)) (by simp)
  simpa using h
end laws_toTermS
namespace laws_eqTerm
theorem law (x y : I4) : impl (x, y, ()) = some (decide (x = y), ()) := by
  obtain ⟨a, b, c, d⟩ := x
  obtain ⟨a', b', c', d'⟩ := y
  rw [impl_eq]; unfold F0
  simp only [cond_ret]
  congr 2
  rw [Bool.eq_iff_iff]
  simp only [cond_iff, bne_iff_ne, decide_eq_true_eq, Prod.mk.injEq, ne_eq, Bool.false_eq_true, and_false, and_true, false_or]
  omega
end laws_eqTerm
namespace laws_eqTermS
theorem law (xs ys : List I4) (hx : xs.length ≤ 1048576) : impl (xs, ys, ()) = some (decide (xs = ys), ()) := by
  rw [impl_eq]; unfold F0
  by_cases hl : xs.length = ys.length
  · have : ((xs.length : Int) != (ys.length : Int)) = false := by simp [hl]
    rw [this, cond_false]
    have h := up_all (R := PO) (fun i => L4 (xs, ys, (i : Int), ())) xs.length (fun i => decide (xs.getD i (0, 0, 0, 0) = ys.getD i (0, 0, 0, 0))) (false, ()) (true, ()) (fun i hi => by
      show L4 _ = _
      rw [L4_eq]; unfold F4
      rw [lt_len]
      simp only [hi, decide_true, cond_true]
      rw [L6_eq]; unfold F6
      rw [inb_true hi, inb_true (by omega), laws_eqTerm.law, wI_succ (by omega), Option.bind_some, Int.toNat_natCast]
      simp only [cond_true]
      cases decide (xs.getD i (0, 0, 0, 0) = ys.getD i (0, 0, 0, 0)) <;> rfl) (by
      show L4 _ = _
      rw [L4_eq]; unfold F4; simp) xs.length 0 (by omega)
    rw [eq_all hl] at h
    refine (show _ = _ from h).trans ?_
    cases decide (xs = ys) <;> rfl
  · have : ((xs.length : Int) != (ys.length : Int)) = true := by
      simp; omega
    rw [this, cond_true, decide_eq_false (fun e => hl (by rw [e]))]
end laws_eqTermS
/-! ### decimals -/
theorem itoa_len (n : Int) (h1 : -9223372036854775808 ≤ n) (h2 : n ≤ 9223372036854775807) : (Lib.itoa n).length ≤ 20 := by
  have h3 : ∀ (k u : Nat), u < 10 ^ (k + 1) → Lib.nDigits u ≤ k + 1 := by
    intro k
    induction k with
    | zero => intro u hu; rw [Lib.nDigits_small (by omega)]; omega
    | succ k ih =>
      intro u hu
      by_cases hs : u < 10
      · rw [Lib.nDigits_small hs]; omega
      · rw [Lib.nDigits_big hs]
        have := ih (u / 10) (by rw [Nat.pow_succ] at hu; omega)
        omega
  have key : ∀ u : Nat, u < 10 ^ 19 → (Lib.decDigits u).length ≤ 19 := fun u hu => by
    rw [Lib.decDigits_length]
    exact h3 18 u hu
  unfold Lib.itoa
  split
  · have := key n.natAbs (by omega)
    simp; omega
  · have := key n.toNat (by omega)
    omega
namespace spec_l40Dec
theorem dig (d : Nat) (h : d < 10) : strOf ([IntKind.u8.wrap (wI (48 + (d : Int)))] : List Int) = [UInt8.ofNat (48 + d)] := by
  have : ∀ d : Fin 10, strOf ([IntKind.u8.wrap (wI (48 + (d.val : Int)))] : List Int) = [UInt8.ofNat (48 + d.val)] := by decide +kernel
  exact this ⟨d, h⟩
theorem loop (G : PI → Option PO) : ∀ (k n : Nat) (acc : List UInt8), n < 10 ^ (k + 1) → n ≤ 9223372036854775807 → acc.length + k ≤ 1000 → L6 G ((n : Int), acc, ()) = some (Lib.decDigits n ++ acc, ())
  | k, n, acc, hn, hm, ha => by
    rw [L6_eq]; unfold F6
    by_cases h9 : n < 10
    · rw [decide_eq_false (show ¬ ((n : Int) > 9) by omega), cond_false, dig n h9, Lib.decDigits_one h9]
      rw [decide_eq_true (by simp; omega)]
      rfl
    · rw [decide_eq_true (show (n : Int) > 9 by omega), cond_true]
      have e1 : Int.tmod (n : Int) 10 = ((n % 10 : Nat) : Int) := rfl
      have e2 : wI (Int.tdiv (n : Int) 10) = ((n / 10 : Nat) : Int) := by
        rw [show Int.tdiv (n : Int) 10 = ((n / 10 : Nat) : Int) from rfl]
        exact wI_small (by omega) (by omega)
      rw [e1, e2, dig (n % 10) (by omega)]
      rw [decide_eq_true (by simp; omega), cond_true]
      match k, hn, ha with
      | 0, hn, _ => simp at hn; omega
      | k + 1, hn, ha =>
        rw [loop G k (n / 10) _ (by rw [Nat.pow_succ] at hn; omega) (by omega) (by simp; omega)]
        conv => rhs; rw [Lib.decDigits, dif_neg h9]
        simp
theorem pos (n : Int) (h0 : 0 ≤ n) (h2 : n ≤ 9223372036854775807) : impl (n, ()) = some (Lib.itoa n, ()) := by
  rw [impl_eq]; unfold F0
  rw [decide_eq_false (show ¬ n < -9223372036854775807 by omega), cond_false, decide_eq_false (show ¬ n < 0 by omega), cond_false]
  have := loop impl 19 n.toNat [] (by omega) (by omega) (by simp)
  rw [Int.toNat_of_nonneg h0] at this
  rw [this, Lib.itoa, if_neg (by omega), List.append_nil]
theorem law (n : Int) (h1 : -9223372036854775808 ≤ n) (h2 : n ≤ 9223372036854775807) : impl (n, ()) = some (Lib.itoa n, ()) := by
  by_cases h : n < 0
  · rw [impl_eq]; unfold F0
    by_cases hm : n < -9223372036854775807
    · rw [decide_eq_true hm, cond_true]
      have : n = -9223372036854775808 := by omega
      subst this
      have hd : Lib.decDigits 9223372036854775808 = [57, 50, 50, 51, 51, 55, 50, 48, 51, 54, 56, 53, 52, 55, 55, 53, 56, 48, 56] := by
        rw [Lib.decDigits_eq]; decide +kernel
      rw [Lib.itoa, if_pos (by omega), show (-9223372036854775808 : Int).natAbs = 9223372036854775808 from rfl, hd]
    · rw [decide_eq_false hm, cond_false, decide_eq_true h, cond_true]
      have e : wI (0 - n) = -n := by rw [wI_small (by omega) (by omega)]; omega
      rw [e, pos (-n) (by omega) (by omega), Option.bind_some]
      have hi : Lib.itoa (-n) = Lib.decDigits n.natAbs := by
        rw [Lib.itoa, if_neg (by omega)]
        congr 1
        omega
      have hl := itoa_len (-n) (by omega) (by omega)
      rw [decide_eq_true (by simp; omega), cond_true]
      rw [hi, Lib.itoa, if_pos h]
      rfl
  · exact pos n (by omega) h2
end spec_l40Dec
theorem itoa_law (n : Int) (h1 : -9223372036854775808 ≤ n) (h2 : n ≤ 9223372036854775807) : lib_Itoa.impl (n, ()) = some (Lib.itoa n, ()) := by
  show itoaI _ = _
  unfold itoaI
  rw [show (decide (-9223372036854775808 ≤ n) && decide (n ≤ 9223372036854775807)) = true by simp [h1, h2]]
  rfl
/-! ### Expressions: their kinds -/
def wantK (op : Int) : Int := if 7 ≤ op then 2 else 1
def ownK (op : Int) : Int := if 5 ≤ op then 2 else 1
def third (t : I4) (acc : List Int) : Bool :=
  in3 t.1 2 9 && (t.2.1 == 0 && (in3 t.2.2.1 0 (acc.length - 1) && (in3 t.2.2.2 0 (acc.length - 1) && (acc.getD t.2.2.1.toNat 0 == wantK t.1 && (acc.getD t.2.2.2.toNat 0 == wantK t.1 && (!(t.1 == 7) || t.2.2.2 == t.2.2.1))))))
/-- the kind of a term behind terms of these kinds -/
def termKind (t : I4) (acc : List Int) (vars : Int) : Int :=
  bif t.1 == 0 && (in3 t.2.1 (-9999) 9999 && (t.2.2.1 == 0 && t.2.2.2 == 0)) then 1
  else bif t.1 == 1 && (in3 t.2.1 0 (vars - 1) && (t.2.2.1 == 0 && t.2.2.2 == 0)) then 1
  else bif third t acc then ownK t.1 else 0
def kindsGo (vars : Int) : List I4 → List Int → List Int
  | [], acc => acc
  | t :: ts, acc => bif termKind t acc vars == 0 then [] else kindsGo vars ts (acc ++ [termKind t acc vars])
def kinds (xs : List I4) (vars : Int) : List Int := bif in3 vars 0 5 && in3 xs.length 1 40 then kindsGo vars xs [] else []
theorem ownK_ne (op : Int) : (ownK op == 0) = false := by unfold ownK; split <;> rfl

namespace spec_l1One
theorem law (x : Int) : impl (x, ()) = some (x == 7, ()) := rfl
end spec_l1One
namespace spec_l1Kind
theorem law (t : I4) (acc : List Int) (vars : Int) (hl : acc.length ≤ 1048576) (hv : 0 ≤ vars ∧ vars ≤ 1048576) : impl (t, acc, vars, ()) = some (termKind t acc vars, ()) := by
  obtain ⟨op, n, a, b⟩ := t
  have h5 : L5 (acc, op, n, a, b, ()) = some (bif third (op, n, a, b) acc then ownK op else 0, ()) := by
    rw [L5_eq]; unfold F5
    simp only [spec_l1In.law, Option.bind_some, wI_small (n := (acc.length : Int) - 1) (by omega) (by omega)]
    unfold third
    simp only
    cases e1 : in3 op 2 9 with
    | false => rfl
    | true => cases e2 : n == 0 with
      | false =>
        have e2' : (n != 0) = true := by unfold bne; rw [e2]; rfl
        rw [e2']; rfl
      | true =>
        have e2' : n = 0 := by simpa using e2
        subst e2'
        cases e3 : in3 a 0 ((acc.length : Int) - 1) with
        | false => rfl
        | true => cases e4 : in3 b 0 ((acc.length : Int) - 1) with
          | false => rfl
          | true =>
            rw [in3_iff] at e1 e3 e4
            have ha : inb a acc.length = true := inb_int (by omega) (by omega)
            have hb : inb b acc.length = true := inb_int (by omega) (by omega)
            simp only [Bool.not_true, cond_false, bne_self_eq_false]
            have h10 : L10 (acc, wantK op, op, 0, a, b, ()) = some (bif (acc.getD a.toNat 0 == wantK op && (acc.getD b.toNat 0 == wantK op && (!(op == 7) || b == a))) then ownK op else 0, ()) := by
              rw [L10_eq]; unfold F10
              simp only [ha, hb, cond_true, spec_l1One.law, Option.bind_some]
              have ho : (bif decide (op ≥ 5) then some ((2 : Int), ()) else some (1, ())) = some (ownK op, ()) := by
                unfold ownK
                by_cases h : 5 ≤ op
                · rw [decide_eq_true (show op ≥ 5 from h), if_pos h]; rfl
                · rw [decide_eq_false (show ¬ op ≥ 5 from h), if_neg h]; rfl
              rw [ho]
              cases f1 : acc.getD a.toNat 0 == wantK op with
              | false =>
                have f1' : (acc.getD a.toNat 0 != wantK op) = true := by unfold bne; rw [f1]; rfl
                rw [f1']; rfl
              | true =>
                have f1' : (acc.getD a.toNat 0 != wantK op) = false := by unfold bne; rw [f1]; rfl
                rw [f1', cond_false]
                cases f2 : acc.getD b.toNat 0 == wantK op with
                | false =>
                  have f2' : (acc.getD b.toNat 0 != wantK op) = true := by unfold bne; rw [f2]; rfl
                  rw [f2']; rfl
                | true =>
                  have f2' : (acc.getD b.toNat 0 != wantK op) = false := by unfold bne; rw [f2]; rfl
                  rw [f2', cond_false]
                  cases op == 7 with
                  | false => rfl
                  | true => cases f3 : b == a with
                    | false =>
                      have f3' : (b != a) = true := by unfold bne; rw [f3]; rfl
                      rw [f3']; rfl
                    | true =>
                      have f3' : (b != a) = false := by unfold bne; rw [f3]; rfl
                      rw [f3']; rfl
            rw [L7_eq]; unfold F7
            by_cases h7 : 7 ≤ op
            · have : wantK op = 2 := by unfold wantK; rw [if_pos h7]
              rw [this] at h10
              rw [decide_eq_true (show op ≥ 7 from h7), cond_true, h10, this]
              rfl
            · have : wantK op = 1 := by unfold wantK; rw [if_neg h7]
              rw [this] at h10
              rw [decide_eq_false (show ¬ op ≥ 7 from h7), cond_false, h10, this]
              rfl
  have h3 : L3 (acc, vars, op, n, a, b, ()) = some (bif op == 1 && (in3 n 0 (vars - 1) && (a == 0 && b == 0)) then 1 else bif third (op, n, a, b) acc then ownK op else 0, ()) := by
    rw [L3_eq]; unfold F3
    simp only [spec_l1In.law, Option.bind_some, wI_small (n := vars - 1) (by omega) (by omega), h5]
    cases op == 1 <;> cases in3 n 0 (vars - 1) <;> cases a == 0 <;> cases b == 0 <;> rfl
  rw [impl_eq]; unfold F0 termKind
  simp only [spec_l1In.law, Option.bind_some, h3]
  cases op == 0 <;> cases in3 n (-9999) 9999 <;> cases a == 0 <;> cases b == 0 <;> rfl
end spec_l1Kind
namespace spec_KindsOf
theorem loop (xs : List I4) (vars : Int) (hv : 0 ≤ vars ∧ vars ≤ 1048576) (hx : xs.length ≤ 1048576) : ∀ d i (acc : List Int), i + d = xs.length → acc.length = i → L5 (xs, vars, (i : Int), acc, ()) = some (kindsGo vars (xs.drop i) acc, ())
  | 0, i, acc, hi, ha => by
    have : i = xs.length := by omega
    subst this
    rw [L5_eq]; unfold F5
    simp [kindsGo]
  | d + 1, i, acc, hi, ha => by
    have hlt : i < xs.length := by omega
    rw [L5_eq]; unfold F5
    rw [lt_len, inb_true hlt, Int.toNat_natCast, spec_l1Kind.law _ _ _ (by omega) hv, Option.bind_some, wI_succ (by omega), List.drop_eq_getElem_cons hlt, getD_eq hlt]
    simp only [hlt, decide_true, cond_true, kindsGo]
    cases h : termKind xs[i] acc vars == 0 with
    | true => rfl
    | false =>
      simp only [cond_false]
      rw [decide_eq_true (by simp; omega), cond_true, loop xs vars hv hx d (i + 1) _ (by omega) (by simp [ha])]
theorem law (xs : List I4) (vars : Int) : impl (xs, vars, ()) = some (kinds xs vars, ()) := by
  rw [impl_eq]; unfold F0
  simp only [spec_l1In.law, Option.bind_some]
  unfold kinds
  cases h1 : in3 vars 0 5 with
  | false => rfl
  | true => cases h2 : in3 xs.length 1 40 with
    | false => rfl
    | true =>
      rw [in3_iff] at h1 h2
      simp only [Bool.not_true, cond_false, Bool.and_self, cond_true]
      rw [L3_eq]; unfold F3
      exact loop xs vars (by omega) (by omega) xs.length 0 [] (by omega) rfl
end spec_KindsOf
def termsOK (xs : List I4) (vars : Int) : Bool := !(kinds xs vars).isEmpty
namespace spec_TermsValid
theorem law (xs : List I4) (vars : Int) : impl (xs, vars, ()) = some (termsOK xs vars, ()) := by
  rw [impl_eq]; unfold F0 termsOK
  rw [spec_KindsOf.law, Option.bind_some]
  cases kinds xs vars <;> simp
end spec_TermsValid
namespace impl_parts
theorem law (op : Int) : impl (op, ()) = some (if 2 ≤ op ∧ op ≤ 9 then (if op = 7 then 1 else 2, wantK op, ownK op, ()) else (0, 0, 1, ())) := by
  rw [impl_eq]
  by_cases h : 2 ≤ op ∧ op ≤ 9
  · have : op = 2 ∨ op = 3 ∨ op = 4 ∨ op = 5 ∨ op = 6 ∨ op = 7 ∨ op = 8 ∨ op = 9 := by omega
    rcases this with rfl | rfl | rfl | rfl | rfl | rfl | rfl | rfl <;> rfl
  · rw [if_neg h]
    unfold F0
    have e2 : (op == 2) = false := by simp; omega
    have e3 : (op == 3) = false := by simp; omega
    have e4 : (op == 4) = false := by simp; omega
    have e5 : (op == 5) = false := by simp; omega
    have e6 : (op == 6) = false := by simp; omega
    have e7 : (op == 7) = false := by simp; omega
    have e8 : (op == 8) = false := by simp; omega
    have e9 : (op == 9) = false := by simp; omega
    rw [e2, e3, e4, e5, e6, e7, e8, e9]; rfl
end impl_parts
namespace impl_kindsOf
theorem step {xs : List I4} {vars : Int} {i : Nat} {acc : List Int} (hv : 0 ≤ vars ∧ vars ≤ 1048576) (hx : xs.length ≤ 1048576) (hi : i < xs.length) (ha : acc.length = i) :
    L5 (vars, xs, (xs.length : Int), (i : Int), acc, ()) = bif termKind (xs.getD i (0, 0, 0, 0)) acc vars == 0 then some ([], ()) else L5 (vars, xs, (xs.length : Int), ((i + 1 : Nat) : Int), acc ++ [termKind (xs.getD i (0, 0, 0, 0)) acc vars], ()) := by
  rw [L5_eq]; unfold F5
  rw [lt_len, inb_true hi, Int.toNat_natCast, wI_succ (by omega), wI_small (n := (i : Int) - 1) (by omega) (by omega), wI_small (n := vars - 1) (by omega) (by omega)]
  simp only [hi, decide_true, cond_true, impl_in.law, impl_parts.law, Option.bind_some]
  have hroom : ∀ k : Int, decide ((acc.length + ([k] : List Int).length) * 8 ≤ 140737488355328) = true := fun k => decide_eq_true (by simp; omega)
  simp only [hroom, cond_true]
  generalize xs.getD i (0, 0, 0, 0) = t
  obtain ⟨op, n, a, b⟩ := t
  generalize hz : (fun k : Int => L5 (vars, xs, (xs.length : Int), ((i + 1 : Nat) : Int), acc ++ [k], ())) = z
  have hz' : ∀ k, L5 (vars, xs, (xs.length : Int), ((i + 1 : Nat) : Int), acc ++ [k], ()) = z k := fun k => by rw [← hz]
  simp only [hz']
  unfold termKind third
  simp only
  rw [ha]
  by_cases h0 : op = 0
  · subst h0
    rw [if_neg (by omega)]
    simp only [show ((0 : Int) == 0) = true by rfl, show ((0 : Int) == 1) = false by rfl, show in3 0 2 9 = false by rfl, cond_true, cond_false, Bool.true_and, Bool.false_and]
    cases in3 n (-9999) 9999 <;> cases a == 0 <;> cases b == 0 <;> rfl
  · by_cases h1 : op = 1
    · subst h1
      rw [if_neg (by omega)]
      simp only [show ((1 : Int) == 0) = false by rfl, show ((1 : Int) == 1) = true by rfl, show in3 1 2 9 = false by rfl, cond_true, cond_false, Bool.true_and, Bool.false_and]
      cases in3 n 0 (vars - 1) <;> cases a == 0 <;> cases b == 0 <;> rfl
    · have e0 : (op == 0) = false := by simpa using h0
      have e1 : (op == 1) = false := by simpa using h1
      simp only [e0, e1, cond_false, Bool.false_and]
      by_cases h2 : 2 ≤ op ∧ op ≤ 9
      · have i1 : in3 op 0 9 = true := in3_iff.2 (by omega)
        have i2 : in3 op 2 9 = true := in3_iff.2 h2
        rw [if_pos h2]
        simp only [i1, i2, cond_true, Bool.true_and]
        cases n == 0 with
        | false => rfl
        | true => cases e3 : in3 a 0 ((i : Int) - 1) with
          | false => rfl
          | true => cases e4 : in3 b 0 ((i : Int) - 1) with
            | false => rfl
            | true =>
              rw [in3_iff] at e3 e4
              simp only [inb_int (show 0 ≤ a by omega) (show a < ((i : Nat) : Int) by omega), inb_int (show 0 ≤ b by omega) (show b < ((i : Nat) : Int) by omega), cond_true, Bool.true_and]
              cases acc.getD a.toNat 0 == wantK op with
              | false => rfl
              | true => cases acc.getD b.toNat 0 == wantK op with
                | false => rfl
                | true =>
                  by_cases h7 : op = 7
                  · subst h7
                    simp only [if_true, show ((7 : Int) == 7) = true by rfl, show ((1 : Int) == 2) = false by rfl, Bool.true_and, cond_true, cond_false, Bool.not_true, Bool.false_or]
                    have : (a == b) = (b == a) := Bool.eq_iff_iff.2 (by simp; omega)
                    rw [this]
                    cases b == a with
                    | false => rfl
                    | true => rfl
                  · have e7 : (op == 7) = false := by simpa using h7
                    simp only [if_neg h7, e7, show ((2 : Int) == 2) = true by rfl, Bool.true_and, cond_true, Bool.not_false, Bool.true_or, ownK_ne, cond_false]
      · have i1 : in3 op 0 9 = false := by rw [← Bool.not_eq_true, in3_iff]; omega
        have i2 : in3 op 2 9 = false := by rw [← Bool.not_eq_true, in3_iff]; omega
        rw [if_neg h2]
        simp only [i1, i2]
        rfl
theorem loop (xs : List I4) (vars : Int) (hv : 0 ≤ vars ∧ vars ≤ 1048576) (hx : xs.length ≤ 1048576) : ∀ d i (acc : List Int), i + d = xs.length → acc.length = i → (d = 0 → acc ≠ []) → L5 (vars, xs, (xs.length : Int), (i : Int), acc, ()) = some (kindsGo vars (xs.drop i) acc, ())
  | 0, i, acc, hi, ha, hne => by
    have : i = xs.length := by omega
    subst this
    rw [L5_eq]; unfold F5
    have : acc.isEmpty = false := by cases acc with | nil => exact absurd rfl (hne rfl) | cons _ _ => rfl
    simp [kindsGo, this]
  | d + 1, i, acc, hi, ha, _ => by
    have hlt : i < xs.length := by omega
    rw [step hv hx hlt ha, List.drop_eq_getElem_cons hlt, getD_eq hlt]
    simp only [kindsGo]
    cases h : termKind xs[i] acc vars == 0 with
    | true => rfl
    | false => exact loop xs vars hv hx d (i + 1) _ (by omega) (by simp [ha]) (fun _ => by simp)
theorem law (xs : List I4) (vars : Int) : impl (xs, vars, ()) = some (kinds xs vars, ()) := by
  rw [impl_eq]; unfold F0
  simp only [impl_in.law, Option.bind_some]
  unfold kinds
  cases h1 : in3 vars 0 5 with
  | false => rfl
  | true => cases h2 : in3 xs.length 1 40 with
    | false => rfl
    | true =>
      rw [in3_iff] at h1 h2
      simp only [Bool.not_true, cond_false, Bool.and_self, cond_true]
      rw [L3_eq]; unfold F3
      rw [decide_eq_true (by omega), decide_eq_true (by omega)]
      exact loop xs vars (by omega) (by omega) xs.length 0 [] (by omega) rfl (fun h => by omega)
end impl_kindsOf
namespace impl_TermsValid
theorem law (xs : List I4) (vars : Int) : impl (xs, vars, ()) = some (termsOK xs vars, ()) := by
  rw [impl_eq]; unfold F0 termsOK
  rw [impl_kindsOf.law]; rfl
end impl_TermsValid

/-! what a valid expression is -/
def TermAt (t : I4) (i : Nat) : Prop :=
  t.1 = 0 ∨ t.1 = 1 ∨ (2 ≤ t.1 ∧ t.1 ≤ 9 ∧ t.2.1 = 0 ∧ 0 ≤ t.2.2.1 ∧ t.2.2.1 < i ∧ 0 ≤ t.2.2.2 ∧ t.2.2.2 < i ∧ (t.1 = 7 → t.2.2.2 = t.2.2.1))
theorem termKind_at {t : I4} {acc : List Int} {vars : Int} (h : (termKind t acc vars == 0) = false) : TermAt t acc.length := by
  unfold termKind at h
  cases e1 : (t.1 == 0 && (in3 t.2.1 (-9999) 9999 && (t.2.2.1 == 0 && t.2.2.2 == 0))) with
  | true => simp only [Bool.and_eq_true, beq_iff_eq] at e1; exact .inl e1.1
  | false =>
    rw [e1, cond_false] at h
    cases e2 : (t.1 == 1 && (in3 t.2.1 0 (vars - 1) && (t.2.2.1 == 0 && t.2.2.2 == 0))) with
    | true => simp only [Bool.and_eq_true, beq_iff_eq] at e2; exact .inr (.inl e2.1)
    | false =>
      rw [e2, cond_false] at h
      cases e3 : third t acc with
      | false => rw [e3] at h; cases h
      | true =>
        unfold third at e3
        simp only [Bool.and_eq_true, beq_iff_eq, in3_iff, Bool.or_eq_true, Bool.not_eq_true', beq_eq_false_iff_ne, ne_eq] at e3
        refine .inr (.inr ⟨e3.1.1, e3.1.2, e3.2.1, e3.2.2.1.1, by omega, e3.2.2.2.1.1, by omega, fun h7 => ?_⟩)
        rcases e3.2.2.2.2.2.2 with h | h
        · exact absurd h7 h
        · exact h
theorem kindsGo_at {vars : Int} : ∀ {xs : List I4} {acc : List Int}, (kindsGo vars xs acc).isEmpty = false → acc.length + xs.length = (kindsGo vars xs acc).length ∧ ∀ j, j < xs.length → TermAt (xs.getD j (0, 0, 0, 0)) (acc.length + j)
  | [], acc, h => by simp [kindsGo]
  | t :: ts, acc, h => by
    unfold kindsGo at h ⊢
    cases e : termKind t acc vars == 0 with
    | true => rw [e] at h; cases h
    | false =>
      rw [e] at h
      simp only [cond_false] at h ⊢
      obtain ⟨h1, h2⟩ := kindsGo_at h
      simp only [List.length_append, List.length_cons, List.length_nil] at h1 h2 ⊢
      refine ⟨by omega, fun j hj => ?_⟩
      cases j with
      | zero => simpa using termKind_at e
      | succ j =>
        have := h2 j (by omega)
        rw [show acc.length + (0 + 1) + j = acc.length + (j + 1) by omega] at this
        simpa using this
def Terms (xs : List I4) : Prop := ∀ i, i < xs.length → TermAt (xs.getD i (0, 0, 0, 0)) i
theorem terms_of {xs : List I4} {vars : Int} (h : termsOK xs vars = true) : Terms xs ∧ 1 ≤ xs.length ∧ xs.length ≤ 40 ∧ 0 ≤ vars ∧ vars ≤ 5 := by
  unfold termsOK kinds at h
  cases e : in3 vars 0 5 && in3 xs.length 1 40 with
  | false => rw [e] at h; cases h
  | true =>
    rw [e, cond_true] at h
    simp only [Bool.and_eq_true, in3_iff] at e
    have := (kindsGo_at (show (kindsGo vars xs []).isEmpty = false by simpa using h)).2
    exact ⟨fun i hi => by simpa using this i hi, by omega, by omega, by omega, by omega⟩
/-! ### what a valid expression is, in full -/
def TermV (t : I4) (i : Nat) (vars : Int) : Prop :=
  (t.1 = 0 ∧ -9999 ≤ t.2.1 ∧ t.2.1 ≤ 9999 ∧ t.2.2.1 = 0 ∧ t.2.2.2 = 0) ∨ (t.1 = 1 ∧ 0 ≤ t.2.1 ∧ t.2.1 < vars ∧ t.2.2.1 = 0 ∧ t.2.2.2 = 0) ∨
  (2 ≤ t.1 ∧ t.1 ≤ 9 ∧ t.2.1 = 0 ∧ 0 ≤ t.2.2.1 ∧ t.2.2.1 < i ∧ 0 ≤ t.2.2.2 ∧ t.2.2.2 < i ∧ (t.1 = 7 → t.2.2.2 = t.2.2.1))
theorem termKind_v {t : I4} {acc : List Int} {vars : Int} (h : (termKind t acc vars == 0) = false) : TermV t acc.length vars := by
  unfold termKind at h
  unfold TermV
  cases e1 : (t.1 == 0 && (in3 t.2.1 (-9999) 9999 && (t.2.2.1 == 0 && t.2.2.2 == 0))) with
  | true => simp only [Bool.and_eq_true, beq_iff_eq, in3_iff] at e1; exact .inl ⟨e1.1, e1.2.1.1, e1.2.1.2, e1.2.2.1, e1.2.2.2⟩
  | false =>
    rw [e1, cond_false] at h
    cases e2 : (t.1 == 1 && (in3 t.2.1 0 (vars - 1) && (t.2.2.1 == 0 && t.2.2.2 == 0))) with
    | true => simp only [Bool.and_eq_true, beq_iff_eq, in3_iff] at e2; exact .inr (.inl ⟨e2.1, e2.2.1.1, by omega, e2.2.2.1, e2.2.2.2⟩)
    | false =>
      rw [e2, cond_false] at h
      cases e3 : third t acc with
      | false => rw [e3] at h; cases h
      | true =>
        unfold third at e3
        simp only [Bool.and_eq_true, beq_iff_eq, in3_iff, Bool.or_eq_true, Bool.not_eq_true', beq_eq_false_iff_ne, ne_eq] at e3
        refine .inr (.inr ⟨e3.1.1, e3.1.2, e3.2.1, e3.2.2.1.1, by omega, e3.2.2.2.1.1, by omega, fun h7 => ?_⟩)
        rcases e3.2.2.2.2.2.2 with h | h
        · exact absurd h7 h
        · exact h
theorem kindsGo_v {vars : Int} : ∀ {xs : List I4} {acc : List Int}, (kindsGo vars xs acc).isEmpty = false → ∀ j, j < xs.length → TermV (xs.getD j (0, 0, 0, 0)) (acc.length + j) vars
  | [], acc, h => by simp
  | t :: ts, acc, h => by
    unfold kindsGo at h
    cases e : termKind t acc vars == 0 with
    | true => rw [e] at h; cases h
    | false =>
      rw [e] at h
      simp only [cond_false] at h
      have h2 := kindsGo_v h
      intro j hj
      cases j with
      | zero => simpa using termKind_v e
      | succ j =>
        have := h2 j (by simp at hj; omega)
        simp only [List.length_append, List.length_cons, List.length_nil] at this
        rw [show acc.length + (0 + 1) + j = acc.length + (j + 1) by omega] at this
        simpa using this
def TermsV (xs : List I4) (vars : Int) : Prop := ∀ i, i < xs.length → TermV (xs.getD i (0, 0, 0, 0)) i vars
theorem termsV_of {xs : List I4} {vars : Int} (h : termsOK xs vars = true) : TermsV xs vars ∧ 1 ≤ xs.length ∧ xs.length ≤ 40 ∧ 0 ≤ vars ∧ vars ≤ 5 := by
  refine ⟨?_, (terms_of h).2⟩
  unfold termsOK kinds at h
  cases e : in3 vars 0 5 && in3 xs.length 1 40 with
  | false => rw [e] at h; cases h
  | true =>
    rw [e, cond_true] at h
    have := kindsGo_v (show (kindsGo vars xs []).isEmpty = false by simpa using h)
    exact fun i hi => by simpa using this i hi
/-! ### how an expression is written -/
def signs : List UInt8 := [32, 32, 43, 45, 42, 60, 61, 33, 38, 124]
def termText (names out : List (List UInt8)) (t : I4) : List UInt8 :=
  if t.1 = 0 then Lib.itoa t.2.1 else if t.1 = 1 then names.getD t.2.1.toNat [] else if t.1 = 7 then [33] ++ out.getD t.2.2.1.toNat []
  else [40] ++ out.getD t.2.2.1.toNat [] ++ [32] ++ [signs.getD t.1.toNat 0] ++ [32] ++ out.getD t.2.2.2.toNat [] ++ [41]
def exprGo (names : List (List UInt8)) : List I4 → List (List UInt8) → List UInt8
  | [], out => out.getD (out.length - 1) []
  | t :: r, out => if 4000 < (termText names out t).length then [] else exprGo names r (out ++ [termText names out t])
def writeExpr (names : List (List UInt8)) (list : List I4) : List UInt8 := if namesOk names = true ∧ termsOK list names.length = true then exprGo names list [] else []
theorem szS_namesOk {xs : List (List UInt8)} (h : namesOk xs = true) : szS xs ≤ 100 := by
  obtain ⟨h1, h2⟩ := namesOk_mem h
  have : (xs.map List.length).sum ≤ xs.length * 8 := by
    clear h h1
    induction xs with
    | nil => simp
    | cons x r ih =>
      have h3 := nameOk_len (h2 x (by simp))
      have h4 := ih fun y hy => h2 y (by simp [hy])
      simp only [List.map_cons, List.sum_cons, List.length_cons]
      omega
  unfold szS; omega
/-- what stands is short -/
def Short (out : List (List UInt8)) : Prop := ∀ x ∈ out, x.length ≤ 4000
theorem short_get {out : List (List UInt8)} (h : Short out) (i : Nat) : (out.getD i []).length ≤ 4000 := by
  rcases Nat.lt_or_ge i out.length with hi | hi
  · exact h _ (getD_mem hi)
  · rw [List.getD_eq_getElem?_getD, List.getElem?_eq_none hi]; simp
theorem short_snoc {out : List (List UInt8)} {s : List UInt8} (h : Short out) (hs : s.length ≤ 4000) : Short (out ++ [s]) := fun x hx => by
  rcases List.mem_append.1 hx with hx | hx
  · exact h x hx
  · rw [List.mem_singleton] at hx; subst hx; exact hs
namespace spec_l1Sign
theorem law (op : Int) (h2 : 2 ≤ op) (h9 : op ≤ 9) : impl (op, ()) = some ([signs.getD op.toNat 0], ()) := by
  have : ∀ k : Fin 8, impl (((k.val + 2 : Nat) : Int), ()) = some ([signs.getD (k.val + 2) 0], ()) := by
    intro k
    rw [impl_eq]; unfold F0
    obtain ⟨k, hk⟩ := k
    match k, hk with
    | 0, _ => rfl
    | 1, _ => rfl
    | 2, _ => rfl
    | 3, _ => rfl
    | 4, _ => rfl
    | 5, _ => rfl
    | 6, _ => rfl
    | 7, _ => rfl
  have h := this ⟨(op - 2).toNat, by omega⟩
  have e : (((op - 2).toNat + 2 : Nat) : Int) = op := by omega
  simp only [e] at h
  rw [h, show (op - 2).toNat + 2 = op.toNat by omega]
end spec_l1Sign
namespace spec_WriteExpr
theorem law (names : List (List UInt8)) (list : List I4) (hx : szS names ≤ 1048576) : impl (names, list, ()) = some (writeExpr names list, ()) := by
  rw [impl_eq]; unfold F0 writeExpr
  rw [spec_NamesValid.law _ hx, Option.bind_some, spec_TermsValid.law, Option.bind_some, L3_eq]; unfold F3
  by_cases hn : namesOk names = true
  rotate_left
  · simp [hn]
  by_cases ht : termsOK list names.length = true
  rotate_left
  · simp [hn, ht]
  obtain ⟨h5, hm⟩ := namesOk_mem hn
  obtain ⟨hv, hl1, hl2, _, _⟩ := termsV_of ht
  have key := up_list (S := List (List UInt8)) list (0, 0, 0, 0) (fun i out => out.length = i ∧ Short out) (fun i out => L5 (names, list, (i : Int), out, ())) (fun i r out => some (exprGo names r out, ())) (by
    intro out hout
    rw [L5_eq]; unfold F5; simp (disch := omega) only [inb_nat, cast_lt, Int.toNat_natCast, wI_succ]
    rw [wI_small (by omega) (by omega), inb_int (i := (out.length : Int) - 1) (n := out.length) (by omega) (by omega), show ((out.length : Int) - 1).toNat = out.length - 1 by omega]
    simp [exprGo]) (by
    intro i out hi hout ih
    have hT := hv i hi
    obtain ⟨hlen, hsh⟩ := hout
    have h16 : ∀ s : List UInt8, s = termText names out (list.getD i (0, 0, 0, 0)) → L16 L5 (names, list, (i : Int), s, out, ()) = some (exprGo names (list.getD i (0, 0, 0, 0) :: list.drop (i + 1)) out, ()) := by
      intro s hs
      rw [L16_eq]; unfold F16 exprGo; simp (disch := omega) only [inb_nat, cast_lt, Int.toNat_natCast, wI_succ]
      rw [← hs]
      by_cases h4 : 4000 < s.length
      · grind
      · have := ih (out ++ [s]) ⟨by simp only [List.length_append, List.length_cons, List.length_nil]; omega, short_snoc hsh (by omega)⟩
        rw [if_neg h4, ← this]
        simp (disch := omega) only [decide_eq_true, decide_eq_false, cond_true, cond_false, Option.bind_some, Option.bind_none, List.length_append, List.length_cons, List.length_nil]
    rw [L5_eq]; unfold F5; rw [Int.toNat_natCast]
    have hA := short_get hsh (list.getD i (0, 0, 0, 0)).2.2.1.toNat
    have hB := short_get hsh (list.getD i (0, 0, 0, 0)).2.2.2.toNat
    unfold termText at h16
    generalize list.getD i (0, 0, 0, 0) = t at hT h16 hA hB ⊢
    obtain ⟨op, n, a, b⟩ := t
    unfold TermV at hT
    simp only at hT h16 hA hB ⊢
    simp (disch := omega) only [inb_nat, cast_lt, Int.toNat_natCast, wI_succ]
    rw [decide_eq_true hi, cond_true, cond_true]
    rcases hT with ⟨rfl, hn1, hn2, _⟩ | ⟨rfl, hn1, hn2, _⟩ | ⟨h2, h9, _, ha0, ha, hb0, hb, hab⟩
    · rw [spec_l40Dec.law n (by omega) (by omega)]
      exact h16 _ (by simp)
    · rw [inb_int (by omega) (by omega)]
      exact h16 _ (by simp)
    · rw [show (op == 0) = false by simp; omega, show (op == 1) = false by simp; omega, cond_false, cond_false, spec_l1One.law, Option.bind_some]
      by_cases h7 : op = 7
      · subst h7
        rw [inb_int (by omega) (by omega), show ((7 : Int) == 7) = true from rfl, cond_true, cond_true]
        simp (disch := omega) only [decide_eq_true, decide_eq_false, cond_true, cond_false, Option.bind_some, Option.bind_none, List.length_append, List.length_cons, List.length_nil]
        exact h16 _ (by simp)
      · rw [show (op == 7) = false by simpa using h7, cond_false, L15_eq]; unfold F15
        rw [inb_int (by omega) (by omega), inb_int (by omega) (by omega), spec_l1Sign.law op h2 h9]
        simp (disch := omega) only [decide_eq_true, decide_eq_false, cond_true, cond_false, Option.bind_some, Option.bind_none, List.length_append, List.length_cons, List.length_nil]
        exact h16 _ (by rw [if_neg (by omega), if_neg (by omega), if_neg h7]))
  have h := key [] ⟨rfl, fun _ h => by cases h⟩
  have h' : L5 (names, list, 0, [], ()) = _ := h
  simp [hn, ht, h']
end spec_WriteExpr
/-- a row as it is filled from the left -/
def fill (out : List (List UInt8)) (n : Nat) : List (List UInt8) := out ++ List.replicate (n - out.length) []
theorem fill_length {out : List (List UInt8)} {n : Nat} (h : out.length ≤ n) : (fill out n).length = n := by unfold fill; simp; omega
theorem fill_set {out : List (List UInt8)} {n i : Nat} (h : out.length = i) (hi : i < n) (s : List UInt8) : (fill out n).set i s = fill (out ++ [s]) n := by
  subst h
  unfold fill
  rw [List.set_append_right _ _ (Nat.le_refl _), Nat.sub_self]
  obtain ⟨k, hk⟩ : ∃ k, n - out.length = k + 1 := ⟨n - out.length - 1, by omega⟩
  rw [hk, List.length_append, List.length_singleton, show n - (out.length + 1) = k by omega, List.replicate_succ, List.set_cons_zero, List.append_assoc]
  rfl
theorem fill_get {out : List (List UInt8)} {n j : Nat} (h : j < out.length) : (fill out n).getD j [] = out.getD j [] := by
  unfold fill
  rw [List.getD_eq_getElem?_getD, List.getElem?_append_left h, List.getD_eq_getElem?_getD]
theorem fill_last (out : List (List UInt8)) (s : List UInt8) (n : Nat) : (fill (out ++ [s]) n).getD out.length [] = s := by
  rw [fill_get (by simp)]
  simp [List.getD_eq_getElem?_getD]
theorem sign_slice {op : Int} (h2 : 2 ≤ op) (h9 : op ≤ 9) : (([32, 32, 43, 45, 42, 60, 61, 33, 38, 124] : List UInt8).take (op + 1).toNat).drop op.toNat = [signs.getD op.toNat 0] := by
  have : ∀ k : Fin 8, (([32, 32, 43, 45, 42, 60, 61, 33, 38, 124] : List UInt8).take (k.val + 2 + 1)).drop (k.val + 2) = [signs.getD (k.val + 2) 0] := by decide
  have h := this ⟨(op - 2).toNat, by omega⟩
  simp only at h
  rw [show (op - 2).toNat + 2 = op.toNat by omega] at h
  rw [show (op + 1).toNat = op.toNat + 1 by omega]
  exact h
namespace impl_WriteExpr
theorem law (names : List (List UInt8)) (list : List I4) (hx : szS names ≤ 1048576) : impl (names, list, ()) = some (writeExpr names list, ()) := by
  rw [impl_eq]; unfold F0 writeExpr
  rw [impl_NamesValid.law _ hx, Option.bind_some, impl_TermsValid.law, Option.bind_some, L3_eq]; unfold F3
  by_cases hn : namesOk names = true
  rotate_left
  · simp [hn]
  by_cases ht : termsOK list names.length = true
  rotate_left
  · simp [hn, ht]
  obtain ⟨h5, hm⟩ := namesOk_mem hn
  obtain ⟨hv, hl1, hl2, _, _⟩ := termsV_of ht
  have key := up_list (S := List (List UInt8)) list (0, 0, 0, 0) (fun i out => out.length = i ∧ Short out) (fun i out => L5 (names, list, (list.length : Int), (i : Int), fill out list.length, ())) (fun i r out => some (exprGo names r out, ())) (by
    intro out hout
    obtain ⟨hlen, hsh⟩ := hout
    rw [L5_eq]; unfold F5; simp (disch := omega) only [inb_nat, cast_lt, Int.toNat_natCast, wI_succ]
    rw [decide_eq_false (Nat.lt_irrefl _), cond_false, fill_length (by omega), wI_small (by omega) (by omega), inb_int (i := (list.length : Int) - 1) (n := list.length) (by omega) (by omega), show ((list.length : Int) - 1).toNat = out.length - 1 by omega, fill_get (by omega), cond_true]
    simp [exprGo]) (by
    intro i out hi hout ih
    have hT := hv i hi
    obtain ⟨hlen, hsh⟩ := hout
    have hfl := fill_length (out := out) (n := list.length) (by omega)
    have h16 : ∀ s : List UInt8, s = termText names out (list.getD i (0, 0, 0, 0)) → (bif decide (i < list.length) then bif decide (i < ((fill out list.length).set i s).length) then bif decide (((((fill out list.length).set i s).getD i []).length : Int) > 4000) then some ([], ()) else L5 (names, list, (list.length : Int), ((i + 1 : Nat) : Int), (fill out list.length).set i s, ()) else none else none) = some (exprGo names (list.getD i (0, 0, 0, 0) :: list.drop (i + 1)) out, ()) := by
      intro s hs
      rw [List.length_set, hfl, decide_eq_true hi, cond_true, cond_true, fill_set hlen hi, ← hlen, fill_last, hlen]
      unfold exprGo
      rw [← hs]
      by_cases h4 : 4000 < s.length
      · grind
      · have := ih (out ++ [s]) ⟨by simp only [List.length_append, List.length_cons, List.length_nil]; omega, short_snoc hsh (by omega)⟩
        rw [if_neg h4, ← this]
        simp (disch := omega) only [decide_eq_true, decide_eq_false, cond_true, cond_false, Option.bind_some, Option.bind_none, List.length_append, List.length_cons, List.length_nil]
    rw [L5_eq]; unfold F5; rw [Int.toNat_natCast]
    have hA := short_get hsh (list.getD i (0, 0, 0, 0)).2.2.1.toNat
    have hB := short_get hsh (list.getD i (0, 0, 0, 0)).2.2.2.toNat
    unfold termText at h16
    generalize list.getD i (0, 0, 0, 0) = t at hT h16 hA hB ⊢
    obtain ⟨op, n, a, b⟩ := t
    unfold TermV at hT
    simp only [hfl] at hT h16 hA hB ⊢
    simp (disch := omega) only [inb_nat, cast_lt, Int.toNat_natCast, wI_succ]
    simp only [hi, decide_true, cond_true] at h16 ⊢
    rcases hT with ⟨rfl, hn1, hn2, _⟩ | ⟨rfl, hn1, hn2, _⟩ | ⟨h2, h9, _, ha0, ha, hb0, hb, hab⟩
    · rw [itoa_law n (by omega) (by omega)]
      exact h16 (Lib.itoa n) (by simp)
    · rw [inb_int (by omega) (by omega)]
      exact h16 (names.getD n.toNat []) (by simp)
    · have eA := fill_get (out := out) (n := list.length) (j := a.toNat) (by omega)
      have eB := fill_get (out := out) (n := list.length) (j := b.toNat) (by omega)
      rw [show (op == 0) = false by simp; omega, show (op == 1) = false by simp; omega, cond_false, cond_false]
      by_cases h7 : op = 7
      · subst h7
        rw [inb_int (by omega) (by omega), show ((7 : Int) == 7) = true from rfl, cond_true, cond_true, eA]
        rw [decide_eq_true (show ([33] : List UInt8).length + (out.getD a.toNat []).length ≤ 140737488355328 by simp only [List.length_append, List.length_cons, List.length_nil]; omega), cond_true]
        exact h16 ([33] ++ out.getD a.toNat []) (by simp)
      · rw [show (op == 7) = false by simpa using h7, cond_false, L8_eq]; unfold F8
        rw [hfl, inb_int (by omega) (by omega), inb_int (by omega) (by omega), wI_small (n := op + 1) (by omega) (by omega), sign_slice h2 h9, eA, eB]
        simp (disch := omega) only [inb_nat, cast_lt, Int.toNat_natCast, wI_succ]
        rw [show (decide (0 ≤ op) && decide (op ≤ op + 1) && decide (op + 1 ≤ (([32, 32, 43, 45, 42, 60, 61, 33, 38, 124] : List UInt8).length : Int))) = true by simp; omega]
        have h17 := h16 ([40] ++ out.getD a.toNat [] ++ [32] ++ [signs.getD op.toNat 0] ++ [32] ++ out.getD b.toNat [] ++ [41]) (by rw [if_neg (by omega), if_neg (by omega), if_neg h7])
        rw [← h17]
        simp only [hi, decide_true, cond_true]
        simp (disch := omega) only [decide_eq_true, decide_eq_false, cond_true, cond_false, Option.bind_some, Option.bind_none, List.length_append, List.length_cons, List.length_nil])
  have h := key [] ⟨rfl, fun _ h => by cases h⟩
  have h' : L5 (names, list, (list.length : Int), 0, (List.replicate list.length [] : List (List UInt8)), ()) = _ := h
  have e0 : (decide (0 ≤ (list.length : Int)) && decide ((list.length : Int) ≤ (list.length : Int)) && decide ((list.length : Int) * 16 ≤ 140737488355328)) = true := by simp; omega
  rw [hn, ht, e0]
  simpa [hn, ht] using h'
end impl_WriteExpr
namespace laws_FnExactWriteExpr
theorem law (names : List (List UInt8)) (list : List I4) (hw : (Ty.sl .str).wf names) (hl : list.length ≤ maxLen) : impl (names, list, ()) = some (true, ()) := by
  have hM : maxLen = 9223372036854775807 := by unfold maxLen; rfl
  rw [impl_eq]; unfold F0
  have hz := laws_szStringS.law names 1048576 hw.1 hw.2 (by omega)
  have hz' : laws_szStringS.impl (names, 1048576, ()) = _ := hz
  rw [hz', Option.bind_some]
  by_cases hn : ((1048576 : Nat) : Int) - szS names < 0
  · grind
  have hx : szS names ≤ 1048576 := by omega
  have hx2 : names.length ≤ 1048576 := by unfold szS at hx; omega
  simp only [hn, if_false]
  rw [laws_szTermS.law list _ (by omega) (by omega) hl, Option.bind_some]
  by_cases hn2 : ((1048576 : Nat) : Int) - szS names - list.length < 0
  · grind
  have hx3 : list.length ≤ 1048576 := by omega
  simp only [laws_toStringS.law _ hx2, laws_toTermS.law _ hx3, Option.bind_some, spec_WriteExpr.law _ _ hx, impl_WriteExpr.law _ _ hx, laws_eqTermS.law _ _ hx3, laws_eqStringS.law _ _ hx2]
  simp [hn, hn2]
end laws_FnExactWriteExpr
end Go.Proofs.YtambmmpilakgoaaDoorB
