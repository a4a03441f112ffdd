/- The plain law: what the functions compute, in plain Lean. -/
import Derived.Test.YtambmmpilakgoaaDoorKFnExactStateText
import Derived.Test.YtambmmpilakgoaaDoorP0
set_option linter.unusedVariables false
set_option linter.unusedSimpArgs false
set_option maxRecDepth 10000
namespace Go.Proofs.YtambmmpilakgoaaDoorB
open Go
namespace spec_l1In
theorem law (x a b : Int) : impl (x, a, b, ()) = some (in3 x a b, ()) := by
  rw [impl_eq]; unfold F0
  rw [cond_ret]
  congr 2
  rw [Bool.eq_iff_iff, in3_iff]
  simp only [cond_iff, decide_eq_true_eq, Bool.false_eq_true, and_false, or_false]
end spec_l1In
namespace impl_in
theorem law (x a b : Int) : impl (x, a, b, ()) = some (in3 x a b, ()) := by
  rw [impl_eq]; unfold F0
  rw [cond_ret]
  congr 2
  rw [Bool.eq_iff_iff, in3_iff]
  simp only [cond_iff, decide_eq_true_eq, Bool.false_eq_true, and_false, or_false]
end impl_in
/-! ### lists of ints and of strings: copies, eq -/
namespace laws_toIntS
theorem law (xs : List Int) (hx : xs.length ≤ 1048576) : impl (xs, ()) = some (xs, ()) := by
  rw [impl_eq]; unfold F0
  have : (decide (0 ≤ (xs.length : Int)) && decide ((xs.length : Int) ≤ (xs.length : Int)) && decide ((xs.length : Int) * 8 ≤ 140737488355328)) = true := by
    simp; omega
  rw [this, cond_true]
  have h := up_copy (R := PO) xs 0 id (fun i r => L3 (xs, (i : Int), r, ())) (fun r => (r, ())) (fun i r hi hr => by
    show L3 _ = _
    rw [L3_eq]; unfold F3
    rw [lt_len, inb_true hi, inb_true (by omega), wI_succ (by omega), Int.toNat_natCast]
    simp only [hi, decide_true, cond_true, id]) (fun r hr => by
    show L3 _ = _
    rw [L3_eq]; unfold F3
    simp) (List.replicate xs.length 0) (by simp)
  simpa using h
end laws_toIntS
namespace laws_eqIntS
theorem law (xs ys : List Int) (hx : xs.length ≤ 1048576) : impl (xs, ys, ()) = some (decide (xs = ys), ()) := by
  rw [impl_eq]; unfold F0
  by_cases hl : xs.length = ys.length
  · have : ((xs.length : Int) != (ys.length : Int)) = false := by simp [hl]
    rw [this, cond_false]
    have h := up_all (R := PO) (fun i => L4 (xs, ys, (i : Int), ())) xs.length (fun i => decide (xs.getD i 0 = ys.getD i 0)) (false, ()) (true, ()) (fun i hi => by
      show L4 _ = _
      rw [L4_eq]; unfold F4
      rw [lt_len]
      simp only [hi, decide_true, cond_true]
      rw [L6_eq]; unfold F6
      rw [inb_true hi, inb_true (by omega), wI_succ (by omega), Int.toNat_natCast]
      simp only [cond_true]
      by_cases he : xs.getD i 0 = ys.getD i 0
      · rw [show (xs.getD i 0 != ys.getD i 0) = false by rw [he]; simp, decide_eq_true he]; rfl
      · rw [show (xs.getD i 0 != ys.getD i 0) = true by simpa using he, decide_eq_false he]; rfl) (by
      show L4 _ = _
      rw [L4_eq]; unfold F4; simp) xs.length 0 (by omega)
    rw [eq_all hl] at h
    refine (show _ = _ from h).trans ?_
    cases decide (xs = ys) <;> rfl
  · have : ((xs.length : Int) != (ys.length : Int)) = true := by
      simp; omega
    rw [this, cond_true]
    have : xs ≠ ys := fun e => hl (by rw [e])
    simp [this]
end laws_eqIntS
/-! ### numbers as they are written -/
def isDig (c : UInt8) : Bool := decide (48 ≤ c.toNat) && decide (c.toNat ≤ 57)
def valD (l : List UInt8) : Nat := l.foldl (fun a c => a * 10 + (c.toNat - 48)) 0
def canon (l : List UInt8) : Bool := l.all isDig && (match l with | [] => false | c :: r => !(c == 48) || r.isEmpty)
theorem valD_snoc (l : List UInt8) (c : UInt8) : valD (l ++ [c]) = valD l * 10 + (c.toNat - 48) := by simp [valD]
theorem isDig_iff {c : UInt8} : isDig c = true ↔ 48 ≤ c.toNat ∧ c.toNat ≤ 57 := by simp [isDig]
theorem digs_dec (u : Nat) : (Lib.decDigits u).all isDig = true := by
  induction u using Nat.strongRecOn with
  | _ u ih =>
    rw [Lib.decDigits]
    split
    · rename_i h
      simp only [List.all_cons, List.all_nil, Bool.and_true, isDig_iff]
      have : (UInt8.ofNat (48 + u)).toNat = 48 + u := by simp; omega
      omega
    · rename_i h
      rw [List.all_append, ih (u / 10) (by omega)]
      simp only [List.all_cons, List.all_nil, Bool.and_true, Bool.true_and, isDig_iff]
      have : (UInt8.ofNat (48 + u % 10)).toNat = 48 + u % 10 := by simp; omega
      omega
theorem val_dec (u : Nat) : valD (Lib.decDigits u) = u := by
  induction u using Nat.strongRecOn with
  | _ u ih =>
    rw [Lib.decDigits]
    split
    · rename_i h
      have : (UInt8.ofNat (48 + u)).toNat = 48 + u := by simp; omega
      simp only [valD, List.foldl_cons, List.foldl_nil]
      omega
    · rename_i h
      have : (UInt8.ofNat (48 + u % 10)).toNat = 48 + u % 10 := by simp; omega
      rw [valD_snoc, ih (u / 10) (by omega)]
      omega
theorem dec_ne (u : Nat) : Lib.decDigits u ≠ [] := by
  rw [Lib.decDigits]
  split <;> simp
theorem head_dec (u : Nat) : ∀ c r, Lib.decDigits u = c :: r → u = 0 ∧ c = 48 ∧ r = [] ∨ 0 < u ∧ c ≠ 48 := by
  induction u using Nat.strongRecOn with
  | _ u ih =>
    intro c r h
    rw [Lib.decDigits] at h
    split at h
    · rename_i hu
      simp only [List.cons.injEq] at h
      obtain ⟨h1, h2⟩ := h
      by_cases h0 : u = 0
      · subst h0; left; exact ⟨rfl, h1.symm, h2.symm⟩
      · right
        refine ⟨by omega, fun e => ?_⟩
        rw [← h1] at e
        have : (UInt8.ofNat (48 + u)).toNat = 48 + u := by simp; omega
        rw [e] at this
        have h48 : (48 : UInt8).toNat = 48 := rfl
        omega
    · rename_i hu
      cases hd : Lib.decDigits (u / 10) with
      | nil => exact absurd hd (dec_ne _)
      | cons c' r' =>
        rw [hd] at h
        simp only [List.cons_append, List.cons.injEq] at h
        rcases ih (u / 10) (by omega) c' r' hd with ⟨h0, _⟩ | ⟨_, h1⟩
        · omega
        · right; exact ⟨by omega, by rw [← h.1]; exact h1⟩
theorem canon_dec (u : Nat) : canon (Lib.decDigits u) = true := by
  unfold canon
  rw [digs_dec, Bool.true_and]
  cases h : Lib.decDigits u with
  | nil => exact absurd h (dec_ne _)
  | cons c r =>
    rcases head_dec u c r h with ⟨_, _, h1⟩ | ⟨_, h1⟩
    · subst h1; simp
    · simp [h1]
theorem dec_val_aux : ∀ (n : Nat) (l : List UInt8), l.length = n → l.all isDig = true → (∀ c r, l = c :: r → c ≠ 48) → l ≠ [] → Lib.decDigits (valD l) = l ∧ 1 ≤ valD l := by
  intro n
  induction n with
  | zero => intro l hl _ _ hn; exact absurd (List.length_eq_zero_iff.1 hl) hn
  | succ n ih =>
    intro l hl hd hh hn
    obtain ⟨p, c, rfl⟩ : ∃ p c, l = p ++ [c] := ⟨l.dropLast, l.getLast hn, (List.dropLast_concat_getLast hn).symm⟩
    rw [List.all_append, Bool.and_eq_true] at hd
    have hc := isDig_iff.1 (show isDig c = true by simpa using hd.2)
    have hco : UInt8.ofNat c.toNat = c := by simp
    rw [valD_snoc]
    cases p with
    | nil =>
      have hc0 : c ≠ 48 := hh c [] rfl
      have : c.toNat ≠ 48 := fun e => hc0 (by rw [← hco, e]; rfl)
      have e0 : valD [] = 0 := rfl
      rw [e0, Lib.decDigits, dif_pos (by omega)]
      refine ⟨?_, by omega⟩
      rw [show 48 + (0 * 10 + (c.toNat - 48)) = c.toNat by omega, hco]; rfl
    | cons a p =>
      have hl' : (a :: p).length = n := by simpa using hl
      obtain ⟨h1, h2⟩ := ih (a :: p) hl' hd.1 (fun c' r' e => hh c' (r' ++ [c]) (by rw [e]; rfl)) (by simp)
      refine ⟨?_, by omega⟩
      rw [Lib.decDigits, dif_neg (by omega), show (valD (a :: p) * 10 + (c.toNat - 48)) / 10 = valD (a :: p) by omega, h1, show 48 + (valD (a :: p) * 10 + (c.toNat - 48)) % 10 = c.toNat by omega, hco]
theorem dec_val {l : List UInt8} (h : canon l = true) : Lib.decDigits (valD l) = l := by
  unfold canon at h
  rw [Bool.and_eq_true] at h
  cases l with
  | nil => simp at h
  | cons c r =>
    by_cases hc : c = 48
    · subst hc
      have : r = [] := by simpa using h.2
      subst this
      rw [Lib.decDigits]; rfl
    · exact (dec_val_aux _ _ rfl h.1 (fun c' r' e => by simp only [List.cons.injEq] at e; rw [← e.1]; exact hc) (by simp)).1
/-- the number, if it is written as it must be and is in bounds -/
def numT (s : List UInt8) : Option Int := match s with
  | 45 :: r => if canon r = true ∧ r ≠ [48] ∧ valD r ≤ 9999 then some (-(valD r : Int)) else none
  | s => if canon s = true ∧ valD s ≤ 9999 then some (valD s : Int) else none
theorem numT_itoa {n : Int} (h1 : -9999 ≤ n) (h2 : n ≤ 9999) : numT (Lib.itoa n) = some n := by
  unfold Lib.itoa
  split
  · rename_i h
    have hne : Lib.decDigits n.natAbs ≠ [48] := fun e => by
      rcases head_dec n.natAbs 48 [] e with ⟨h0, _⟩ | ⟨_, h0⟩
      · omega
      · exact h0 rfl
    simp only [numT, canon_dec, val_dec, hne, ne_eq, not_false_eq_true, true_and]
    rw [if_pos (by omega)]
    congr 1; omega
  · rename_i h
    have hd := digs_dec n.toNat
    have hc := canon_dec n.toNat
    have hv := val_dec n.toNat
    cases hl : Lib.decDigits n.toNat with
    | nil => exact absurd hl (dec_ne _)
    | cons c r =>
      rw [hl] at hd hc hv
      have hc45 : c ≠ 45 := by
        rintro rfl
        simp only [List.all_cons, Bool.and_eq_true] at hd
        have := isDig_iff.1 hd.1
        have h45 : (45 : UInt8).toNat = 45 := rfl
        omega
      unfold numT
      split
      · rename_i e; simp only [List.cons.injEq] at e; exact absurd e.1 hc45
      · rw [hc, hv, if_pos ⟨rfl, by omega⟩]; congr 1; omega
theorem numT_some {s : List UInt8} {n : Int} (h : numT s = some n) : Lib.itoa n = s ∧ -9999 ≤ n ∧ n ≤ 9999 := by
  unfold numT at h
  split at h
  · rename_i r
    split at h
    · rename_i hr
      obtain ⟨hc, h0, hv⟩ := hr
      simp only [Option.some.injEq] at h
      subst h
      have hp : 1 ≤ valD r := by
        rcases Nat.eq_zero_or_pos (valD r) with e | e
        · have := dec_val hc
          rw [e, Lib.decDigits_one (by omega)] at this
          exact absurd this.symm h0
        · exact e
      refine ⟨?_, by omega, by omega⟩
      rw [Lib.itoa, if_pos (by omega), show (-(valD r : Int)).natAbs = valD r by omega, dec_val hc]
    · cases h
  · split at h
    · rename_i hr
      simp only [Option.some.injEq] at h
      subst h
      refine ⟨?_, by omega, by omega⟩
      rw [Lib.itoa, if_neg (by omega), Int.toNat_natCast, dec_val hr.1]
    · cases h
/-! what Atoi makes of it -/
theorem parse_digs : ∀ (l : List UInt8) (acc : Nat), l.all isDig = true → l.foldl (fun a c => a * 10 + (c.toNat - 48)) acc < 1844674407370955162 → acc ≤ l.foldl (fun a c => a * 10 + (c.toNat - 48)) acc ∧ Lib.parseUint10 acc l = .ok (l.foldl (fun a c => a * 10 + (c.toNat - 48)) acc)
  | [], acc, _, _ => ⟨Nat.le_refl _, rfl⟩
  | c :: r, acc, hd, hv => by
    simp only [List.all_cons, Bool.and_eq_true] at hd
    have hc := isDig_iff.1 hd.1
    simp only [List.foldl_cons] at hv ⊢
    obtain ⟨h1, h2⟩ := parse_digs r _ hd.2 hv
    refine ⟨by omega, ?_⟩
    rw [Lib.parseUint10, if_pos hc, if_neg (by omega), if_neg (by omega), h2]
theorem parseMag_canon {l : List UInt8} (h : canon l = true) (hv : valD l ≤ 9999) : Lib.parseMag l = .ok (valD l) := by
  unfold canon at h
  rw [Bool.and_eq_true] at h
  unfold Lib.parseMag
  rw [if_neg (by rintro rfl; simp at h)]
  exact (parse_digs l 0 h.1 (by unfold valD at hv; omega)).2
theorem atoi_numT {s : List UInt8} {n : Int} (h : numT s = some n) : Lib.atoiAll s = .ok n := by
  unfold numT at h
  split at h
  · rename_i r
    split at h
    · rename_i hr
      simp only [Option.some.injEq] at h
      subst h
      unfold Lib.atoiAll
      simp only [show (45 : UInt8).toNat = 45 from rfl, or_true, if_true, parseMag_canon hr.1 hr.2.2]
      rw [if_neg (by simp), if_neg (by omega)]
    · cases h
  · rename_i h45
    split at h
    · rename_i hr
      simp only [Option.some.injEq] at h
      subst h
      cases s with
      | nil => simp [canon] at hr
      | cons c r =>
        have hc := hr.1
        unfold canon at hc
        simp only [List.all_cons, Bool.and_eq_true] at hc
        have := isDig_iff.1 hc.1.1
        have hv := hr.2
        unfold Lib.atoiAll
        simp only [show ¬ c.toNat = 43 by omega, show ¬ c.toNat = 45 by omega, or_self, if_false, parseMag_canon hr.1 hr.2, not_false_eq_true, true_and, false_and]
        rw [if_neg (by omega)]
    · cases h
/-! ### a text cut at each byte of a kind -/
def cutAt (c : UInt8) : List UInt8 → List (List UInt8)
  | [] => [[]]
  | b :: l => if b = c then [] :: cutAt c l else match cutAt c l with
    | [] => [[b]]
    | p :: ps => (b :: p) :: ps
theorem cutAt_ne (c : UInt8) (s : List UInt8) : cutAt c s ≠ [] := by
  cases s with
  | nil => simp [cutAt]
  | cons b l =>
    unfold cutAt
    split
    · simp
    · split <;> simp
theorem index_one_cons (b c : UInt8) (l : List UInt8) : Lib.index (b :: l) [c] = if b = c then 0 else if Lib.index l [c] = -1 then -1 else Lib.index l [c] + 1 := by
  rw [Lib.index]
  by_cases h : b = c
  · subst h; simp
  · have : ¬ c = b := fun e => h e.symm
    simp [h, this]
theorem split_cut (c : UInt8) : ∀ (s : List UInt8) (k : Nat), Lib.count s [c] ≤ k → Lib.splitK [c] 0 k s = cutAt c s
  | [], 0, _ => rfl
  | [], k + 1, _ => by simp [Lib.splitK, Lib.index, cutAt]
  | b :: l, k, hk => by
    by_cases h : b = c
    · subst h
      rw [Lib.count_cons_eq] at hk
      obtain ⟨k, rfl⟩ : ∃ k', k = k' + 1 := ⟨k - 1, by omega⟩
      have := split_cut b l k (by omega)
      rw [Lib.splitK, index_one_cons]
      simp [cutAt, this]
    · rw [Lib.count_cons_ne b c l h] at hk
      have ih := split_cut c l k hk
      rw [cutAt, if_neg h, ← ih]
      cases k with
      | zero => simp [Lib.splitK]
      | succ k =>
        rw [Lib.splitK, index_one_cons, if_neg h, Lib.splitK]
        by_cases hi : Lib.index l [c] = -1
        · simp [hi]
        · have := Lib.index_ge l [c]
          have hn : ¬ Lib.index l [c] + 1 = -1 := by omega
          simp only [hi, if_false, beq_iff_eq, hn, List.length_cons, List.length_nil, Nat.add_zero]
          rw [show (Lib.index l [c] + 1).toNat = (Lib.index l [c]).toNat + 1 by omega, show (Lib.index l [c]).toNat + 1 + (0 + 1) = (Lib.index l [c]).toNat + (0 + 1) + 1 by omega]
          simp
theorem split_one (c : UInt8) (s : List UInt8) : Lib.split s [c] = cutAt c s := split_cut c s _ (Nat.le_refl _)
theorem cutAt_pre (c : UInt8) : ∀ (p : List UInt8) (r : List UInt8), (∀ b ∈ p, b ≠ c) → cutAt c (p ++ r) = match cutAt c r with
    | [] => [p]
    | q :: qs => (p ++ q) :: qs
  | [], r, _ => by
    cases h : cutAt c r with
    | nil => exact absurd h (cutAt_ne c r)
    | cons q qs => simp [h]
  | b :: p, r, hp => by
    have hb := hp b (by simp)
    rw [List.cons_append, cutAt, if_neg hb, cutAt_pre c p r fun x hx => hp x (by simp [hx])]
    cases h : cutAt c r with
    | nil => exact absurd h (cutAt_ne c r)
    | cons q qs => rfl
theorem cutAt_none {c : UInt8} {p : List UInt8} (hp : ∀ b ∈ p, b ≠ c) : cutAt c p = [p] := by
  have := cutAt_pre c p [] hp
  simpa [cutAt] using this
theorem cutAt_sep {c : UInt8} {p r : List UInt8} (hp : ∀ b ∈ p, b ≠ c) : cutAt c (p ++ c :: r) = p :: cutAt c r := by
  rw [cutAt_pre c p _ hp, cutAt, if_pos rfl]
  simp
theorem cutAt_count (c : UInt8) : ∀ s : List UInt8, (cutAt c s).length = s.count c + 1
  | [] => rfl
  | b :: l => by
    have ih := cutAt_count c l
    unfold cutAt
    by_cases h : b = c
    · subst h; simp [ih]
    · rw [if_neg h, List.count_cons_of_ne h]
      cases hc : cutAt c l with
      | nil => exact absurd hc (cutAt_ne c l)
      | cons q qs => rw [hc] at ih; simpa using ih
theorem cutAt_length (c : UInt8) (s : List UInt8) : (cutAt c s).length ≤ s.length + 1 := by
  rw [cutAt_count]
  have := List.count_le_length (a := c) (l := s)
  omega
theorem cutAt_mem (c : UInt8) : ∀ (s : List UInt8), ∀ w ∈ cutAt c s, w.length ≤ s.length ∧ ∀ b ∈ w, b ≠ c
  | [], w, hw => by simp [cutAt] at hw; subst hw; simp
  | b :: l, w, hw => by
    have ih := cutAt_mem c l
    unfold cutAt at hw
    by_cases h : b = c
    · rw [if_pos h] at hw
      rcases List.mem_cons.1 hw with rfl | hw
      · simp
      · have := ih w hw; exact ⟨by simp; omega, this.2⟩
    · rw [if_neg h] at hw
      cases hc : cutAt c l with
      | nil => exact absurd hc (cutAt_ne c l)
      | cons q qs =>
        rw [hc] at hw ih
        rcases List.mem_cons.1 hw with rfl | hw
        · have := ih q (by simp)
          refine ⟨by simp; omega, fun x hx => ?_⟩
          rcases List.mem_cons.1 hx with rfl | hx
          · exact h
          · exact this.2 x hx
        · have := ih w (by simp [hw]); exact ⟨by simp; omega, this.2⟩
/-! ### cut off what is of some kind -/
theorem trim_empty {s cs : List UInt8} : Lib.trimS s cs = [] ↔ ∀ b ∈ s, cs.contains b = true := by
  unfold Lib.trimS Lib.trimLeftS Lib.trimRightS
  have key : ∀ l : List UInt8, l.dropWhile (cs.contains ·) = [] ↔ ∀ b ∈ l, cs.contains b = true := by
    intro l
    induction l with
    | nil => simp
    | cons b l ih =>
      rw [List.dropWhile_cons]
      by_cases h : cs.contains b = true
      · rw [if_pos h, ih, List.forall_mem_cons]; exact ⟨fun a => ⟨h, a⟩, fun a => a.2⟩
      · rw [if_neg h, List.forall_mem_cons]; exact ⟨fun a => (by cases a), fun a => absurd a.1 h⟩
  rw [key]
  constructor
  · intro h b hb
    by_cases hc : cs.contains b = true
    · exact hc
    · have h2 : (s.reverse.dropWhile (cs.contains ·)) = [] := by
        cases hd : s.reverse.dropWhile (cs.contains ·) with
        | nil => rfl
        | cons x xs =>
          have hx : ¬ cs.contains x = true := by
            have := List.head_dropWhile_not (cs.contains ·) (l := s.reverse) (by rw [hd]; simp)
            simp only [hd, List.head_cons] at this
            simpa using this
          exact absurd (h x (by rw [hd]; simp)) hx
      exact (key s.reverse).1 h2 b (by simpa using hb)
  · intro h b hb
    have := List.mem_reverse.1 hb
    exact h b (by simpa using List.dropWhile_sublist _ |>.subset this)
/-! ### loops over a list -/
theorem drop_cons {α : Type} {xs : List α} {i : Nat} (d : α) (h : i < xs.length) : xs.drop i = xs.getD i d :: xs.drop (i + 1) := by
  rw [List.drop_eq_getElem_cons h, getD_eq h]
/-- a loop that goes up along a list, and what it computes along what is left -/
theorem up_list {α S R : Type} (xs : List α) (d : α) (I : Nat → S → Prop) (L : Nat → S → Option R) (g : Nat → List α → S → Option R)
    (hn : ∀ s, I xs.length s → L xs.length s = g xs.length [] s)
    (hc : ∀ i s, i < xs.length → I i s → (∀ s', I (i + 1) s' → L (i + 1) s' = g (i + 1) (xs.drop (i + 1)) s') → L i s = g i (xs.getD i d :: xs.drop (i + 1)) s) :
    ∀ s, I 0 s → L 0 s = g 0 xs s := by
  have key : ∀ k i s, i + k = xs.length → I i s → L i s = g i (xs.drop i) s := by
    intro k
    induction k with
    | zero =>
      intro i s hi hI
      have : i = xs.length := by omega
      subst this
      rw [List.drop_length]
      exact hn s hI
    | succ k ih =>
      intro i s hi hI
      rw [drop_cons d (by omega)]
      exact hc i s (by omega) hI fun s' hI' => ih (i + 1) s' (by omega) hI'
  intro s hI
  have := key xs.length 0 s (by omega) hI
  rwa [List.drop_zero] at this
theorem inb_eq (i : Int) (n : Nat) : inb i n = (decide (0 ≤ i) && decide (i < n)) := rfl
theorem cast_lt (i n : Nat) : decide ((i : Int) < (n : Int)) = decide (i < n) := by simp
theorem up_list0 {α R : Type} (xs : List α) (d : α) (L : Nat → Option R) (g : Nat → List α → Option R) (hn : L xs.length = g xs.length [])
    (hc : ∀ i, i < xs.length → L (i + 1) = g (i + 1) (xs.drop (i + 1)) → L i = g i (xs.getD i d :: xs.drop (i + 1))) : L 0 = g 0 xs :=
  up_list (S := Unit) xs d (fun _ _ => True) (fun i _ => L i) (fun i r _ => g i r) (fun _ _ => hn) (fun i _ hi _ ih => hc i hi (ih () trivial)) () trivial
theorem decide_cons {α : Type} [DecidableEq α] (a b : α) (x y : List α) : decide (a :: x = b :: y) = (decide (a = b) && decide (x = y)) := by
  rw [Bool.eq_iff_iff]; simp
/-! ### names -/
def goAt (s : List UInt8) : Nat → List (List UInt8) → Int
  | _, [] => -1
  | i, x :: r => if x = s then (i : Int) else goAt s (i + 1) r
namespace spec_l30At
theorem law (xs : List (List UInt8)) (s : List UInt8) (hx : xs.length ≤ 1048576) : impl (xs, s, ()) = some (goAt s 0 xs, ()) := by
  rw [impl_eq]; unfold F0
  refine up_list0 xs [] (fun i => L2 (xs, s, (i : Int), ())) (fun i r => some (goAt s i r, ())) ?_ ?_
  · rw [L2_eq]; unfold F2; grind [goAt]
  · intro i hi ih
    rw [L2_eq]; unfold F2; simp (disch := omega) only [inb_nat, cast_lt, Int.toNat_natCast, wI_succ]; grind [goAt]
end spec_l30At
namespace slices_Index_of
theorem law (xs : List (List UInt8)) (s : List UInt8) (hx : xs.length ≤ 1048576) : impl (xs, s, ()) = some (goAt s 0 xs, ()) := by
  rw [impl_eq]; unfold F0
  refine up_list0 xs [] (fun i => L2 (xs, s, (xs.length : Int), (i : Int), ())) (fun i r => some (goAt s i r, ())) ?_ ?_
  · rw [L2_eq]; unfold F2; grind [goAt]
  · intro i hi ih
    rw [L2_eq]; unfold F2; simp (disch := omega) only [inb_nat, cast_lt, Int.toNat_natCast, wI_succ]; grind [goAt]
end slices_Index_of
def isLow (b : UInt8) : Bool := decide (97 ≤ b.toNat) && decide (b.toNat ≤ 122)
def nameOk (s : List UInt8) : Bool := s.all isLow && decide (1 ≤ s.length) && decide (s.length ≤ 8)
namespace spec_l30Name
theorem law (s : List UInt8) (hx : s.length ≤ 1048576) : impl (s, ()) = some (nameOk s, ()) := by
  rw [impl_eq]; unfold F0
  refine (up_list0 s 0 (fun i => L2 (s, (i : Int), ())) (fun i r => some (r.all isLow && (decide (1 ≤ s.length) && decide (s.length ≤ 8)), ())) ?_ ?_).trans (by simp [nameOk, Bool.and_assoc])
  · rw [L2_eq]; unfold F2; rw [spec_l1In.law]; grind [in3]
  · intro i hi ih
    rw [L2_eq]; unfold F2; simp (disch := omega) only [inb_nat, cast_lt, Int.toNat_natCast, wI_succ]; grind [isLow]
end spec_l30Name
theorem contains_az (b : UInt8) : ([97, 98, 99, 100, 101, 102, 103, 104, 105, 106, 107, 108, 109, 110, 111, 112, 113, 114, 115, 116, 117, 118, 119, 120, 121, 122] : List UInt8).contains b = isLow b := by
  have : ∀ n : Fin 256, ([97, 98, 99, 100, 101, 102, 103, 104, 105, 106, 107, 108, 109, 110, 111, 112, 113, 114, 115, 116, 117, 118, 119, 120, 121, 122] : List UInt8).contains (UInt8.ofNat n.val) = isLow (UInt8.ofNat n.val) := by decide +kernel
  have h := this ⟨b.toNat, b.toNat_lt⟩
  simpa using h
theorem trim_az (s : List UInt8) : (Lib.trimS s [97, 98, 99, 100, 101, 102, 103, 104, 105, 106, 107, 108, 109, 110, 111, 112, 113, 114, 115, 116, 117, 118, 119, 120, 121, 122] == []) = s.all isLow := by
  rw [Bool.eq_iff_iff, beq_iff_eq, trim_empty, List.all_eq_true]
  simp only [contains_az]
namespace impl_nameOk
theorem law (s : List UInt8) (hx : s.length ≤ 1048576) : impl (s, ()) = some (nameOk s, ()) := by
  rw [impl_eq]; unfold F0
  rw [impl_in.law, Option.bind_some]
  have : lib_Trim.impl (s, [97, 98, 99, 100, 101, 102, 103, 104, 105, 106, 107, 108, 109, 110, 111, 112, 113, 114, 115, 116, 117, 118, 119, 120, 121, 122], ()) = some (Lib.trimS s [97, 98, 99, 100, 101, 102, 103, 104, 105, 106, 107, 108, 109, 110, 111, 112, 113, 114, 115, 116, 117, 118, 119, 120, 121, 122], ()) := by
    show trimI _ = _
    unfold trimI
    rw [show (decide (s.length ≤ 9223372036854775807)) = true from decide_eq_true (by omega)]
    rfl
  rw [this, Option.bind_some, trim_az]
  unfold nameOk
  grind [in3]
end impl_nameOk
namespace slices_Contains_of
theorem law (xs : List (List UInt8)) (s : List UInt8) (hx : xs.length ≤ 1048576) : impl (xs, s, ()) = some (decide (goAt s 0 xs ≥ 0), ()) := by
  rw [impl_eq]; unfold F0
  rw [slices_Index_of.law _ _ hx]; rfl
end slices_Contains_of
/-- names, each once, behind those that were there -/
def namesGo (old : List (List UInt8)) : List (List UInt8) → Bool
  | [] => true
  | x :: r => nameOk x && (!decide (goAt x 0 old ≥ 0) && namesGo (old ++ [x]) r)
def namesOk (xs : List (List UInt8)) : Bool := decide (xs.length ≤ 5) && namesGo [] xs
theorem namesGo_mem : ∀ (xs old : List (List UInt8)), namesGo old xs = true → ∀ x ∈ xs, nameOk x = true
  | [], _, _, x, hx => by cases hx
  | y :: r, old, h, x, hx => by
    simp only [namesGo, Bool.and_eq_true] at h
    rcases List.mem_cons.1 hx with rfl | hx
    · exact h.1
    · exact namesGo_mem r _ h.2.2 x hx
theorem namesOk_mem {xs : List (List UInt8)} (h : namesOk xs = true) : xs.length ≤ 5 ∧ ∀ x ∈ xs, nameOk x = true := by
  simp only [namesOk, Bool.and_eq_true, decide_eq_true_eq] at h
  exact ⟨h.1, namesGo_mem xs [] h.2⟩
theorem nameOk_len {x : List UInt8} (h : nameOk x = true) : 1 ≤ x.length ∧ x.length ≤ 8 := by
  simp only [nameOk, Bool.and_eq_true, decide_eq_true_eq] at h
  exact ⟨h.1.2, h.2⟩
theorem take_snoc {α : Type} {xs : List α} {i : Nat} (d : α) (h : i < xs.length) : xs.take (i + 1) = xs.take i ++ [xs.getD i d] := by
  rw [List.take_add_one, List.getElem?_eq_getElem h, getD_eq h]; rfl
def szS (xs : List (List UInt8)) : Nat := (xs.map List.length).sum + xs.length
theorem szS_mem {xs : List (List UInt8)} {x : List UInt8} (h : x ∈ xs) : x.length + 1 ≤ szS xs := by
  unfold szS
  induction xs with
  | nil => cases h
  | cons y r ih =>
    simp only [List.map_cons, List.sum_cons, List.length_cons]
    rcases List.mem_cons.1 h with rfl | h
    · omega
    · have := ih h; omega
namespace spec_NamesValid
theorem law (xs : List (List UInt8)) (hx : szS xs ≤ 1048576) : impl (xs, ()) = some (namesOk xs, ()) := by
  have hl : xs.length ≤ 1048576 := by unfold szS at hx; omega
  rw [impl_eq]; unfold F0
  refine (up_list0 xs [] (fun i => L2 (xs, (i : Int), ())) (fun i r => some (namesGo (xs.take i) r && decide (xs.length ≤ 5), ())) ?_ ?_).trans (by simp [namesOk, Bool.and_comm])
  · rw [L2_eq]; unfold F2; rw [show decide ((xs.length : Int) ≤ 5) = decide (xs.length ≤ 5) from decide_eq_decide.2 (by omega)]; grind [namesGo]
  · intro i hi ih
    have hm := szS_mem (getD_mem (d := []) hi)
    rw [L2_eq]; unfold F2; rw [L4_eq]; unfold F4; simp (disch := omega) only [inb_nat, cast_lt, Int.toNat_natCast, wI_succ]
    rw [spec_l30Name.law _ (by omega), List.drop_zero, spec_l30At.law _ _ (by simp; omega)]
    rw [take_snoc [] hi] at ih
    grind [namesGo]
end spec_NamesValid
namespace impl_NamesValid
theorem law (xs : List (List UInt8)) (hx : szS xs ≤ 1048576) : impl (xs, ()) = some (namesOk xs, ()) := by
  have hl : xs.length ≤ 1048576 := by unfold szS at hx; omega
  rw [impl_eq]; unfold F0
  have h := up_list0 xs [] (fun i => L4 (xs, xs, (xs.length : Int), (i : Int), ())) (fun i r => some (namesGo (xs.take i) r, ())) (by
    rw [L4_eq]; unfold F4; grind [namesGo]) (by
    intro i hi ih
    have hm := szS_mem (getD_mem (d := []) hi)
    rw [L4_eq]; unfold F4; simp (disch := omega) only [inb_nat, cast_lt, Int.toNat_natCast, wI_succ]
    rw [impl_nameOk.law _ (by omega), List.drop_zero, slices_Contains_of.law _ _ (by simp; omega)]
    rw [take_snoc [] hi] at ih
    grind [namesGo])
  rw [List.take_zero] at h
  unfold namesOk
  grind
end impl_NamesValid
/-! ### lists of strings: size, copy, eq -/
namespace laws_szStringS
theorem law (xs : List (List UInt8)) (l : Nat) (hx : xs.length ≤ maxLen) (hm : ∀ x ∈ xs, x.length ≤ maxLen) (hl : l ≤ 1048576) : impl (xs, (l : Int), ()) = some (if (l : Int) - szS xs < 0 then -1 else (l : Int) - szS xs, ()) := by
  have hM : maxLen = 9223372036854775807 := by unfold maxLen; rfl
  rw [impl_eq]; unfold F0
  rw [wI_small (by omega) (by omega)]
  have key := up_list (S := Int) xs [] (fun _ l => 0 ≤ l ∧ l ≤ 1048576) (fun i l => L5 (xs, l, (i : Int), ())) (fun i r l => some (if l - ((r.map List.length).sum : Nat) < 0 then -1 else l - ((r.map List.length).sum : Nat), ())) (by
    intro s hs
    rw [L5_eq]; unfold F5; simp (disch := omega) only [inb_nat, cast_lt, Int.toNat_natCast, wI_succ]; simp; omega) (by
    intro i s hi hs ih
    have h1 := hm _ (getD_mem (d := []) hi)
    rw [L5_eq]; unfold F5; simp (disch := omega) only [inb_nat, cast_lt, Int.toNat_natCast, wI_succ]
    simp (disch := omega) only [List.map_cons, List.sum_cons, wI_small]
    by_cases h : s - ((xs.getD i []).length : Int) < 0
    · grind
    · have := ih (s - ((xs.getD i []).length : Int)) (by omega)
      grind)
  unfold szS
  by_cases h : (l : Int) - (xs.length : Int) < 0
  · grind
  · have h2 := key ((l : Int) - (xs.length : Int)) (by omega)
    have h3 : L5 (xs, (l : Int) - (xs.length : Int), 0, ()) = _ := h2
    grind
end laws_szStringS
namespace laws_toStringS
theorem law (xs : List (List UInt8)) (hx : xs.length ≤ 1048576) : impl (xs, ()) = some (xs, ()) := by
  rw [impl_eq]; unfold F0
  have : (decide (0 ≤ (xs.length : Int)) && decide ((xs.length : Int) ≤ (xs.length : Int)) && decide ((xs.length : Int) * 16 ≤ 140737488355328)) = true := by
    simp; omega
  rw [this, cond_true]
  have h := up_copy (R := PO) xs [] id (fun i r => L3 (xs, (i : Int), r, ())) (fun r => (r, ())) (fun i r hi hr => by
    show L3 _ = _
    rw [L3_eq]; unfold F3; simp (disch := omega) only [inb_nat, cast_lt, Int.toNat_natCast, wI_succ]; simp [hi, hr]) (fun r hr => by
    show L3 _ = _
    rw [L3_eq]; unfold F3
    simp) (List.replicate xs.length []) (by simp)
  simpa using h
end laws_toStringS
namespace laws_eqStringS
theorem law (xs ys : List (List UInt8)) (hx : xs.length ≤ 1048576) : impl (xs, ys, ()) = some (decide (xs = ys), ()) := by
  rw [impl_eq]; unfold F0
  by_cases hl : xs.length = ys.length
  · rw [show ((xs.length : Int) != (ys.length : Int)) = false by simp [hl], cond_false]
    have h := up_list0 xs [] (fun i => L4 (xs, ys, (i : Int), ())) (fun i r => some (decide (r = ys.drop i), ())) (by
      rw [L4_eq]; unfold F4; simp (disch := omega) only [inb_nat, cast_lt, Int.toNat_natCast, wI_succ]; simp [hl]) (by
      intro i hi ih
      have hj : i < ys.length := by omega
      rw [L4_eq]; unfold F4; simp (disch := omega) only [inb_nat, cast_lt, Int.toNat_natCast, wI_succ]; rw [L6_eq]; unfold F6; simp (disch := omega) only [inb_nat, cast_lt, Int.toNat_natCast, wI_succ]
      rw [drop_cons [] hj, decide_cons]
      grind)
    simpa using h
  · rw [show ((xs.length : Int) != (ys.length : Int)) = true by simp; omega, cond_true]
    have : xs ≠ ys := fun e => hl (by rw [e])
    simp [this]
end laws_eqStringS
/-! ### decimals -/
theorem itoa_len (n : Int) (h1 : -9223372036854775808 ≤ n) (h2 : n ≤ 9223372036854775807) : (Lib.itoa n).length ≤ 20 := by
  have h3 : ∀ (k u : Nat), u < 10 ^ (k + 1) → Lib.nDigits u ≤ k + 1 := by
    intro k
    induction k with
    | zero => intro u hu; rw [Lib.nDigits_small (by omega)]; omega
    | succ k ih =>
      intro u hu
      by_cases hs : u < 10
      · rw [Lib.nDigits_small hs]; omega
      · rw [Lib.nDigits_big hs]
        have := ih (u / 10) (by rw [Nat.pow_succ] at hu; omega)
        omega
  have key : ∀ u : Nat, u < 10 ^ 19 → (Lib.decDigits u).length ≤ 19 := fun u hu => by
    rw [Lib.decDigits_length]
    exact h3 18 u hu
  unfold Lib.itoa
  split
  · have := key n.natAbs (by omega)
    simp; omega
  · have := key n.toNat (by omega)
    omega
namespace spec_l40Dec
theorem dig (d : Nat) (h : d < 10) : strOf ([IntKind.u8.wrap (wI (48 + (d : Int)))] : List Int) = [UInt8.ofNat (48 + d)] := by
  have : ∀ d : Fin 10, strOf ([IntKind.u8.wrap (wI (48 + (d.val : Int)))] : List Int) = [UInt8.ofNat (48 + d.val)] := by decide +kernel
  exact this ⟨d, h⟩
theorem loop (G : PI → Option PO) : ∀ (k n : Nat) (acc : List UInt8), n < 10 ^ (k + 1) → n ≤ 9223372036854775807 → acc.length + k ≤ 1000 → L6 G ((n : Int), acc, ()) = some (Lib.decDigits n ++ acc, ())
  | k, n, acc, hn, hm, ha => by
    rw [L6_eq]; unfold F6
    by_cases h9 : n < 10
    · rw [decide_eq_false (show ¬ ((n : Int) > 9) by omega), cond_false, dig n h9, Lib.decDigits_one h9]
      rw [decide_eq_true (by simp; omega)]
      rfl
    · rw [decide_eq_true (show (n : Int) > 9 by omega), cond_true]
      have e1 : Int.tmod (n : Int) 10 = ((n % 10 : Nat) : Int) := rfl
      have e2 : wI (Int.tdiv (n : Int) 10) = ((n / 10 : Nat) : Int) := by
        rw [show Int.tdiv (n : Int) 10 = ((n / 10 : Nat) : Int) from rfl]
        exact wI_small (by omega) (by omega)
      rw [e1, e2, dig (n % 10) (by omega)]
      rw [decide_eq_true (by simp; omega), cond_true]
      match k, hn, ha with
      | 0, hn, _ => simp at hn; omega
      | k + 1, hn, ha =>
        rw [loop G k (n / 10) _ (by rw [Nat.pow_succ] at hn; omega) (by omega) (by simp; omega)]
        conv => rhs; rw [Lib.decDigits, dif_neg h9]
        simp
theorem pos (n : Int) (h0 : 0 ≤ n) (h2 : n ≤ 9223372036854775807) : impl (n, ()) = some (Lib.itoa n, ()) := by
  rw [impl_eq]; unfold F0
  rw [decide_eq_false (show ¬ n < -9223372036854775807 by omega), cond_false, decide_eq_false (show ¬ n < 0 by omega), cond_false]
  have := loop impl 19 n.toNat [] (by omega) (by omega) (by simp)
  rw [Int.toNat_of_nonneg h0] at this
  rw [this, Lib.itoa, if_neg (by omega), List.append_nil]
theorem law (n : Int) (h1 : -9223372036854775808 ≤ n) (h2 : n ≤ 9223372036854775807) : impl (n, ()) = some (Lib.itoa n, ()) := by
  by_cases h : n < 0
  · rw [impl_eq]; unfold F0
    by_cases hm : n < -9223372036854775807
    · rw [decide_eq_true hm, cond_true]
      have : n = -9223372036854775808 := by omega
      subst this
      have hd : Lib.decDigits 9223372036854775808 = [57, 50, 50, 51, 51, 55, 50, 48, 51, 54, 56, 53, 52, 55, 55, 53, 56, 48, 56] := by
        rw [Lib.decDigits_eq]; decide +kernel
      rw [Lib.itoa, if_pos (by omega), show (-9223372036854775808 : Int).natAbs = 9223372036854775808 from rfl, hd]
    · rw [decide_eq_false hm, cond_false, decide_eq_true h, cond_true]
      have e : wI (0 - n) = -n := by rw [wI_small (by omega) (by omega)]; omega
      rw [e, pos (-n) (by omega) (by omega), Option.bind_some]
      have hi : Lib.itoa (-n) = Lib.decDigits n.natAbs := by
        rw [Lib.itoa, if_neg (by omega)]
        congr 1
        omega
      have hl := itoa_len (-n) (by omega) (by omega)
      rw [decide_eq_true (show ([45] : List Nat).length + (Lib.itoa (-n)).length ≤ 140737488355328 by simp; omega), cond_true]
      rw [hi, Lib.itoa, if_pos h]
      rfl
  · exact pos n (by omega) h2
end spec_l40Dec
/-! ### numbers with a space between -/
def numsOk (xs : List Int) : Bool := xs.all fun x => in3 x (-9999) 9999
theorem all_range {α : Type} {xs : List α} {d : α} {p : α → Bool} : ((List.range' 0 xs.length).all fun i => p (xs.getD i d)) = xs.all p := by
  rw [Bool.eq_iff_iff, range_all, List.all_eq_true]
  constructor
  · intro h x hx
    obtain ⟨i, hi, rfl⟩ := List.getElem_of_mem hx
    have := h i hi
    rwa [getD_eq hi] at this
  · intro h i hi
    rw [getD_eq hi]
    exact h _ (List.getElem_mem hi)
namespace spec_l31Numbers
theorem law (xs : List Int) (hx : xs.length ≤ 1048576) : impl (xs, ()) = some (numsOk xs, ()) := by
  rw [impl_eq]; unfold F0
  have h := up_all (R := PO) (fun i => L2 (xs, (i : Int), ())) xs.length (fun i => in3 (xs.getD i 0) (-9999) 9999) (false, ()) (true, ()) (fun i hi => by
    show L2 _ = _
    rw [L2_eq]; unfold F2
    rw [lt_len, inb_true hi, wI_succ (by omega), Int.toNat_natCast]
    simp only [hi, decide_true, cond_true]
    rw [spec_l1In.law, Option.bind_some]
    cases in3 (xs.getD i 0) (-9999) 9999 <;> rfl) (by
    show L2 _ = _
    rw [L2_eq]; unfold F2; simp) xs.length 0 (by omega)
  rw [all_range (p := fun x => in3 x (-9999) 9999)] at h
  refine (show _ = _ from h).trans ?_
  unfold numsOk
  cases xs.all fun x => in3 x (-9999) 9999 <;> rfl
end spec_l31Numbers
theorem numsOk_iff {xs : List Int} : numsOk xs = true ↔ ∀ x ∈ xs, -9999 ≤ x ∧ x ≤ 9999 := by
  unfold numsOk
  rw [List.all_eq_true]
  exact ⟨fun h x hx => in3_iff.1 (h x hx), fun h x hx => in3_iff.2 (h x hx)⟩
theorem join_len {xs : List (List UInt8)} {b : Nat} (sep : List UInt8) (h : ∀ x ∈ xs, x.length ≤ b) : (Lib.join xs sep).length ≤ xs.length * (b + sep.length) := by
  have key : ∀ r : List (List UInt8), (∀ x ∈ r, x.length ≤ b) → (Lib.joinTail sep r).length ≤ r.length * (b + sep.length) := by
    intro r
    induction r with
    | nil => simp [Lib.joinTail]
    | cons y r ih =>
      intro hr
      have h1 := hr y (by simp)
      have h2 := ih fun z hz => hr z (by simp [hz])
      have e : Lib.joinTail sep (y :: r) = sep ++ y ++ Lib.joinTail sep r := by simp [Lib.joinTail]
      rw [e, List.length_append, List.length_append, List.length_cons, Nat.add_mul]
      omega
  cases xs with
  | nil => simp [Lib.join]
  | cons x r =>
    have h1 := h x (by simp)
    have h2 := key r fun z hz => h z (by simp [hz])
    rw [Lib.join_cons, List.length_append, List.length_cons, Nat.add_mul]
    omega
theorem join_law (xs : List (List UInt8)) (sep : List UInt8) (h1 : xs.length ≤ 140737488355328) (h2 : (Lib.join xs sep).length ≤ 140737488355328) : lib_Join.impl (xs, sep, ()) = some (Lib.join xs sep, ()) := by
  show joinI _ = _
  unfold joinI
  rw [show (decide (xs.length ≤ 140737488355328) && decide ((Lib.join xs sep).length ≤ 140737488355328)) = true by simp [h1, h2]]
  rfl
theorem itoa_law (n : Int) (h1 : -9223372036854775808 ≤ n) (h2 : n ≤ 9223372036854775807) : lib_Itoa.impl (n, ()) = some (Lib.itoa n, ()) := by
  show itoaI _ = _
  unfold itoaI
  rw [show (decide (-9223372036854775808 ≤ n) && decide (n ≤ 9223372036854775807)) = true by simp [h1, h2]]
  rfl
/-! ### a state's text -/
def pairs : List (List UInt8) → List Int → List (List UInt8)
  | x :: xs, n :: ns => (x ++ [61] ++ Lib.itoa n) :: pairs xs ns
  | _, _ => []
def stateText (names : List (List UInt8)) (state : List Int) : List UInt8 :=
  if namesOk names = true ∧ names.length = state.length ∧ state ≠ [] ∧ numsOk state = true then Lib.join (pairs names state) [32] else [45]
theorem pairs_length : ∀ (xs : List (List UInt8)) (ns : List Int), xs.length = ns.length → (pairs xs ns).length = ns.length
  | [], [], _ => rfl
  | _ :: xs, _ :: ns, h => by simpa [pairs] using pairs_length xs ns (by simpa using h)
  | [], _ :: _, h => by simp at h
  | _ :: _, [], h => by simp at h
theorem pairs_get : ∀ (xs : List (List UInt8)) (ns : List Int) (i : Nat), xs.length = ns.length → i < ns.length → (pairs xs ns).getD i [] = xs.getD i [] ++ [61] ++ Lib.itoa (ns.getD i 0)
  | _ :: xs, _ :: ns, 0, h, _ => rfl
  | _ :: xs, _ :: ns, i + 1, h, hi => by simpa [pairs] using pairs_get xs ns i (by simpa using h) (by simpa using hi)
  | [], [], _, _, hi => by simp at hi
  | [], _ :: _, _, h, _ => by simp at h
  | _ :: _, [], _, h, _ => by simp at h
theorem itoa_len9 {n : Int} (h1 : -9999 ≤ n) (h2 : n ≤ 9999) : (Lib.itoa n).length ≤ 20 := itoa_len n (by omega) (by omega)
theorem joinTail_cons (sep x : List UInt8) (r : List (List UInt8)) : Lib.joinTail sep (x :: r) = sep ++ x ++ Lib.joinTail sep r := by simp [Lib.joinTail]
namespace spec_StateText
theorem law (names : List (List UInt8)) (state : List Int) (hx : szS names ≤ 1048576) (hs : state.length ≤ 1048576) : impl (names, state, ()) = some (stateText names state, ()) := by
  rw [impl_eq]; unfold F0 stateText
  rw [spec_NamesValid.law _ hx, Option.bind_some]
  by_cases hn : namesOk names = true
  rotate_left
  · simp [hn]
  rw [spec_l31Numbers.law _ hs, Option.bind_some, L3_eq]; unfold F3
  by_cases hl : names.length = state.length
  rotate_left
  · have : ((names.length : Int) != (state.length : Int)) = true := by simp; omega
    simp [hn, hl, this]
  by_cases h0 : state = []
  · subst h0; simp [hn, hl]
  by_cases hk : numsOk state = true
  rotate_left
  · simp [hn, hl, h0, hk]
  obtain ⟨h5, hm⟩ := namesOk_mem hn
  have hnum := numsOk_iff.1 hk
  have hpl := pairs_length names state hl
  have key := up_list (S := List UInt8) (pairs names state) [] (fun i s => s.length ≤ i * 100 ∧ (i = 0 → s = [])) (fun i s => L5 (names, state, s, (i : Int), ())) (fun i r s => some (s ++ (if i = 0 then Lib.join r [32] else Lib.joinTail [32] r), ())) (by
    intro s hs
    rw [L5_eq]; unfold F5; rw [hpl]; simp (disch := omega) only [inb_nat, cast_lt, Int.toNat_natCast, wI_succ]
    simp [Lib.joinTail, Lib.join]) (by
    intro i s hi hs ih
    rw [hpl] at hi
    have h1 := nameOk_len (hm _ (getD_mem (d := []) (show i < names.length by omega)))
    have h2 := hnum _ (getD_mem (d := 0) hi)
    have h3 := itoa_len9 h2.1 h2.2
    have hp := pairs_get names state i hl hi
    rw [L5_eq]; unfold F5; simp (disch := omega) only [inb_nat, cast_lt, Int.toNat_natCast, wI_succ]
    rw [Lib.join_cons, joinTail_cons, hp]
    simp only [L9_eq, F9]; simp (disch := omega) only [inb_nat, cast_lt, Int.toNat_natCast, wI_succ]
    rw [spec_l40Dec.law _ (by omega) (by omega)]
    have h6 : i < names.length := by omega
    by_cases hi0 : i = 0
    · have hs0 := hs.2 hi0
      subst hi0 hs0
      have := ih (names.getD 0 [] ++ [61] ++ Lib.itoa (state.getD 0 0)) ⟨by simp only [List.length_append, List.length_cons, List.length_nil]; omega, by omega⟩
      simp at this ⊢
      grind
    · have := ih (s ++ [32] ++ names.getD i [] ++ [61] ++ Lib.itoa (state.getD i 0)) ⟨by simp only [List.length_append, List.length_cons, List.length_nil]; omega, by omega⟩
      simp at this ⊢
      grind)
  have h := key [] (by simp)
  have h' : L5 (names, state, [], 0, ()) = _ := h
  have e1 : ((names.length : Int) != (state.length : Int)) = false := by simp [hl]
  have e2 : ((state.length : Int) == 0) = false := by simpa using h0
  simp [hn, hl, h0, hk, e1, e2, h']
end spec_StateText
namespace impl_StateText
theorem law (names : List (List UInt8)) (state : List Int) (hx : szS names ≤ 1048576) (hs : state.length ≤ 1048576) : impl (names, state, ()) = some (stateText names state, ()) := by
  rw [impl_eq]; unfold F0 stateText
  rw [impl_NamesValid.law _ hx, Option.bind_some]
  by_cases hn : namesOk names = true
  rotate_left
  · simp [hn]
  rw [L3_eq]; unfold F3
  by_cases hl : names.length = state.length
  rotate_left
  · have : ((names.length : Int) != (state.length : Int)) = true := by simp; omega
    simp [hn, hl, this]
  by_cases h0 : state = []
  · subst h0; simp [hn, hl]
  obtain ⟨h5, hm⟩ := namesOk_mem hn
  have hpl := pairs_length names state hl
  have key := up_list (S := List (List UInt8)) state 0 (fun i acc => acc = (pairs names state).take i ∧ (∀ x ∈ acc, x.length ≤ 100) ∧ acc.length = i) (fun i acc => L5 (names, state, (state.length : Int), (i : Int), acc, ())) (fun i r acc => some (if numsOk r = true then Lib.join (pairs names state) [32] else [45], ())) (by
    intro acc hacc
    rw [L5_eq]; unfold F5; simp (disch := omega) only [inb_nat, cast_lt, Int.toNat_natCast, wI_succ]
    have : acc = pairs names state := by rw [hacc.1, ← hpl, List.take_length]
    subst this
    rw [join_law _ _ (by omega) (by have := join_len (b := 100) [32] hacc.2.1; simp at this; omega)]
    simp [numsOk]) (by
    intro i acc hi hacc ih
    rw [L5_eq]; unfold F5; simp (disch := omega) only [inb_nat, cast_lt, Int.toNat_natCast, wI_succ]
    rw [impl_in.law, Option.bind_some]
    have hk : numsOk (state.getD i 0 :: state.drop (i + 1)) = (in3 (state.getD i 0) (-9999) 9999 && numsOk (state.drop (i + 1))) := rfl
    cases hb : in3 (state.getD i 0) (-9999) 9999 with
    | false => rw [hk, hb]; simp [hi]
    | true =>
      have h2 := in3_iff.1 hb
      have h1 := nameOk_len (hm _ (getD_mem (d := []) (show i < names.length by omega)))
      have h3 := itoa_len9 h2.1 h2.2
      have hp := pairs_get names state i hl hi
      have h6 : i < names.length := by omega
      have ih' := ih (acc ++ [names.getD i [] ++ [61] ++ Lib.itoa (state.getD i 0)]) ⟨by rw [take_snoc [] (by omega), hp, ← hacc.1], fun x hx => by
        rcases List.mem_append.1 hx with hx | hx
        · exact hacc.2.1 x hx
        · rw [List.mem_singleton] at hx; subst hx; simp only [List.length_append, List.length_cons, List.length_nil]; omega, by simp only [List.length_append, List.length_cons, List.length_nil]; omega⟩
      simp only [hi, decide_true, cond_true, Bool.not_true, cond_false]
      rw [L9_eq]; unfold F9; simp (disch := omega) only [inb_nat, cast_lt, Int.toNat_natCast, wI_succ]
      rw [itoa_law _ (by omega) (by omega)]
      have h7 := hacc.2.2
      rw [hk, hb, Bool.true_and, ← ih']
      simp (disch := omega) only [decide_eq_true, decide_eq_false, cond_true, cond_false, Option.bind_some, Option.bind_none, List.length_append, List.length_cons, List.length_nil])
  have h := key [] (by simp)
  have h' : L5 (names, state, (state.length : Int), 0, [], ()) = _ := h
  have e1 : ((names.length : Int) != (state.length : Int)) = false := by simp [hl]
  have e2 : ((state.length : Int) == 0) = false := by simpa using h0
  simp [hn, hl, h0, e1, e2, h']
end impl_StateText
namespace laws_FnExactStateText
theorem law (names : List (List UInt8)) (state : List Int) (hw : (Ty.sl .str).wf names) (hs : state.length ≤ maxLen) : impl (names, state, ()) = some (true, ()) := by
  have hM : maxLen = 9223372036854775807 := by unfold maxLen; rfl
  rw [impl_eq]; unfold F0
  by_cases hbig : (state.length : Int) > 1048576
  · grind
  · have hl : state.length ≤ 1048576 := by omega
    have hz := laws_szStringS.law names 1048576 hw.1 hw.2 (by omega)
    rw [decide_eq_false hbig, cond_false]
    by_cases hn : ((1048576 : Nat) : Int) - szS names < 0
    · grind
    · have hx : szS names ≤ 1048576 := by omega
      have hx2 : names.length ≤ 1048576 := by unfold szS at hx; omega
      have hz' : laws_szStringS.impl (names, 1048576, ()) = _ := hz
      rw [hz', Option.bind_some]
      simp only [laws_toStringS.law _ hx2, laws_toIntS.law _ hl, Option.bind_some, spec_StateText.law _ _ hx hl, impl_StateText.law _ _ hx hl, laws_eqIntS.law _ _ hl, laws_eqStringS.law _ _ hx2]
      simp [hn]
end laws_FnExactStateText
end Go.Proofs.YtambmmpilakgoaaDoorB
