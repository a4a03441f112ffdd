/- The plain law: what the functions compute, in plain Lean. -/
import Derived.Test.YtambmmpilakgoaaDoorKFnExactReadList
import Derived.Test.YtambmmpilakgoaaDoorP0
set_option linter.unusedVariables false
set_option linter.unusedSimpArgs false
set_option maxRecDepth 10000
set_option synthInstance.maxSize 10000
set_option synthInstance.maxHeartbeats 400000
namespace Go.Proofs.YtambmmpilakgoaaDoorB
open Go
namespace spec_l1In
theorem law (x a b : Int) : impl (x, a, b, ()) = some (in3 x a b, ()) := by
  rw [impl_eq]; unfold F0
  rw [cond_ret]
  congr 2
  rw [Bool.eq_iff_iff, in3_iff]
  simp only [cond_iff, decide_eq_true_eq, Bool.false_eq_true, and_false, or_false]
end spec_l1In
namespace impl_in
theorem law (x a b : Int) : impl (x, a, b, ()) = some (in3 x a b, ()) := by
  rw [impl_eq]; unfold F0
  rw [cond_ret]
  congr 2
  rw [Bool.eq_iff_iff, in3_iff]
  simp only [cond_iff, decide_eq_true_eq, Bool.false_eq_true, and_false, or_false]
end impl_in
/-! ### lists of ints and of strings: copies, eq -/
namespace laws_eqIntS
theorem law (xs ys : List Int) (hx : xs.length ≤ 1048576) : impl (xs, ys, ()) = some (decide (xs = ys), ()) := by
  rw [impl_eq]; unfold F0
  by_cases hl : xs.length = ys.length
  · have : ((xs.length : Int) != (ys.length : Int)) = false := by simp [hl]
    rw [this, cond_false]
    have h := up_all (R := PO) (fun i => L4 (xs, ys, (i : Int), ())) xs.length (fun i => decide (xs.getD i 0 = ys.getD i 0)) (false, ()) (true, ()) (fun i hi => by
      show L4 _ = _
      rw [L4_eq]; unfold F4
      rw [lt_len]
      simp only [hi, decide_true, cond_true]
      rw [L6_eq]; unfold F6
      rw [inb_true hi, inb_true (by omega), wI_succ (by omega), Int.toNat_natCast]
      simp only [cond_true]
      by_cases he : xs.getD i 0 = ys.getD i 0
      · rw [show (xs.getD i 0 != ys.getD i 0) = false by rw [he]; simp, decide_eq_true he]; rfl
      · rw [show (xs.getD i 0 != ys.getD i 0) = true by simpa using he, decide_eq_false he]; rfl) (by
      show L4 _ = _
      rw [L4_eq]; unfold F4; simp) xs.length 0 (by omega)
    rw [eq_all hl] at h
    refine (show _ = _ from h).trans ?_
    cases decide (xs = ys) <;> rfl
  · have : ((xs.length : Int) != (ys.length : Int)) = true := by
      simp; omega
    rw [this, cond_true]
    have : xs ≠ ys := fun e => hl (by rw [e])
    simp [this]
end laws_eqIntS
/-! ### numbers as they are written -/
def isDig (c : UInt8) : Bool := decide (48 ≤ c.toNat) && decide (c.toNat ≤ 57)
def valD (l : List UInt8) : Nat := l.foldl (fun a c => a * 10 + (c.toNat - 48)) 0
def canon (l : List UInt8) : Bool := l.all isDig && (match l with | [] => false | c :: r => !(c == 48) || r.isEmpty)
theorem valD_snoc (l : List UInt8) (c : UInt8) : valD (l ++ [c]) = valD l * 10 + (c.toNat - 48) := by simp [valD]
theorem isDig_iff {c : UInt8} : isDig c = true ↔ 48 ≤ c.toNat ∧ c.toNat ≤ 57 := by simp [isDig]
theorem digs_dec (u : Nat) : (Lib.decDigits u).all isDig = true := by
  induction u using Nat.strongRecOn with
  | _ u ih =>
    rw [Lib.decDigits]
    split
    · rename_i h
      simp only [List.all_cons, List.all_nil, Bool.and_true, isDig_iff]
      have : (UInt8.ofNat (48 + u)).toNat = 48 + u := by simp; omega
      omega
    · rename_i h
      rw [List.all_append, ih (u / 10) (by omega)]
      simp only [List.all_cons, List.all_nil, Bool.and_true, Bool.true_and, isDig_iff]
      have : (UInt8.ofNat (48 + u % 10)).toNat = 48 + u % 10 := by simp; omega
      omega
theorem val_dec (u : Nat) : valD (Lib.decDigits u) = u := by
  induction u using Nat.strongRecOn with
  | _ u ih =>
    rw [Lib.decDigits]
    split
    · rename_i h
      have : (UInt8.ofNat (48 + u)).toNat = 48 + u := by simp; omega
      simp only [valD, List.foldl_cons, List.foldl_nil]
      omega
    · rename_i h
      have : (UInt8.ofNat (48 + u % 10)).toNat = 48 + u % 10 := by simp; omega
      rw [valD_snoc, ih (u / 10) (by omega)]
      omega
theorem dec_ne (u : Nat) : Lib.decDigits u ≠ [] := by
  rw [Lib.decDigits]
  split <;> simp
theorem head_dec (u : Nat) : ∀ c r, Lib.decDigits u = c :: r → u = 0 ∧ c = 48 ∧ r = [] ∨ 0 < u ∧ c ≠ 48 := by
  induction u using Nat.strongRecOn with
  | _ u ih =>
    intro c r h
    rw [Lib.decDigits] at h
    split at h
    · rename_i hu
      simp only [List.cons.injEq] at h
      obtain ⟨h1, h2⟩ := h
      by_cases h0 : u = 0
      · subst h0; left; exact ⟨rfl, h1.symm, h2.symm⟩
      · right
        refine ⟨by omega, fun e => ?_⟩
        rw [← h1] at e
        have : (UInt8.ofNat (48 + u)).toNat = 48 + u := by simp; omega
        rw [e] at this
        have h48 : (48 : UInt8).toNat = 48 := rfl
        omega
    · rename_i hu
      cases hd : Lib.decDigits (u / 10) with
      | nil => exact absurd hd (dec_ne _)
      | cons c' r' =>
        rw [hd] at h
        simp only [List.cons_append, List.cons.injEq] at h
        rcases ih (u / 10) (by omega) c' r' hd with ⟨h0, _⟩ | ⟨_, h1⟩
        · omega
        · right; exact ⟨by omega, by rw [← h.1]; exact h1⟩
theorem canon_dec (u : Nat) : canon (Lib.decDigits u) = true := by
  unfold canon
  rw [digs_dec, Bool.true_and]
  cases h : Lib.decDigits u with
  | nil => exact absurd h (dec_ne _)
  | cons c r =>
    rcases head_dec u c r h with ⟨_, _, h1⟩ | ⟨_, h1⟩
    · subst h1; simp
    · simp [h1]
theorem dec_val_aux : ∀ (n : Nat) (l : List UInt8), l.length = n → l.all isDig = true → (∀ c r, l = c :: r → c ≠ 48) → l ≠ [] → Lib.decDigits (valD l) = l ∧ 1 ≤ valD l := by
  intro n
  induction n with
  | zero => intro l hl _ _ hn; exact absurd (List.length_eq_zero_iff.1 hl) hn
  | succ n ih =>
    intro l hl hd hh hn
    obtain ⟨p, c, rfl⟩ : ∃ p c, l = p ++ [c] := ⟨l.dropLast, l.getLast hn, (List.dropLast_concat_getLast hn).symm⟩
    rw [List.all_append, Bool.and_eq_true] at hd
    have hc := isDig_iff.1 (show isDig c = true by simpa using hd.2)
    have hco : UInt8.ofNat c.toNat = c := by simp
    rw [valD_snoc]
    cases p with
    | nil =>
      have hc0 : c ≠ 48 := hh c [] rfl
      have : c.toNat ≠ 48 := fun e => hc0 (by rw [← hco, e]; rfl)
      have e0 : valD [] = 0 := rfl
      rw [e0, Lib.decDigits, dif_pos (by omega)]
      refine ⟨?_, by omega⟩
      rw [show 48 + (0 * 10 + (c.toNat - 48)) = c.toNat by omega, hco]; rfl
    | cons a p =>
      have hl' : (a :: p).length = n := by simpa using hl
      obtain ⟨h1, h2⟩ := ih (a :: p) hl' hd.1 (fun c' r' e => hh c' (r' ++ [c]) (by rw [e]; rfl)) (by simp)
      refine ⟨?_, by omega⟩
      rw [Lib.decDigits, dif_neg (by omega), show (valD (a :: p) * 10 + (c.toNat - 48)) / 10 = valD (a :: p) by omega, h1, show 48 + (valD (a :: p) * 10 + (c.toNat - 48)) % 10 = c.toNat by omega, hco]
theorem dec_val {l : List UInt8} (h : canon l = true) : Lib.decDigits (valD l) = l := by
  unfold canon at h
  rw [Bool.and_eq_true] at h
  cases l with
  | nil => simp at h
  | cons c r =>
    by_cases hc : c = 48
    · subst hc
      have : r = [] := by simpa using h.2
      subst this
      rw [Lib.decDigits]; rfl
    · exact (dec_val_aux _ _ rfl h.1 (fun c' r' e => by simp only [List.cons.injEq] at e; rw [← e.1]; exact hc) (by simp)).1
/-- the number, if it is written as it must be and is in bounds -/
def numT (s : List UInt8) : Option Int := match s with
  | 45 :: r => if canon r = true ∧ r ≠ [48] ∧ valD r ≤ 9999 then some (-(valD r : Int)) else none
  | s => if canon s = true ∧ valD s ≤ 9999 then some (valD s : Int) else none
theorem numT_itoa {n : Int} (h1 : -9999 ≤ n) (h2 : n ≤ 9999) : numT (Lib.itoa n) = some n := by
  unfold Lib.itoa
  split
  · rename_i h
    have hne : Lib.decDigits n.natAbs ≠ [48] := fun e => by
      rcases head_dec n.natAbs 48 [] e with ⟨h0, _⟩ | ⟨_, h0⟩
      · omega
      · exact h0 rfl
    simp only [numT, canon_dec, val_dec, hne, ne_eq, not_false_eq_true, true_and]
    rw [if_pos (by omega)]
    congr 1; omega
  · rename_i h
    have hd := digs_dec n.toNat
    have hc := canon_dec n.toNat
    have hv := val_dec n.toNat
    cases hl : Lib.decDigits n.toNat with
    | nil => exact absurd hl (dec_ne _)
    | cons c r =>
      rw [hl] at hd hc hv
      have hc45 : c ≠ 45 := by
        rintro rfl
        simp only [List.all_cons, Bool.and_eq_true] at hd
        have := isDig_iff.1 hd.1
        have h45 : (45 : UInt8).toNat = 45 := rfl
        omega
      unfold numT
      split
      · rename_i e; simp only [List.cons.injEq] at e; exact absurd e.1 hc45
      · rw [hc, hv, if_pos ⟨rfl, by omega⟩]; congr 1; omega
theorem numT_some {s : List UInt8} {n : Int} (h : numT s = some n) : Lib.itoa n = s ∧ -9999 ≤ n ∧ n ≤ 9999 := by
  unfold numT at h
  split at h
  · rename_i r
    split at h
    · rename_i hr
      obtain ⟨hc, h0, hv⟩ := hr
      simp only [Option.some.injEq] at h
      subst h
      have hp : 1 ≤ valD r := by
        rcases Nat.eq_zero_or_pos (valD r) with e | e
        · have := dec_val hc
          rw [e, Lib.decDigits_one (by omega)] at this
          exact absurd this.symm h0
        · exact e
      refine ⟨?_, by omega, by omega⟩
      rw [Lib.itoa, if_pos (by omega), show (-(valD r : Int)).natAbs = valD r by omega, dec_val hc]
    · cases h
  · split at h
    · rename_i hr
      simp only [Option.some.injEq] at h
      subst h
      refine ⟨?_, by omega, by omega⟩
      rw [Lib.itoa, if_neg (by omega), Int.toNat_natCast, dec_val hr.1]
    · cases h
/-! what Atoi makes of it -/
theorem parse_digs : ∀ (l : List UInt8) (acc : Nat), l.all isDig = true → l.foldl (fun a c => a * 10 + (c.toNat - 48)) acc < 1844674407370955162 → acc ≤ l.foldl (fun a c => a * 10 + (c.toNat - 48)) acc ∧ Lib.parseUint10 acc l = .ok (l.foldl (fun a c => a * 10 + (c.toNat - 48)) acc)
  | [], acc, _, _ => ⟨Nat.le_refl _, rfl⟩
  | c :: r, acc, hd, hv => by
    simp only [List.all_cons, Bool.and_eq_true] at hd
    have hc := isDig_iff.1 hd.1
    simp only [List.foldl_cons] at hv ⊢
    obtain ⟨h1, h2⟩ := parse_digs r _ hd.2 hv
    refine ⟨by omega, ?_⟩
    rw [Lib.parseUint10, if_pos hc, if_neg (by omega), if_neg (by omega), h2]
theorem parseMag_canon {l : List UInt8} (h : canon l = true) (hv : valD l ≤ 9999) : Lib.parseMag l = .ok (valD l) := by
  unfold canon at h
  rw [Bool.and_eq_true] at h
  unfold Lib.parseMag
  rw [if_neg (by rintro rfl; simp at h)]
  exact (parse_digs l 0 h.1 (by unfold valD at hv; omega)).2
theorem atoi_numT {s : List UInt8} {n : Int} (h : numT s = some n) : Lib.atoiAll s = .ok n := by
  unfold numT at h
  split at h
  · rename_i r
    split at h
    · rename_i hr
      simp only [Option.some.injEq] at h
      subst h
      unfold Lib.atoiAll
      simp only [show (45 : UInt8).toNat = 45 from rfl, or_true, if_true, parseMag_canon hr.1 hr.2.2]
      rw [if_neg (by simp), if_neg (by omega)]
    · cases h
  · rename_i h45
    split at h
    · rename_i hr
      simp only [Option.some.injEq] at h
      subst h
      cases s with
      | nil => simp [canon] at hr
      | cons c r =>
        have hc := hr.1
        unfold canon at hc
        simp only [List.all_cons, Bool.and_eq_true] at hc
        have := isDig_iff.1 hc.1.1
        have hv := hr.2
        unfold Lib.atoiAll
        simp only [show ¬ c.toNat = 43 by omega, show ¬ c.toNat = 45 by omega, or_self, if_false, parseMag_canon hr.1 hr.2, not_false_eq_true, true_and, false_and]
        rw [if_neg (by omega)]
    · cases h
theorem atoi_bound {s : List UInt8} {v : Int} (h : Lib.atoiAll s = .ok v) : -9223372036854775808 ≤ v ∧ v ≤ 9223372036854775807 := by
  cases s with
  | nil => cases h
  | cons c r =>
    unfold Lib.atoiAll at h
    simp only at h
    rcases hm : Lib.parseMag (if c.toNat = 43 ∨ c.toNat = 45 then r else c :: r) with u | _ | _
    · rw [hm] at h
      simp only at h
      split at h
      · cases h
      · split at h
        · cases h
        · simp only [Lib.NumEnd.ok.injEq] at h
          subst h
          split <;> omega
    · rw [hm] at h; cases h
    · rw [hm] at h; cases h
/-! ### a text cut at each byte of a kind -/
def cutAt (c : UInt8) : List UInt8 → List (List UInt8)
  | [] => [[]]
  | b :: l => if b = c then [] :: cutAt c l else match cutAt c l with
    | [] => [[b]]
    | p :: ps => (b :: p) :: ps
theorem cutAt_ne (c : UInt8) (s : List UInt8) : cutAt c s ≠ [] := by
  cases s with
  | nil => simp [cutAt]
  | cons b l =>
    unfold cutAt
    split
    · simp
    · split <;> simp
theorem index_one_cons (b c : UInt8) (l : List UInt8) : Lib.index (b :: l) [c] = if b = c then 0 else if Lib.index l [c] = -1 then -1 else Lib.index l [c] + 1 := by
  rw [Lib.index]
  by_cases h : b = c
  · subst h; simp
  · have : ¬ c = b := fun e => h e.symm
    simp [h, this]
theorem split_cut (c : UInt8) : ∀ (s : List UInt8) (k : Nat), Lib.count s [c] ≤ k → Lib.splitK [c] 0 k s = cutAt c s
  | [], 0, _ => rfl
  | [], k + 1, _ => by simp [Lib.splitK, Lib.index, cutAt]
  | b :: l, k, hk => by
    by_cases h : b = c
    · subst h
      rw [Lib.count_cons_eq] at hk
      obtain ⟨k, rfl⟩ : ∃ k', k = k' + 1 := ⟨k - 1, by omega⟩
      have := split_cut b l k (by omega)
      rw [Lib.splitK, index_one_cons]
      simp [cutAt, this]
    · rw [Lib.count_cons_ne b c l h] at hk
      have ih := split_cut c l k hk
      rw [cutAt, if_neg h, ← ih]
      cases k with
      | zero => simp [Lib.splitK]
      | succ k =>
        rw [Lib.splitK, index_one_cons, if_neg h, Lib.splitK]
        by_cases hi : Lib.index l [c] = -1
        · simp [hi]
        · have := Lib.index_ge l [c]
          have hn : ¬ Lib.index l [c] + 1 = -1 := by omega
          simp only [hi, if_false, beq_iff_eq, hn, List.length_cons, List.length_nil, Nat.add_zero]
          rw [show (Lib.index l [c] + 1).toNat = (Lib.index l [c]).toNat + 1 by omega, show (Lib.index l [c]).toNat + 1 + (0 + 1) = (Lib.index l [c]).toNat + (0 + 1) + 1 by omega]
          simp
theorem split_one (c : UInt8) (s : List UInt8) : Lib.split s [c] = cutAt c s := split_cut c s _ (Nat.le_refl _)
theorem cutAt_pre (c : UInt8) : ∀ (p : List UInt8) (r : List UInt8), (∀ b ∈ p, b ≠ c) → cutAt c (p ++ r) = match cutAt c r with
    | [] => [p]
    | q :: qs => (p ++ q) :: qs
  | [], r, _ => by
    cases h : cutAt c r with
    | nil => exact absurd h (cutAt_ne c r)
    | cons q qs => simp [h]
  | b :: p, r, hp => by
    have hb := hp b (by simp)
    rw [List.cons_append, cutAt, if_neg hb, cutAt_pre c p r fun x hx => hp x (by simp [hx])]
    cases h : cutAt c r with
    | nil => exact absurd h (cutAt_ne c r)
    | cons q qs => rfl
theorem cutAt_none {c : UInt8} {p : List UInt8} (hp : ∀ b ∈ p, b ≠ c) : cutAt c p = [p] := by
  have := cutAt_pre c p [] hp
  simpa [cutAt] using this
theorem cutAt_sep {c : UInt8} {p r : List UInt8} (hp : ∀ b ∈ p, b ≠ c) : cutAt c (p ++ c :: r) = p :: cutAt c r := by
  rw [cutAt_pre c p _ hp, cutAt, if_pos rfl]
  simp
theorem cutAt_count (c : UInt8) : ∀ s : List UInt8, (cutAt c s).length = s.count c + 1
  | [] => rfl
  | b :: l => by
    have ih := cutAt_count c l
    unfold cutAt
    by_cases h : b = c
    · subst h; simp [ih]
    · rw [if_neg h, List.count_cons_of_ne h]
      cases hc : cutAt c l with
      | nil => exact absurd hc (cutAt_ne c l)
      | cons q qs => rw [hc] at ih; simpa using ih
theorem cutAt_length (c : UInt8) (s : List UInt8) : (cutAt c s).length ≤ s.length + 1 := by
  rw [cutAt_count]
  have := List.count_le_length (a := c) (l := s)
  omega
theorem cutAt_mem (c : UInt8) : ∀ (s : List UInt8), ∀ w ∈ cutAt c s, w.length ≤ s.length ∧ ∀ b ∈ w, b ≠ c
  | [], w, hw => by simp [cutAt] at hw; subst hw; simp
  | b :: l, w, hw => by
    have ih := cutAt_mem c l
    unfold cutAt at hw
    by_cases h : b = c
    · rw [if_pos h] at hw
      rcases List.mem_cons.1 hw with rfl | hw
      · simp
      · have := ih w hw; exact ⟨by simp; omega, this.2⟩
    · rw [if_neg h] at hw
      cases hc : cutAt c l with
      | nil => exact absurd hc (cutAt_ne c l)
      | cons q qs =>
        rw [hc] at hw ih
        rcases List.mem_cons.1 hw with rfl | hw
        · have := ih q (by simp)
          refine ⟨by simp; omega, fun x hx => ?_⟩
          rcases List.mem_cons.1 hx with rfl | hx
          · exact h
          · exact this.2 x hx
        · have := ih w (by simp [hw]); exact ⟨by simp; omega, this.2⟩
/-! ### cut off what is of some kind -/
theorem trim_empty {s cs : List UInt8} : Lib.trimS s cs = [] ↔ ∀ b ∈ s, cs.contains b = true := by
  unfold Lib.trimS Lib.trimLeftS Lib.trimRightS
  have key : ∀ l : List UInt8, l.dropWhile (cs.contains ·) = [] ↔ ∀ b ∈ l, cs.contains b = true := by
    intro l
    induction l with
    | nil => simp
    | cons b l ih =>
      rw [List.dropWhile_cons]
      by_cases h : cs.contains b = true
      · rw [if_pos h, ih, List.forall_mem_cons]; exact ⟨fun a => ⟨h, a⟩, fun a => a.2⟩
      · rw [if_neg h, List.forall_mem_cons]; exact ⟨fun a => (by cases a), fun a => absurd a.1 h⟩
  rw [key]
  constructor
  · intro h b hb
    by_cases hc : cs.contains b = true
    · exact hc
    · have h2 : (s.reverse.dropWhile (cs.contains ·)) = [] := by
        cases hd : s.reverse.dropWhile (cs.contains ·) with
        | nil => rfl
        | cons x xs =>
          have hx : ¬ cs.contains x = true := by
            have := List.head_dropWhile_not (cs.contains ·) (l := s.reverse) (by rw [hd]; simp)
            simp only [hd, List.head_cons] at this
            simpa using this
          exact absurd (h x (by rw [hd]; simp)) hx
      exact (key s.reverse).1 h2 b (by simpa using hb)
  · intro h b hb
    have := List.mem_reverse.1 hb
    exact h b (by simpa using List.dropWhile_sublist _ |>.subset this)
/-! ### loops over a list -/
theorem drop_cons {α : Type} {xs : List α} {i : Nat} (d : α) (h : i < xs.length) : xs.drop i = xs.getD i d :: xs.drop (i + 1) := by
  rw [List.drop_eq_getElem_cons h, getD_eq h]
/-- a loop that goes up along a list, and what it computes along what is left -/
theorem up_list {α S R : Type} (xs : List α) (d : α) (I : Nat → S → Prop) (L : Nat → S → Option R) (g : Nat → List α → S → Option R)
    (hn : ∀ s, I xs.length s → L xs.length s = g xs.length [] s)
    (hc : ∀ i s, i < xs.length → I i s → (∀ s', I (i + 1) s' → L (i + 1) s' = g (i + 1) (xs.drop (i + 1)) s') → L i s = g i (xs.getD i d :: xs.drop (i + 1)) s) :
    ∀ s, I 0 s → L 0 s = g 0 xs s := by
  have key : ∀ k i s, i + k = xs.length → I i s → L i s = g i (xs.drop i) s := by
    intro k
    induction k with
    | zero =>
      intro i s hi hI
      have : i = xs.length := by omega
      subst this
      rw [List.drop_length]
      exact hn s hI
    | succ k ih =>
      intro i s hi hI
      rw [drop_cons d (by omega)]
      exact hc i s (by omega) hI fun s' hI' => ih (i + 1) s' (by omega) hI'
  intro s hI
  have := key xs.length 0 s (by omega) hI
  rwa [List.drop_zero] at this
theorem inb_eq (i : Int) (n : Nat) : inb i n = (decide (0 ≤ i) && decide (i < n)) := rfl
theorem cast_lt (i n : Nat) : decide ((i : Int) < (n : Int)) = decide (i < n) := by simp
theorem up_list0 {α R : Type} (xs : List α) (d : α) (L : Nat → Option R) (g : Nat → List α → Option R) (hn : L xs.length = g xs.length [])
    (hc : ∀ i, i < xs.length → L (i + 1) = g (i + 1) (xs.drop (i + 1)) → L i = g i (xs.getD i d :: xs.drop (i + 1))) : L 0 = g 0 xs :=
  up_list (S := Unit) xs d (fun _ _ => True) (fun i _ => L i) (fun i r _ => g i r) (fun _ _ => hn) (fun i _ hi _ ih => hc i hi (ih () trivial)) () trivial
theorem decide_cons {α : Type} [DecidableEq α] (a b : α) (x y : List α) : decide (a :: x = b :: y) = (decide (a = b) && decide (x = y)) := by
  rw [Bool.eq_iff_iff]; simp
theorem bne_dec {α : Type} [DecidableEq α] (a b : α) : (a != b) = !decide (a = b) := by
  by_cases h : a = b <;> simp [h]
theorem isEmpty_len {α : Type} (xs : List α) : ((xs.length : Int) == 0) = xs.isEmpty := by cases xs <;> simp <;> omega
theorem pos_len {α : Type} (xs : List α) : decide ((xs.length : Int) > 0) = !xs.isEmpty := by cases xs <;> simp <;> omega
theorem take_snoc {α : Type} {xs : List α} {i : Nat} (d : α) (h : i < xs.length) : xs.take (i + 1) = xs.take i ++ [xs.getD i d] := by
  rw [List.take_add_one, List.getElem?_eq_getElem h, getD_eq h]; rfl
theorem lit_wf {n : Int} (h : (Lit.int .i64 n).wf = true) : -9223372036854775808 ≤ n ∧ n ≤ 9223372036854775807 := by
  simp only [Lit.wf, Bool.and_eq_true, decide_eq_true_eq] at h
  exact ⟨h.1, h.2⟩
/-- the first of a kind -/
def goIdx {α : Type} (p : α → Bool) : Nat → List α → Int
  | _, [] => -1
  | i, x :: r => bif p x then (i : Int) else goIdx p (i + 1) r
theorem goIdx_cons {α : Type} (p : α → Bool) (i : Nat) (x : α) (r : List α) : goIdx p i (x :: r) = bif p x then (i : Int) else goIdx p (i + 1) r := rfl
theorem goIdx_any {α : Type} (p : α → Bool) : ∀ (r : List α) (i : Nat), decide (goIdx p i r ≥ 0) = r.any p
  | [], _ => rfl
  | x :: r, i => by
    unfold goIdx
    rw [List.any_cons, ← goIdx_any p r (i + 1)]
    cases p x with
    | true => simp
    | false => rfl
theorem any_not {α : Type} (p : α → Bool) (r : List α) : (!r.any fun x => !p x) = r.all p := by
  induction r with
  | nil => rfl
  | cons x r ih => rw [List.any_cons, List.all_cons, ← ih]; cases p x <;> rfl
theorem itoa_law (n : Int) (h1 : -9223372036854775808 ≤ n) (h2 : n ≤ 9223372036854775807) : lib_Itoa.impl (n, ()) = some (Lib.itoa n, ()) := by
  show itoaI _ = _
  unfold itoaI
  rw [show (decide (-9223372036854775808 ≤ n) && decide (n ≤ 9223372036854775807)) = true by simp [h1, h2]]
  rfl
/-! ### numbers with a space between -/
def numsOk (xs : List Int) : Bool := xs.all fun x => in3 x (-9999) 9999
theorem all_range {α : Type} {xs : List α} {d : α} {p : α → Bool} : ((List.range' 0 xs.length).all fun i => p (xs.getD i d)) = xs.all p := by
  rw [Bool.eq_iff_iff, range_all, List.all_eq_true]
  constructor
  · intro h x hx
    obtain ⟨i, hi, rfl⟩ := List.getElem_of_mem hx
    have := h i hi
    rwa [getD_eq hi] at this
  · intro h i hi
    rw [getD_eq hi]
    exact h _ (List.getElem_mem hi)
namespace spec_l31Numbers
theorem law (xs : List Int) (hx : xs.length ≤ 1048576) : impl (xs, ()) = some (numsOk xs, ()) := by
  rw [impl_eq]; unfold F0
  have h := up_all (R := PO) (fun i => L2 (xs, (i : Int), ())) xs.length (fun i => in3 (xs.getD i 0) (-9999) 9999) (false, ()) (true, ()) (fun i hi => by
    show L2 _ = _
    rw [L2_eq]; unfold F2
    rw [lt_len, inb_true hi, wI_succ (by omega), Int.toNat_natCast]
    simp only [hi, decide_true, cond_true]
    rw [spec_l1In.law, Option.bind_some]
    cases in3 (xs.getD i 0) (-9999) 9999 <;> rfl) (by
    show L2 _ = _
    rw [L2_eq]; unfold F2; simp) xs.length 0 (by omega)
  rw [all_range (p := fun x => in3 x (-9999) 9999)] at h
  refine (show _ = _ from h).trans ?_
  unfold numsOk
  cases xs.all fun x => in3 x (-9999) 9999 <;> rfl
end spec_l31Numbers
theorem numsOk_iff {xs : List Int} : numsOk xs = true ↔ ∀ x ∈ xs, -9999 ≤ x ∧ x ≤ 9999 := by
  unfold numsOk
  rw [List.all_eq_true]
  exact ⟨fun h x hx => in3_iff.1 (h x hx), fun h x hx => in3_iff.2 (h x hx)⟩
/-! ### numbers are read -/
theorem nDig_le : ∀ (k u : Nat), u < 10 ^ (k + 1) → Lib.nDigits u ≤ k + 1 := by
  intro k
  induction k with
  | zero => intro u hu; rw [Lib.nDigits_small (by omega)]; omega
  | succ k ih =>
    intro u hu
    by_cases hs : u < 10
    · rw [Lib.nDigits_small hs]; omega
    · rw [Lib.nDigits_big hs]
      have := ih (u / 10) (by rw [Nat.pow_succ] at hu; omega)
      omega
theorem canon_len {l : List UInt8} (h : canon l = true) (hv : valD l ≤ 9999) : l.length ≤ 4 := by
  have := dec_val h
  rw [← this, Lib.decDigits_length]
  exact nDig_le 3 _ (by omega)
def foldD (acc : Nat) (l : List UInt8) : Nat := l.foldl (fun a c => a * 10 + (c.toNat - 48)) acc
theorem u8_sub {c : UInt8} (h : isDig c = true) : wI (IntKind.u8.wrap ((c.toNat : Int) - 48)) = ((c.toNat - 48 : Nat) : Int) := by
  have : ∀ n : Fin 10, wI (IntKind.u8.wrap (((n.val + 48 : Nat) : Int) - 48)) = ((n.val : Nat) : Int) := by decide +kernel
  have hd := isDig_iff.1 h
  have h1 := this ⟨c.toNat - 48, by omega⟩
  simp only at h1
  rw [show c.toNat - 48 + 48 = c.toNat by omega] at h1
  exact h1
namespace spec_l40Num
theorem loop (t : List UInt8) (neg : Bool) (ht : t.length ≤ 17) : L8 (t, neg, 0, 0, ()) = some (if t.all isDig = true then (if neg then -(valD t : Int) else (valD t : Int), true, ()) else (0, false, ())) := by
  refine up_list (S := Nat) t 0 (fun i a => a < 10 ^ i) (fun i a => L8 (t, neg, (a : Int), (i : Int), ())) (fun i r a => some (if r.all isDig = true then (if neg then -(foldD a r : Int) else (foldD a r : Int), true, ()) else (0, false, ()))) ?_ ?_ 0 (by decide)
  · intro a ha
    have h17 : 10 ^ t.length ≤ 10 ^ 17 := Nat.pow_le_pow_right (by decide) ht
    rw [L8_eq]; unfold F8; simp (disch := omega) only [inb_nat, cast_lt, Int.toNat_natCast, wI_succ]
    rw [decide_eq_false (Nat.lt_irrefl _), cond_false, wI_small (n := 0 - (a : Int)) (by omega) (by omega)]
    cases neg
    · simp [foldD]
    · simp [foldD]
  · intro i a hi ha ih
    have h17 : 10 ^ i ≤ 10 ^ 17 := Nat.pow_le_pow_right (by decide) (by omega)
    rw [L8_eq]; unfold F8; simp (disch := omega) only [inb_nat, cast_lt, Int.toNat_natCast, wI_succ]
    rw [decide_eq_true hi, cond_true, cond_true, cond_true]
    rw [List.all_cons]
    obtain ⟨c, hc⟩ : ∃ c, t.getD i 0 = c := ⟨_, rfl⟩
    simp only [hc]
    cases hd : isDig c with
    | false =>
      have : ¬ (48 ≤ c.toNat ∧ c.toNat ≤ 57) := fun h => by rw [isDig_iff.2 h] at hd; cases hd
      by_cases h1 : c.toNat < 48
      · rw [decide_eq_true (by omega)]; simp
      · rw [decide_eq_false (by omega), decide_eq_true (by omega)]; simp
    | true =>
      have h1 := isDig_iff.1 hd
      rw [decide_eq_false (by omega), cond_false, decide_eq_false (by omega), cond_false, L12_eq]; unfold F12; simp (disch := omega) only [inb_nat, cast_lt, Int.toNat_natCast, wI_succ]
      rw [hc, u8_sub hd, decide_eq_true hi, cond_true, wI_small (n := (a : Int) * 10) (by omega) (by omega), wI_small (by omega) (by omega)]
      rw [show (a : Int) * 10 + ((c.toNat - 48 : Nat) : Int) = ((a * 10 + (c.toNat - 48) : Nat) : Int) by omega, ih _ (by rw [Nat.pow_succ]; omega)]
      rfl
theorem mid (t : List UInt8) (neg : Bool) : L4 (t, neg, ()) = some (if canon t = true ∧ t.length ≤ 17 ∧ ¬ (neg = true ∧ t = [48]) then (if neg then -(valD t : Int) else (valD t : Int), true, ()) else (0, false, ())) := by
  rw [L4_eq]; unfold F4
  cases t with
  | nil => simp [canon]
  | cons c r =>
    rw [isEmpty_len]
    simp only [List.isEmpty_cons, cond_false]
    by_cases hl : (c :: r).length ≤ 17
    rotate_left
    · rw [decide_eq_true (show ((c :: r).length : Int) > 17 by omega)]; simp; intro _ h; simp at hl; omega
    rw [decide_eq_false (show ¬ ((c :: r).length : Int) > 17 by omega), cond_false, inb_int (i := 0) (n := (c :: r).length) (by omega) (by simp), cond_true]
    have hl6 : L6 (c :: r, neg, ()) = some (if (c :: r).all isDig = true then (if neg then -(valD (c :: r) : Int) else (valD (c :: r) : Int), true, ()) else (0, false, ())) := by
      rw [L6_eq]; unfold F6; exact loop _ _ hl
    have e0 : (c :: r).getD 0 0 = c := rfl
    rw [e0, hl6]
    by_cases hc : c = 48
    · subst hc
      rw [show (((48 : UInt8).toNat : Int) == 48) = true from rfl, cond_true]
      cases r with
      | nil =>
        have hk : canon [48] = true := by decide
        have hd : ([48] : List UInt8).all isDig = true := by decide
        rw [decide_eq_false (by simp), cond_false]
        cases neg
        · simp [hk, hd]
        · simp [hk]
      | cons d r =>
        rw [decide_eq_true (by simp; omega), cond_true]
        have hk : canon (48 :: d :: r) = false := by simp [canon]
        simp [hk]
    · have : (((c.toNat : Int)) == 48) = false := by
        rw [beq_eq_false_iff_ne]
        intro e
        apply hc
        have : c.toNat = 48 := by omega
        rw [← UInt8.toNat_inj]; exact this
      rw [this, cond_false]
      have hk : canon (c :: r) = (c :: r).all isDig := by simp [canon, hc]
      have hne : c :: r ≠ [48] := fun e => hc (by simp at e; exact e.1)
      rw [hk]
      simp only [hl, hne, and_false, not_false_eq_true, and_true]
/-- what is said: a number in bounds, as it must be written, or not -/
theorem law (s : List UInt8) : ∃ n ok, impl (s, ()) = some (n, ok, ()) ∧ (ok && in3 n (-9999) 9999) = (numT s).isSome ∧ ∀ v, numT s = some v → n = v := by
  rw [impl_eq]; unfold F0
  have plain : ∀ t : List UInt8, (∀ r, t ≠ 45 :: r) → ∃ n ok, L4 (t, false, ()) = some (n, ok, ()) ∧ (ok && in3 n (-9999) 9999) = (numT t).isSome ∧ ∀ v, numT t = some v → n = v := by
    intro t ht
    rw [mid]
    have hn : numT t = if canon t = true ∧ valD t ≤ 9999 then some (valD t : Int) else none := by
      unfold numT
      split
      · rename_i r; exact absurd rfl (ht r)
      · rfl
    rw [hn]
    by_cases hc : canon t = true
    · by_cases hv : valD t ≤ 9999
      · have := canon_len hc hv
        refine ⟨_, _, by rw [if_pos ⟨hc, by omega, by simp⟩], ?_, ?_⟩
        · simp [hc, hv, in3] <;> omega
        · intro v hv'; simp [hc, hv] at hv'; simp [hv']
      · by_cases hl : t.length ≤ 17
        · refine ⟨_, _, by rw [if_pos ⟨hc, hl, by simp⟩], ?_, ?_⟩
          · simp [hc, hv, in3] <;> omega
          · intro v hv'; simp [hc, hv] at hv'
        · refine ⟨_, _, by rw [if_neg (fun h => hl h.2.1)], ?_, ?_⟩
          · simp [hc, hv]
          · intro v hv'; simp [hc, hv] at hv'
    · refine ⟨_, _, by rw [if_neg (fun h => hc h.1)], ?_, ?_⟩
      · simp [hc]
      · intro v hv'; simp [hc] at hv'
  cases s with
  | nil =>
    rw [decide_eq_false (by simp), cond_false, L2_eq]; unfold F2
    exact plain [] (fun r h => by cases h)
  | cons c r =>
    rw [decide_eq_true (by simp <;> omega), cond_true, inb_int (i := 0) (n := (c :: r).length) (by omega) (by simp), cond_true, L2_eq]; unfold F2
    have e0 : (c :: r).getD 0 0 = c := rfl
    rw [e0]
    by_cases hc : c = 45
    · subst hc
      rw [show (((45 : UInt8).toNat : Int) == 45) = true from rfl, cond_true]
      have : (decide ((1 : Int) ≤ ((45 :: r : List UInt8).length : Int)) && decide (((45 :: r : List UInt8).length : Int) ≤ ((45 :: r : List UInt8).length : Int))) = true := by simp; omega
      rw [this, cond_true, Int.toNat_natCast, List.take_length, List.drop_succ_cons, List.drop_zero, mid]
      have hn : numT (45 :: r) = if canon r = true ∧ r ≠ [48] ∧ valD r ≤ 9999 then some (-(valD r : Int)) else none := rfl
      rw [hn]
      by_cases hk : canon r = true ∧ r ≠ [48]
      · by_cases hv : valD r ≤ 9999
        · have := canon_len hk.1 hv
          refine ⟨_, _, by rw [if_pos ⟨hk.1, by omega, by simp [hk.2]⟩], ?_, ?_⟩
          · simp [hk.1, hk.2, hv, in3] <;> omega
          · intro v hv'; simp [hk.1, hk.2, hv] at hv'; simp [hv']
        · by_cases hl : r.length ≤ 17
          · refine ⟨_, _, by rw [if_pos ⟨hk.1, hl, by simp [hk.2]⟩], ?_, ?_⟩
            · simp [hv, in3] <;> omega
            · intro v hv'; simp [hv] at hv'
          · refine ⟨_, _, by rw [if_neg (fun h => hl h.2.1)], ?_, ?_⟩
            · simp [hv]
            · intro v hv'; simp [hv] at hv'
      · have : ¬ (canon r = true ∧ r ≠ [48] ∧ valD r ≤ 9999) := fun h => hk ⟨h.1, h.2.1⟩
        refine ⟨_, _, by rw [if_neg (fun h => hk ⟨h.1, fun e => h.2.2 ⟨rfl, e⟩⟩)], ?_, ?_⟩
        · rw [if_neg this]; rfl
        · intro v hv'; rw [if_neg this] at hv'; cases hv'
    · have : (((c.toNat : Int)) == 45) = false := by
        rw [beq_eq_false_iff_ne]
        intro e
        apply hc
        have : c.toNat = 45 := by omega
        rw [← UInt8.toNat_inj]; exact this
      rw [this, cond_false]
      exact plain (c :: r) (fun r' h => hc (by simp at h; exact h.1))
end spec_l40Num
namespace impl_numberText
theorem law (s : List UInt8) (hs : s.length ≤ 1048577) : ∃ n ok, impl (s, ()) = some (n, ok, ()) ∧ ok = (numT s).isSome ∧ ∀ v, numT s = some v → n = v := by
  rw [impl_eq]; unfold F0
  have ha : lib_Atoi.impl (s, ()) = atoiI (s, ()) := rfl
  rw [ha]; unfold atoiI
  rw [show (decide (s.length ≤ 281474976710656)) = true from decide_eq_true (by omega), cond_true]
  cases hn : numT s with
  | some v =>
    obtain ⟨h1, h2, h3⟩ := numT_some hn
    simp only [atoi_numT hn, Option.bind_some, cond_true]
    rw [itoa_law v (by omega) (by omega), Option.bind_some, h1, show (s == s) = true from by simp, cond_true, impl_in.law, Option.bind_some, in3_iff.2 ⟨h2, h3⟩]
    exact ⟨_, _, rfl, rfl, fun w hw => Option.some.inj hw⟩
  | none =>
    have key : ∀ v : Int, Lib.itoa v = s → in3 v (-9999) 9999 = false := by
      intro v hv
      cases hb : in3 v (-9999) 9999 with
      | false => rfl
      | true =>
        have := in3_iff.1 hb
        rw [← hv, numT_itoa this.1 this.2] at hn
        cases hn
    rcases hat : Lib.atoiAll s with v | _ | _
    · simp only [Option.bind_some, cond_true]
      have hb : -9223372036854775808 ≤ v ∧ v ≤ 9223372036854775807 := atoi_bound hat
      rw [itoa_law v hb.1 hb.2, Option.bind_some]
      by_cases he : Lib.itoa v = s
      · rw [he, show (s == s) = true from by simp, cond_true, impl_in.law, Option.bind_some, key v he]
        exact ⟨_, _, rfl, rfl, fun w hw => by cases hw⟩
      · rw [show (Lib.itoa v == s) = false by simpa using he]
        exact ⟨_, _, rfl, rfl, fun w hw => by cases hw⟩
    · exact ⟨_, _, rfl, rfl, fun w hw => by cases hw⟩
    · exact ⟨_, _, rfl, rfl, fun w hw => by cases hw⟩
end impl_numberText
/-! ### a text is cut -/
def cutFrom (c : UInt8) (pre r : List UInt8) : List (List UInt8) := match cutAt c r with
  | [] => []
  | q :: qs => (pre ++ q) :: qs
theorem cutFrom_nil (c : UInt8) (r : List UInt8) : cutFrom c [] r = cutAt c r := by
  unfold cutFrom
  cases h : cutAt c r with
  | nil => rfl
  | cons q qs => rfl
theorem cutFrom_hit (c : UInt8) (pre r : List UInt8) : cutFrom c pre (c :: r) = pre :: cutAt c r := by
  unfold cutFrom; rw [cutAt, if_pos rfl]; simp
theorem cutFrom_miss {c b : UInt8} (h : b ≠ c) (pre r : List UInt8) : cutFrom c pre (b :: r) = cutFrom c (pre ++ [b]) r := by
  unfold cutFrom; rw [cutAt, if_neg h]
  cases hc : cutAt c r with
  | nil => exact absurd hc (cutAt_ne c r)
  | cons q qs => simp
theorem toNat_eq {b c : UInt8} : ((b.toNat : Int) == (c.toNat : Int)) = decide (b = c) := by
  rw [Bool.eq_iff_iff, beq_iff_eq, decide_eq_true_eq]
  constructor
  · intro h; rw [← UInt8.toNat_inj]; omega
  · rintro rfl; rfl
namespace spec_l40Cut
theorem law (s : List UInt8) (c : UInt8) (hs : s.length ≤ 1048577) : impl (s, (c.toNat : Int), ()) = some (cutAt c s, ()) := by
  rw [impl_eq]; unfold F0
  have key := up_list (S := Nat × List (List UInt8)) s 0 (fun i q => q.1 ≤ i ∧ q.2.length ≤ i) (fun i q => L4 (s, (c.toNat : Int), (q.1 : Int), (i : Int), q.2, ())) (fun i r q => some (q.2 ++ cutFrom c ((s.take i).drop q.1) r, ())) (by
    intro q hq
    obtain ⟨from_, acc⟩ := q
    simp only at hq
    rw [L4_eq]; unfold F4; simp (disch := omega) only [inb_nat, cast_lt, Int.toNat_natCast, wI_succ]
    rw [decide_eq_true (show (s.length : Int) ≤ (s.length : Int) by omega), cond_true, show ((s.length : Int) == (s.length : Int)) = true by simp, cond_true]
    rw [show (decide (0 ≤ (from_ : Int)) && decide ((from_ : Int) ≤ (s.length : Int)) && true) = true by simp; omega, cond_true, decide_eq_true (by simp only [List.length_append, List.length_cons, List.length_nil]; omega), cond_true, L4_eq]; unfold F4
    rw [decide_eq_false (by omega), cond_false]
    simp [cutFrom, cutAt]) (by
    intro i q hi hq ih
    obtain ⟨from_, acc⟩ := q
    simp only at hq
    rw [L4_eq]; unfold F4; simp (disch := omega) only [inb_nat, cast_lt, Int.toNat_natCast, wI_succ]
    rw [decide_eq_true (show (i : Int) ≤ (s.length : Int) by omega), cond_true, show ((i : Int) == (s.length : Int)) = false by simp; omega, cond_false, decide_eq_true hi, cond_true, toNat_eq]
    have ht := take_snoc 0 hi
    generalize s.getD i 0 = b at ht ⊢
    have hfl : ((s.take i).length) = i := by simp; omega
    by_cases hb : b = c
    · subst hb
      rw [decide_eq_true rfl, cond_true, show (decide (0 ≤ (from_ : Int)) && decide ((from_ : Int) ≤ (i : Int)) && true) = true by simp; omega, cond_true, decide_eq_true (by simp only [List.length_append, List.length_cons, List.length_nil]; omega), cond_true]
      have := ih (i + 1, acc ++ [(s.take i).drop from_]) ⟨Nat.le_refl _, by simp only [List.length_append, List.length_cons, List.length_nil]; omega⟩
      simp only at this
      rw [this, cutFrom_hit, List.drop_eq_nil_of_le (show (s.take (i + 1)).length ≤ i + 1 by simp; omega), cutFrom_nil, List.append_assoc]; rfl
    · rw [decide_eq_false hb, cond_false]
      have := ih (from_, acc) ⟨by simp only; omega, by simp only; omega⟩
      simp only at this
      rw [this, cutFrom_miss hb, ht, List.drop_append_of_le_length (by omega)])
  have k0 : L4 (s, (c.toNat : Int), 0, 0, [], ()) = _ := key (0, []) ⟨Nat.le_refl _, Nat.le_refl _⟩
  rw [k0]
  simp [cutFrom_nil]
end spec_l40Cut
theorem split_law (s : List UInt8) (c : UInt8) (hs : s.length ≤ 1048577) : lib_Split.impl (s, [c], ()) = some (cutAt c s, ()) := by
  show splitI _ = _
  unfold splitI
  rw [show (decide (s.length < 4294967281) && decide (1 ≤ ([c] : List UInt8).length)) = true by simp; omega, cond_true]
  show some (Lib.split s [c], ()) = _
  rw [split_one]
/-! ### numbers of words -/
def readNums : List (List UInt8) → Option (List Int)
  | [] => some []
  | w :: ws => match numT w with
    | none => none
    | some n => match readNums ws with
      | none => none
      | some l => some (n :: l)
def readList (s : List UInt8) : Bool × List Int :=
  if s = [45] then (true, []) else match readNums (cutAt 32 s) with
    | none => (false, [])
    | some l => if l.length ≤ 400 then (true, l) else (false, [])
theorem numsOk_one (n : Int) : numsOk [n] = in3 n (-9999) 9999 := by simp [numsOk]
namespace spec_l31Read
theorem law (ws : List (List UInt8)) (hw : ws.length ≤ 1048578) : impl (ws, ()) = some (match readNums ws with
    | none => (false, [], ())
    | some l => (true, l, ())) := by
  rw [impl_eq]; unfold F0
  refine (up_list (S := List Int) ws [] (fun i acc => acc.length = i) (fun i acc => L3 (ws, (i : Int), acc, ())) (fun i r acc => some (match readNums r with
    | none => (false, [], ())
    | some l => (true, acc ++ l, ()))) ?_ ?_ [] rfl).trans ?_
  · intro acc ha
    rw [L3_eq]; unfold F3; simp (disch := omega) only [inb_nat, cast_lt, Int.toNat_natCast, wI_succ]
    rw [decide_eq_false (Nat.lt_irrefl _), cond_false]
    simp [readNums]
  · intro i acc hi ha ih
    rw [L3_eq]; unfold F3; simp (disch := omega) only [inb_nat, cast_lt, Int.toNat_natCast, wI_succ]
    rw [decide_eq_true hi, cond_true, cond_true]
    generalize ws.getD i [] = w
    obtain ⟨n, ok, h1, h2, h3⟩ := spec_l40Num.law w
    rw [h1, Option.bind_some]
    unfold readNums
    cases hn : numT w with
    | none =>
      rw [hn] at h2
      cases ok with
      | false => rfl
      | true =>
        rw [Bool.not_true, cond_false, spec_l31Numbers.law _ (by simp), Option.bind_some, numsOk_one]
        simp only [Bool.true_and, Option.isSome_none] at h2
        rw [h2]; rfl
    | some v =>
      rw [hn] at h2
      simp only [Option.isSome_some, Bool.and_eq_true] at h2
      have := h3 v hn
      subst this
      rw [h2.1, Bool.not_true, cond_false, spec_l31Numbers.law _ (by simp), Option.bind_some, numsOk_one, h2.2, Bool.not_true, cond_false, decide_eq_true (by simp only [List.length_append, List.length_cons, List.length_nil]; omega), cond_true, ih _ (by simp [ha])]
      cases readNums (ws.drop (i + 1)) with
      | none => rfl
      | some l => simp
  · cases readNums ws <;> rfl
end spec_l31Read
namespace spec_ReadList
theorem law (s : List UInt8) (hs : s.length ≤ 1048576) : impl (s, ()) = some ((readList s).1, (readList s).2, ()) := by
  rw [impl_eq]; unfold F0 readList
  by_cases h : s = [45]
  · rw [if_pos h, show (s == [45]) = true by simp [h]]; rfl
  · rw [if_neg h, show (s == [45]) = false by simpa using h, cond_false]
    have hc : spec_l40Cut.impl (s, 32, ()) = some (cutAt 32 s, ()) := spec_l40Cut.law s 32 (by omega)
    have hl := cutAt_length 32 s
    rw [hc, Option.bind_some, spec_l31Read.law _ (by simp only; omega), Option.bind_some]
    cases readNums (cutAt 32 s) with
    | none => rfl
    | some l =>
      by_cases h4 : l.length ≤ 400
      · simp only [if_pos h4]; rw [decide_eq_false (by omega)]; rfl
      · simp only [if_neg h4]; rw [decide_eq_true (by omega)]; rfl
end spec_ReadList
namespace impl_clone_of
theorem law (xs : List Int) (hx : xs.length ≤ 1048576) : impl (xs, ()) = some (xs, ()) := by
  rw [impl_eq]; unfold F0
  cases xs with
  | nil => rfl
  | cons a r =>
    rw [isEmpty_len, show (decide (0 ≤ ((a :: r).length : Int)) && decide (((a :: r).length : Int) ≤ ((a :: r).length : Int)) && decide (((a :: r).length : Int) * 8 ≤ 140737488355328)) = true by simp; simp at hx; omega]
    simp
end impl_clone_of
namespace impl_ReadList
theorem law (s : List UInt8) (hs : s.length ≤ 1048576) : impl (s, ()) = some ((readList s).1, (readList s).2, ()) := by
  rw [impl_eq]; unfold F0 readList
  by_cases h : s = [45]
  · rw [if_pos h, show (s == [45]) = true by simp [h]]; rfl
  · rw [if_neg h, show (s == [45]) = false by simpa using h, cond_false, split_law s 32 (by omega), Option.bind_some]
    have hl := cutAt_length 32 s
    have hm := cutAt_mem 32 s
    generalize cutAt 32 s = ws at hl hm ⊢
    refine (up_list (S := List Int) ws [] (fun i acc => acc.length = i ∧ i ≤ 400) (fun i acc => L5 (ws, (ws.length : Int), (i : Int), acc, ())) (fun i r acc => some (match readNums r with
      | none => (false, [], ())
      | some l => if acc.length + l.length ≤ 400 then (true, acc ++ l, ()) else (false, [], ()))) ?_ ?_ [] ⟨rfl, by omega⟩).trans ?_
    · intro acc ha
      rw [L5_eq]; unfold F5; simp (disch := omega) only [inb_nat, cast_lt, Int.toNat_natCast, wI_succ]
      rw [decide_eq_false (Nat.lt_irrefl _), cond_false, impl_clone_of.law _ (by omega)]
      simp [readNums]; omega
    · intro i acc hi ha ih
      have hmw := (hm _ (getD_mem (d := []) hi)).1
      rw [L5_eq]; unfold F5; simp (disch := omega) only [inb_nat, cast_lt, Int.toNat_natCast, wI_succ]
      rw [decide_eq_true hi, cond_true, cond_true]
      generalize ws.getD i [] = w at hmw ⊢
      obtain ⟨n, ok, h1, h2, h3⟩ := impl_numberText.law w (by omega)
      rw [h1, Option.bind_some]
      unfold readNums
      cases hn : numT w with
      | none => rw [hn] at h2; subst h2; rfl
      | some v =>
        rw [hn] at h2
        have := h3 v hn
        subst this h2
        simp only [Option.isSome_some, Bool.not_true, cond_false]
        by_cases h4 : acc.length = 400
        · rw [show ((acc.length : Int) == 400) = true by simp; omega, cond_true]
          cases readNums (ws.drop (i + 1)) with
          | none => rfl
          | some l => simp only; rw [if_neg (by simp only [List.length_cons]; omega)]
        · rw [show ((acc.length : Int) == 400) = false by simp; omega, cond_false, decide_eq_true (by simp only [List.length_append, List.length_cons, List.length_nil]; omega), cond_true, ih _ ⟨by simp [ha.1], by omega⟩]
          cases readNums (ws.drop (i + 1)) with
          | none => rfl
          | some l =>
            simp only [List.length_append, List.length_cons, List.length_nil, List.append_assoc, List.cons_append, List.nil_append]
            have : acc.length + (0 + 1) + l.length = acc.length + (l.length + 1) := by omega
            rw [this]
    · cases readNums ws with
      | none => rfl
      | some l => by_cases h4 : l.length ≤ 400 <;> simp [h4]
end impl_ReadList
/-! ### marks in lists of ints -/
def marks1 (k n : Nat) : List Int := (List.range' k n).map fun (i : Nat) => (i : Int)
@[simp] theorem marks1_length {k n : Nat} : (marks1 k n).length = n := by simp [marks1]
theorem marks1_get {k n j : Nat} {d : Int} (h : j < n) : (marks1 k n).getD j d = ((k + j : Nat) : Int) := by
  rw [getD_eq (by simpa using h)]
  simp [marks1]
namespace laws_markIntS
theorem law (xs : List Int) (k : Nat) (hx : xs.length ≤ 1048577) (hk : k ≤ 1048576 * 1024) : impl ((k : Int), xs, ()) = some (((k + xs.length : Nat) : Int), marks1 k xs.length, ()) := by
  rw [impl_eq]; unfold F0
  have key : ∀ d i (r : List Int), i + d = xs.length → r.length = xs.length → r.take i = marks1 k i → L2 (((k + i : Nat) : Int), (i : Int), r, ()) = some (((k + xs.length : Nat) : Int), marks1 k xs.length, ()) := by
    intro d
    induction d with
    | zero =>
      intro i r hi hr ht
      have : i = xs.length := by omega
      subst this
      rw [L2_eq]; unfold F2; simp (disch := omega) only [inb_nat, cast_lt, Int.toNat_natCast, wI_succ]
      rw [List.take_of_length_le (by omega)] at ht
      rw [decide_eq_false (by omega), cond_false, ht]
    | succ d ih =>
      intro i r hi hr ht
      rw [L2_eq]; unfold F2; simp (disch := omega) only [inb_nat, cast_lt, Int.toNat_natCast, wI_succ]
      rw [decide_eq_true (by omega), cond_true, cond_true, show k + i + 1 = k + (i + 1) by omega]
      refine ih (i + 1) _ (by omega) (by simp [hr]) ?_
      have e : marks1 k (i + 1) = marks1 k i ++ [((k + i : Nat) : Int)] := by simp [marks1, List.range'_concat]
      rw [e, take_snoc 0 (by simp; omega), List.take_set_of_le (Nat.le_refl _), ht]
      congr 1
      rw [List.getD_eq_getElem?_getD]; simp [show i < r.length by omega]
  exact key xs.length 0 xs (by omega) rfl (by simp [marks1])
end laws_markIntS
namespace laws_heldIntS
theorem law (k n : Nat) (hn : n ≤ 1048577) (hk : k ≤ 1048576 * 1024) : impl (marks1 k n, (k : Int), ()) = some (((k + n : Nat) : Int), ()) := by
  rw [impl_eq]; unfold F0
  have key : ∀ d i, i + d = n → L2 (marks1 k n, ((k + i : Nat) : Int), (i : Int), ()) = some (((k + n : Nat) : Int), ()) := by
    intro d
    induction d with
    | zero =>
      intro i hi
      have : i = n := by omega
      subst this
      rw [L2_eq]; unfold F2; simp (disch := omega) only [inb_nat, cast_lt, Int.toNat_natCast, wI_succ]
      rw [marks1_length, decide_eq_false (Nat.lt_irrefl _), cond_false]
    | succ d ih =>
      intro i hi
      rw [L2_eq]; unfold F2; simp (disch := omega) only [inb_nat, cast_lt, Int.toNat_natCast, wI_succ]
      rw [marks1_length, decide_eq_true (by omega), cond_true, cond_true, marks1_get (by omega), bne_self_eq_false, cond_false, show k + i + 1 = k + (i + 1) by omega]
      exact ih (i + 1) (by omega)
  exact key n 0 (by omega)
end laws_heldIntS
theorem readNums_len : ∀ (ws : List (List UInt8)) (l : List Int), readNums ws = some l → l.length = ws.length
  | [], l, h => by simp only [readNums, Option.some.injEq] at h; subst h; rfl
  | w :: ws, l, h => by
    unfold readNums at h
    cases hn : numT w with
    | none => rw [hn] at h; cases h
    | some n =>
      rw [hn] at h
      simp only at h
      cases hr : readNums ws with
      | none => rw [hr] at h; cases h
      | some l' =>
        rw [hr] at h
        simp only [Option.some.injEq] at h
        subst h
        simp [readNums_len ws l' hr]
theorem readList_len (s : List UInt8) : (readList s).2.length ≤ 400 := by
  unfold readList
  split
  · simp
  · split
    · simp
    · split <;> simp; assumption
namespace laws_FnExactReadList
theorem law (s : List UInt8) : impl (s, ()) = some (true, ()) := by
  rw [impl_eq]; unfold F0
  by_cases hbig : (s.length : Int) > 1048576
  · rw [decide_eq_true hbig]; rfl
  have hs : s.length ≤ 1048576 := by omega
  have hl := readList_len s
  rw [decide_eq_false hbig, cond_false]
  have m := laws_markIntS.law (readList s).2 1 (by omega) (by omega)
  have q := laws_heldIntS.law 1 (readList s).2.length (by omega) (by omega)
  have m' : laws_markIntS.impl (1, (readList s).2, ()) = _ := m
  have q' : laws_heldIntS.impl (marks1 1 (readList s).2.length, 1, ()) = _ := q
  simp only [spec_ReadList.law _ hs, impl_ReadList.law _ hs, Option.bind_some, laws_eqIntS.law _ _ (show (readList s).2.length ≤ 1048576 by omega), decide_true, Bool.not_true, cond_false, beq_self_eq_true, L7_eq, F7, m', q', bne_self_eq_false, L18_eq, F18]
  rw [decide_eq_false (by omega)]
  rfl
end laws_FnExactReadList
end Go.Proofs.YtambmmpilakgoaaDoorB
