/- The plain law: what the functions compute, in plain Lean. -/
import Derived.Test.YtfjnckjkpkhbdaaGreatDoorKFnLists
import Derived.Test.YtfjnckjkpkhbdaaGreatDoorP0
set_option linter.unusedVariables false
set_option linter.unusedSimpArgs false
set_option maxRecDepth 10000
set_option synthInstance.maxSize 10000
set_option synthInstance.maxHeartbeats 400000
namespace Go.Proofs.YtfjnckjkpkhbdaaGreatDoorB
open Go
namespace spec_l1In
theorem law (x a b : Int) : impl (x, a, b, ()) = some (in3 x a b, ()) := by
  rw [impl_eq]; unfold F0
  rw [cond_ret]
  congr 2
  rw [Bool.eq_iff_iff, in3_iff]
  simp only [cond_iff, decide_eq_true_eq, Bool.false_eq_true, and_false, or_false]
end spec_l1In
namespace impl_in
theorem law (x a b : Int) : impl (x, a, b, ()) = some (in3 x a b, ()) := by
  rw [impl_eq]; unfold F0
  rw [cond_ret]
  congr 2
  rw [Bool.eq_iff_iff, in3_iff]
  simp only [cond_iff, decide_eq_true_eq, Bool.false_eq_true, and_false, or_false]
end impl_in
/-! ### loops over a list -/
theorem drop_cons {α : Type} {xs : List α} {i : Nat} (d : α) (h : i < xs.length) : xs.drop i = xs.getD i d :: xs.drop (i + 1) := by
  rw [List.drop_eq_getElem_cons h, getD_eq h]
/-- a loop that goes up along a list, and what it computes along what is left -/
theorem up_list {α S R : Type} (xs : List α) (d : α) (I : Nat → S → Prop) (L : Nat → S → Option R) (g : Nat → List α → S → Option R)
    (hn : ∀ s, I xs.length s → L xs.length s = g xs.length [] s)
    (hc : ∀ i s, i < xs.length → I i s → (∀ s', I (i + 1) s' → L (i + 1) s' = g (i + 1) (xs.drop (i + 1)) s') → L i s = g i (xs.getD i d :: xs.drop (i + 1)) s) :
    ∀ s, I 0 s → L 0 s = g 0 xs s := by
  have key : ∀ k i s, i + k = xs.length → I i s → L i s = g i (xs.drop i) s := by
    intro k
    induction k with
    | zero =>
      intro i s hi hI
      have : i = xs.length := by omega
      subst this
      rw [List.drop_length]
      exact hn s hI
    | succ k ih =>
      intro i s hi hI
      rw [drop_cons d (by omega)]
      exact hc i s (by omega) hI fun s' hI' => ih (i + 1) s' (by omega) hI'
  intro s hI
  have := key xs.length 0 s (by omega) hI
  rwa [List.drop_zero] at this
theorem inb_eq (i : Int) (n : Nat) : inb i n = (decide (0 ≤ i) && decide (i < n)) := rfl
theorem cast_lt (i n : Nat) : decide ((i : Int) < (n : Int)) = decide (i < n) := by simp
theorem up_list0 {α R : Type} (xs : List α) (d : α) (L : Nat → Option R) (g : Nat → List α → Option R) (hn : L xs.length = g xs.length [])
    (hc : ∀ i, i < xs.length → L (i + 1) = g (i + 1) (xs.drop (i + 1)) → L i = g i (xs.getD i d :: xs.drop (i + 1))) : L 0 = g 0 xs :=
  up_list (S := Unit) xs d (fun _ _ => True) (fun i _ => L i) (fun i r _ => g i r) (fun _ _ => hn) (fun i _ hi _ ih => hc i hi (ih () trivial)) () trivial
theorem decide_cons {α : Type} [DecidableEq α] (a b : α) (x y : List α) : decide (a :: x = b :: y) = (decide (a = b) && decide (x = y)) := by
  rw [Bool.eq_iff_iff]; simp
theorem bne_dec {α : Type} [DecidableEq α] (a b : α) : (a != b) = !decide (a = b) := by
  by_cases h : a = b <;> simp [h]
theorem isEmpty_len {α : Type} (xs : List α) : ((xs.length : Int) == 0) = xs.isEmpty := by cases xs <;> simp <;> omega
theorem pos_len {α : Type} (xs : List α) : decide ((xs.length : Int) > 0) = !xs.isEmpty := by cases xs <;> simp <;> omega
theorem take_snoc {α : Type} {xs : List α} {i : Nat} (d : α) (h : i < xs.length) : xs.take (i + 1) = xs.take i ++ [xs.getD i d] := by
  rw [List.take_add_one, List.getElem?_eq_getElem h, getD_eq h]; rfl
theorem lit_wf {n : Int} (h : (Lit.int .i64 n).wf = true) : -9223372036854775808 ≤ n ∧ n ≤ 9223372036854775807 := by
  simp only [Lit.wf, Bool.and_eq_true, decide_eq_true_eq] at h
  exact ⟨h.1, h.2⟩
/-- the first of a kind -/
def goIdx {α : Type} (p : α → Bool) : Nat → List α → Int
  | _, [] => -1
  | i, x :: r => bif p x then (i : Int) else goIdx p (i + 1) r
theorem goIdx_cons {α : Type} (p : α → Bool) (i : Nat) (x : α) (r : List α) : goIdx p i (x :: r) = bif p x then (i : Int) else goIdx p (i + 1) r := rfl
theorem goIdx_any {α : Type} (p : α → Bool) : ∀ (r : List α) (i : Nat), decide (goIdx p i r ≥ 0) = r.any p
  | [], _ => rfl
  | x :: r, i => by
    unfold goIdx
    rw [List.any_cons, ← goIdx_any p r (i + 1)]
    cases p x with
    | true => simp
    | false => rfl
theorem any_not {α : Type} (p : α → Bool) (r : List α) : (!r.any fun x => !p x) = r.all p := by
  induction r with
  | nil => rfl
  | cons x r ih => rw [List.any_cons, List.all_cons, ← ih]; cases p x <;> rfl
/-! ### what is drawn -/
/-- a source that is not used up -/
def Src (code : List Int) (p : Int) : Prop := code.length ≤ 2000 ∧ (∀ x ∈ code, 0 ≤ x ∧ x ≤ 255) ∧ 0 ≤ p ∧ p ≤ 1000000000
theorem Src.next {code : List Int} {p : Int} (h : Src code p) (hp : p < 1000000000) : Src code (p + 1) := ⟨h.1, h.2.1, by have := h.2.2; omega, by omega⟩
theorem Src.at {code : List Int} {p q : Int} (h : Src code p) (h0 : 0 ≤ q) (h1 : q ≤ 1000000000) : Src code q := ⟨h.1, h.2.1, h0, h1⟩
theorem xor_nonneg {x y : Int} (hx : 0 ≤ x) (hx2 : x < 4611686018427387904) (hy : 0 ≤ y) (hy2 : y < 4611686018427387904) : 0 ≤ xorI .i64 x y := by
  unfold xorI
  have e1 : (BitVec.ofInt 64 x).toNat = x.toNat := by rw [BitVec.toNat_ofInt]; omega
  have e2 : (BitVec.ofInt 64 y).toNat = y.toNat := by rw [BitVec.toNat_ofInt]; omega
  have h : (BitVec.ofInt 64 x ^^^ BitVec.ofInt 64 y).toNat < 2 ^ 62 := by
    rw [BitVec.toNat_xor, e1, e2]
    exact Nat.xor_lt_two_pow (by omega) (by omega)
  show 0 ≤ wI _
  rw [show IntKind.i64.bits = 64 from rfl, wI_small (by omega) (by omega)]
  omega
theorem tmod_lt {a n : Int} (ha : 0 ≤ a) (hn : 0 < n) : 0 ≤ Int.tmod a n ∧ Int.tmod a n < n := ⟨Int.tmod_nonneg _ ha, Int.tmod_lt_of_pos _ hn⟩
theorem code_get {code : List Int} (h : ∀ x ∈ code, 0 ≤ x ∧ x ≤ 255) (i : Nat) : 0 ≤ code.getD i 0 ∧ code.getD i 0 ≤ 255 := by
  rcases Nat.lt_or_ge i code.length with hi | hi
  · exact h _ (getD_mem hi)
  · rw [List.getD_eq_getElem?_getD, List.getElem?_eq_none hi]; simp
namespace spec_l40Open
theorem law (code : List Int) (h : ∀ x ∈ code, 0 ≤ x ∧ x ≤ 255) : ∃ c, impl (code, ()) = some (c, 0, ()) ∧ Src c 0 := by
  rw [impl_eq]; unfold F0
  by_cases hl : (code.length : Int) > 2000
  · rw [decide_eq_true hl, decide_eq_true (show (2000 : Int) ≤ (code.length : Int) by omega)]
    exact ⟨_, rfl, by simp; omega, fun x hx => h x (List.mem_of_mem_take (List.mem_of_mem_drop hx)), by omega, by omega⟩
  · rw [decide_eq_false hl]
    exact ⟨_, rfl, by omega, h, by omega, by omega⟩
end spec_l40Open
namespace spec_l40Rd_pick
theorem law (n : Int) (code : List Int) (p : Int) (h : Src code p) (hp : p < 1000000000) : ∃ v, impl (n, code, p, ()) = some (v, code, p + 1, ()) ∧ (n < 1 → v = 0) ∧ (1 ≤ n → 0 ≤ v ∧ v < n) := by
  obtain ⟨h1, h2, h3, h4⟩ := h
  rw [impl_eq]; unfold F0
  rw [wI_small (n := p + 1) (by omega) (by omega)]
  by_cases hn : n < 1
  · rw [decide_eq_true hn]
    exact ⟨0, rfl, fun _ => rfl, fun h => by omega⟩
  rw [decide_eq_false hn, cond_false]
  cases hc : code with
  | nil => exact ⟨0, rfl, fun h => absurd h hn, fun h => by omega⟩
  | cons a r =>
    rw [← hc, isEmpty_len]
    have hpos : 1 ≤ code.length := by rw [hc]; simp
    rw [show code.isEmpty = false by rw [hc]; rfl, cond_false, L4_eq]; unfold F4
    rw [wI_small (n := p + 1 - 1) (by omega) (by omega), show p + 1 - 1 = p by omega]
    by_cases hlt : p < (code.length : Int)
    · have hg := code_get h2 p.toNat
      rw [decide_eq_true hlt, cond_true, inb_int (by omega) hlt, cond_true, decide_eq_false (show ¬ n = 0 by omega), cond_false, wI_small (by omega) (by omega)]
      have := tmod_lt hg.1 (show 0 < n by omega)
      exact ⟨_, rfl, fun h => absurd h hn, fun _ => this⟩
    · rw [decide_eq_false hlt, cond_false, L7_eq]; unfold F7
      have hk : (0 : Int) < (code.length : Int) := by omega
      have t1 := tmod_lt (a := p) (n := (code.length : Int)) h3 hk
      rw [wI_small (n := p * 7) (by omega) (by omega), wI_small (n := p * 7 + 3) (by omega) (by omega)]
      have t2 := tmod_lt (a := p * 7 + 3) (n := (code.length : Int)) (by omega) hk
      rw [decide_eq_false (show ¬ (code.length : Int) = 0 by omega), cond_false, inb_int t1.1 t1.2, cond_true, cond_false, inb_int t2.1 t2.2, cond_true, cond_false, decide_eq_false (show ¬ n = 0 by omega), cond_false]
      have g1 := code_get h2 (Int.tmod p (code.length : Int)).toNat
      have g2 := code_get h2 (Int.tmod (p * 7 + 3) (code.length : Int)).toNat
      generalize code.getD (Int.tmod p (code.length : Int)).toNat 0 = a1 at g1 ⊢
      generalize code.getD (Int.tmod (p * 7 + 3) (code.length : Int)).toNat 0 = a2 at g2 ⊢
      have t3 : 0 ≤ Int.tdiv p (code.length : Int) ∧ Int.tdiv p (code.length : Int) ≤ p := ⟨Int.tdiv_nonneg h3 (by omega), Int.tdiv_le_self _ h3⟩
      generalize Int.tdiv p (code.length : Int) = d at t3 ⊢
      rw [wI_small (n := a1) (by omega) (by omega), wI_small (n := a2) (by omega) (by omega), wI_small (n := a1 * 131) (by omega) (by omega), wI_small (n := a2 * 1117) (by omega) (by omega), wI_small (n := a1 * 131 + a2 * 1117) (by omega) (by omega), wI_small (n := p * 29) (by omega) (by omega),
        wI_small (n := d) (by omega) (by omega), wI_small (n := d * 53) (by omega) (by omega), wI_small (n := a1 * 131 + a2 * 1117 + p * 29) (by omega) (by omega), wI_small (n := a1 * 131 + a2 * 1117 + p * 29 + d * 53) (by omega) (by omega)]
      have hx : 0 ≤ a1 * 131 + a2 * 1117 + p * 29 + d * 53 ∧ a1 * 131 + a2 * 1117 + p * 29 + d * 53 < 1000000000000 := by omega
      generalize a1 * 131 + a2 * 1117 + p * 29 + d * 53 = x at hx ⊢
      have hd : 0 ≤ Int.tdiv x 64 ∧ Int.tdiv x 64 ≤ x := ⟨Int.tdiv_nonneg hx.1 (by omega), Int.tdiv_le_self _ hx.1⟩
      rw [wI_small (n := Int.tdiv x 64) (by omega) (by omega)]
      have := tmod_lt (xor_nonneg hx.1 (by omega) hd.1 (by omega)) (show 0 < n by omega)
      exact ⟨_, rfl, fun h => absurd h hn, fun _ => this⟩
end spec_l40Rd_pick
namespace spec_l40Rd_num
theorem law (xs : List Int) (code : List Int) (p : Int) (hx : 1 ≤ xs.length) (h : Src code p) (hp : p < 1000000000) : ∃ v, v ∈ xs ∧ impl (xs, code, p, ()) = some (v, code, p + 1, ()) := by
  obtain ⟨v, h1, _, h3⟩ := spec_l40Rd_pick.law (xs.length : Int) code p h hp
  have h4 := h3 (by omega)
  rw [impl_eq]; unfold F0
  rw [h1, Option.bind_some, inb_int h4.1 h4.2]
  exact ⟨_, getD_mem (by omega), rfl⟩
end spec_l40Rd_num
/-! ### numbers as they are written -/
def isDig (c : UInt8) : Bool := decide (48 ≤ c.toNat) && decide (c.toNat ≤ 57)
def valD (l : List UInt8) : Nat := l.foldl (fun a c => a * 10 + (c.toNat - 48)) 0
def canon (l : List UInt8) : Bool := l.all isDig && (match l with | [] => false | c :: r => !(c == 48) || r.isEmpty)
theorem valD_snoc (l : List UInt8) (c : UInt8) : valD (l ++ [c]) = valD l * 10 + (c.toNat - 48) := by simp [valD]
theorem isDig_iff {c : UInt8} : isDig c = true ↔ 48 ≤ c.toNat ∧ c.toNat ≤ 57 := by simp [isDig]
theorem digs_dec (u : Nat) : (Lib.decDigits u).all isDig = true := by
  induction u using Nat.strongRecOn with
  | _ u ih =>
    rw [Lib.decDigits]
    split
    · rename_i h
      simp only [List.all_cons, List.all_nil, Bool.and_true, isDig_iff]
      have : (UInt8.ofNat (48 + u)).toNat = 48 + u := by simp; omega
      omega
    · rename_i h
      rw [List.all_append, ih (u / 10) (by omega)]
      simp only [List.all_cons, List.all_nil, Bool.and_true, Bool.true_and, isDig_iff]
      have : (UInt8.ofNat (48 + u % 10)).toNat = 48 + u % 10 := by simp; omega
      omega
theorem val_dec (u : Nat) : valD (Lib.decDigits u) = u := by
  induction u using Nat.strongRecOn with
  | _ u ih =>
    rw [Lib.decDigits]
    split
    · rename_i h
      have : (UInt8.ofNat (48 + u)).toNat = 48 + u := by simp; omega
      simp only [valD, List.foldl_cons, List.foldl_nil]
      omega
    · rename_i h
      have : (UInt8.ofNat (48 + u % 10)).toNat = 48 + u % 10 := by simp; omega
      rw [valD_snoc, ih (u / 10) (by omega)]
      omega
theorem dec_ne (u : Nat) : Lib.decDigits u ≠ [] := by
  rw [Lib.decDigits]
  split <;> simp
theorem head_dec (u : Nat) : ∀ c r, Lib.decDigits u = c :: r → u = 0 ∧ c = 48 ∧ r = [] ∨ 0 < u ∧ c ≠ 48 := by
  induction u using Nat.strongRecOn with
  | _ u ih =>
    intro c r h
    rw [Lib.decDigits] at h
    split at h
    · rename_i hu
      simp only [List.cons.injEq] at h
      obtain ⟨h1, h2⟩ := h
      by_cases h0 : u = 0
      · subst h0; left; exact ⟨rfl, h1.symm, h2.symm⟩
      · right
        refine ⟨by omega, fun e => ?_⟩
        rw [← h1] at e
        have : (UInt8.ofNat (48 + u)).toNat = 48 + u := by simp; omega
        rw [e] at this
        have h48 : (48 : UInt8).toNat = 48 := rfl
        omega
    · rename_i hu
      cases hd : Lib.decDigits (u / 10) with
      | nil => exact absurd hd (dec_ne _)
      | cons c' r' =>
        rw [hd] at h
        simp only [List.cons_append, List.cons.injEq] at h
        rcases ih (u / 10) (by omega) c' r' hd with ⟨h0, _⟩ | ⟨_, h1⟩
        · omega
        · right; exact ⟨by omega, by rw [← h.1]; exact h1⟩
theorem canon_dec (u : Nat) : canon (Lib.decDigits u) = true := by
  unfold canon
  rw [digs_dec, Bool.true_and]
  cases h : Lib.decDigits u with
  | nil => exact absurd h (dec_ne _)
  | cons c r =>
    rcases head_dec u c r h with ⟨_, _, h1⟩ | ⟨_, h1⟩
    · subst h1; simp
    · simp [h1]
theorem dec_val_aux : ∀ (n : Nat) (l : List UInt8), l.length = n → l.all isDig = true → (∀ c r, l = c :: r → c ≠ 48) → l ≠ [] → Lib.decDigits (valD l) = l ∧ 1 ≤ valD l := by
  intro n
  induction n with
  | zero => intro l hl _ _ hn; exact absurd (List.length_eq_zero_iff.1 hl) hn
  | succ n ih =>
    intro l hl hd hh hn
    obtain ⟨p, c, rfl⟩ : ∃ p c, l = p ++ [c] := ⟨l.dropLast, l.getLast hn, (List.dropLast_concat_getLast hn).symm⟩
    rw [List.all_append, Bool.and_eq_true] at hd
    have hc := isDig_iff.1 (show isDig c = true by simpa using hd.2)
    have hco : UInt8.ofNat c.toNat = c := by simp
    rw [valD_snoc]
    cases p with
    | nil =>
      have hc0 : c ≠ 48 := hh c [] rfl
      have : c.toNat ≠ 48 := fun e => hc0 (by rw [← hco, e]; rfl)
      have e0 : valD [] = 0 := rfl
      rw [e0, Lib.decDigits, dif_pos (by omega)]
      refine ⟨?_, by omega⟩
      rw [show 48 + (0 * 10 + (c.toNat - 48)) = c.toNat by omega, hco]; rfl
    | cons a p =>
      have hl' : (a :: p).length = n := by simpa using hl
      obtain ⟨h1, h2⟩ := ih (a :: p) hl' hd.1 (fun c' r' e => hh c' (r' ++ [c]) (by rw [e]; rfl)) (by simp)
      refine ⟨?_, by omega⟩
      rw [Lib.decDigits, dif_neg (by omega), show (valD (a :: p) * 10 + (c.toNat - 48)) / 10 = valD (a :: p) by omega, h1, show 48 + (valD (a :: p) * 10 + (c.toNat - 48)) % 10 = c.toNat by omega, hco]
theorem dec_val {l : List UInt8} (h : canon l = true) : Lib.decDigits (valD l) = l := by
  unfold canon at h
  rw [Bool.and_eq_true] at h
  cases l with
  | nil => simp at h
  | cons c r =>
    by_cases hc : c = 48
    · subst hc
      have : r = [] := by simpa using h.2
      subst this
      rw [Lib.decDigits]; rfl
    · exact (dec_val_aux _ _ rfl h.1 (fun c' r' e => by simp only [List.cons.injEq] at e; rw [← e.1]; exact hc) (by simp)).1
/-- the number, if it is written as it must be and is in bounds -/
def numT (s : List UInt8) : Option Int := match s with
  | 45 :: r => if canon r = true ∧ r ≠ [48] ∧ valD r ≤ 9999 then some (-(valD r : Int)) else none
  | s => if canon s = true ∧ valD s ≤ 9999 then some (valD s : Int) else none
theorem numT_itoa {n : Int} (h1 : -9999 ≤ n) (h2 : n ≤ 9999) : numT (Lib.itoa n) = some n := by
  unfold Lib.itoa
  split
  · rename_i h
    have hne : Lib.decDigits n.natAbs ≠ [48] := fun e => by
      rcases head_dec n.natAbs 48 [] e with ⟨h0, _⟩ | ⟨_, h0⟩
      · omega
      · exact h0 rfl
    simp only [numT, canon_dec, val_dec, hne, ne_eq, not_false_eq_true, true_and]
    rw [if_pos (by omega)]
    congr 1; omega
  · rename_i h
    have hd := digs_dec n.toNat
    have hc := canon_dec n.toNat
    have hv := val_dec n.toNat
    cases hl : Lib.decDigits n.toNat with
    | nil => exact absurd hl (dec_ne _)
    | cons c r =>
      rw [hl] at hd hc hv
      have hc45 : c ≠ 45 := by
        rintro rfl
        simp only [List.all_cons, Bool.and_eq_true] at hd
        have := isDig_iff.1 hd.1
        have h45 : (45 : UInt8).toNat = 45 := rfl
        omega
      unfold numT
      split
      · rename_i e; simp only [List.cons.injEq] at e; exact absurd e.1 hc45
      · rw [hc, hv, if_pos ⟨rfl, by omega⟩]; congr 1; omega
theorem numT_some {s : List UInt8} {n : Int} (h : numT s = some n) : Lib.itoa n = s ∧ -9999 ≤ n ∧ n ≤ 9999 := by
  unfold numT at h
  split at h
  · rename_i r
    split at h
    · rename_i hr
      obtain ⟨hc, h0, hv⟩ := hr
      simp only [Option.some.injEq] at h
      subst h
      have hp : 1 ≤ valD r := by
        rcases Nat.eq_zero_or_pos (valD r) with e | e
        · have := dec_val hc
          rw [e, Lib.decDigits_one (by omega)] at this
          exact absurd this.symm h0
        · exact e
      refine ⟨?_, by omega, by omega⟩
      rw [Lib.itoa, if_pos (by omega), show (-(valD r : Int)).natAbs = valD r by omega, dec_val hc]
    · cases h
  · split at h
    · rename_i hr
      simp only [Option.some.injEq] at h
      subst h
      refine ⟨?_, by omega, by omega⟩
      rw [Lib.itoa, if_neg (by omega), Int.toNat_natCast, dec_val hr.1]
    · cases h
/-! what Atoi makes of it -/
theorem parse_digs : ∀ (l : List UInt8) (acc : Nat), l.all isDig = true → l.foldl (fun a c => a * 10 + (c.toNat - 48)) acc < 1844674407370955162 → acc ≤ l.foldl (fun a c => a * 10 + (c.toNat - 48)) acc ∧ Lib.parseUint10 acc l = .ok (l.foldl (fun a c => a * 10 + (c.toNat - 48)) acc)
  | [], acc, _, _ => ⟨Nat.le_refl _, rfl⟩
  | c :: r, acc, hd, hv => by
    simp only [List.all_cons, Bool.and_eq_true] at hd
    have hc := isDig_iff.1 hd.1
    simp only [List.foldl_cons] at hv ⊢
    obtain ⟨h1, h2⟩ := parse_digs r _ hd.2 hv
    refine ⟨by omega, ?_⟩
    rw [Lib.parseUint10, if_pos hc, if_neg (by omega), if_neg (by omega), h2]
theorem parseMag_canon {l : List UInt8} (h : canon l = true) (hv : valD l ≤ 9999) : Lib.parseMag l = .ok (valD l) := by
  unfold canon at h
  rw [Bool.and_eq_true] at h
  unfold Lib.parseMag
  rw [if_neg (by rintro rfl; simp at h)]
  exact (parse_digs l 0 h.1 (by unfold valD at hv; omega)).2
theorem atoi_numT {s : List UInt8} {n : Int} (h : numT s = some n) : Lib.atoiAll s = .ok n := by
  unfold numT at h
  split at h
  · rename_i r
    split at h
    · rename_i hr
      simp only [Option.some.injEq] at h
      subst h
      unfold Lib.atoiAll
      simp only [show (45 : UInt8).toNat = 45 from rfl, or_true, if_true, parseMag_canon hr.1 hr.2.2]
      rw [if_neg (by simp), if_neg (by omega)]
    · cases h
  · rename_i h45
    split at h
    · rename_i hr
      simp only [Option.some.injEq] at h
      subst h
      cases s with
      | nil => simp [canon] at hr
      | cons c r =>
        have hc := hr.1
        unfold canon at hc
        simp only [List.all_cons, Bool.and_eq_true] at hc
        have := isDig_iff.1 hc.1.1
        have hv := hr.2
        unfold Lib.atoiAll
        simp only [show ¬ c.toNat = 43 by omega, show ¬ c.toNat = 45 by omega, or_self, if_false, parseMag_canon hr.1 hr.2, not_false_eq_true, true_and, false_and]
        rw [if_neg (by omega)]
    · cases h
theorem atoi_bound {s : List UInt8} {v : Int} (h : Lib.atoiAll s = .ok v) : -9223372036854775808 ≤ v ∧ v ≤ 9223372036854775807 := by
  cases s with
  | nil => cases h
  | cons c r =>
    unfold Lib.atoiAll at h
    simp only at h
    rcases hm : Lib.parseMag (if c.toNat = 43 ∨ c.toNat = 45 then r else c :: r) with u | _ | _
    · rw [hm] at h
      simp only at h
      split at h
      · cases h
      · split at h
        · cases h
        · simp only [Lib.NumEnd.ok.injEq] at h
          subst h
          split <;> omega
    · rw [hm] at h; cases h
    · rw [hm] at h; cases h
/-! ### a text cut at each byte of a kind -/
def cutAt (c : UInt8) : List UInt8 → List (List UInt8)
  | [] => [[]]
  | b :: l => if b = c then [] :: cutAt c l else match cutAt c l with
    | [] => [[b]]
    | p :: ps => (b :: p) :: ps
theorem cutAt_ne (c : UInt8) (s : List UInt8) : cutAt c s ≠ [] := by
  cases s with
  | nil => simp [cutAt]
  | cons b l =>
    unfold cutAt
    split
    · simp
    · split <;> simp
theorem index_one_cons (b c : UInt8) (l : List UInt8) : Lib.index (b :: l) [c] = if b = c then 0 else if Lib.index l [c] = -1 then -1 else Lib.index l [c] + 1 := by
  rw [Lib.index]
  by_cases h : b = c
  · subst h; simp
  · have : ¬ c = b := fun e => h e.symm
    simp [h, this]
theorem split_cut (c : UInt8) : ∀ (s : List UInt8) (k : Nat), Lib.count s [c] ≤ k → Lib.splitK [c] 0 k s = cutAt c s
  | [], 0, _ => rfl
  | [], k + 1, _ => by simp [Lib.splitK, Lib.index, cutAt]
  | b :: l, k, hk => by
    by_cases h : b = c
    · subst h
      rw [Lib.count_cons_eq] at hk
      obtain ⟨k, rfl⟩ : ∃ k', k = k' + 1 := ⟨k - 1, by omega⟩
      have := split_cut b l k (by omega)
      rw [Lib.splitK, index_one_cons]
      simp [cutAt, this]
    · rw [Lib.count_cons_ne b c l h] at hk
      have ih := split_cut c l k hk
      rw [cutAt, if_neg h, ← ih]
      cases k with
      | zero => simp [Lib.splitK]
      | succ k =>
        rw [Lib.splitK, index_one_cons, if_neg h, Lib.splitK]
        by_cases hi : Lib.index l [c] = -1
        · simp [hi]
        · have := Lib.index_ge l [c]
          have hn : ¬ Lib.index l [c] + 1 = -1 := by omega
          simp only [hi, if_false, beq_iff_eq, hn, List.length_cons, List.length_nil, Nat.add_zero]
          rw [show (Lib.index l [c] + 1).toNat = (Lib.index l [c]).toNat + 1 by omega, show (Lib.index l [c]).toNat + 1 + (0 + 1) = (Lib.index l [c]).toNat + (0 + 1) + 1 by omega]
          simp
theorem split_one (c : UInt8) (s : List UInt8) : Lib.split s [c] = cutAt c s := split_cut c s _ (Nat.le_refl _)
theorem cutAt_pre (c : UInt8) : ∀ (p : List UInt8) (r : List UInt8), (∀ b ∈ p, b ≠ c) → cutAt c (p ++ r) = match cutAt c r with
    | [] => [p]
    | q :: qs => (p ++ q) :: qs
  | [], r, _ => by
    cases h : cutAt c r with
    | nil => exact absurd h (cutAt_ne c r)
    | cons q qs => simp [h]
  | b :: p, r, hp => by
    have hb := hp b (by simp)
    rw [List.cons_append, cutAt, if_neg hb, cutAt_pre c p r fun x hx => hp x (by simp [hx])]
    cases h : cutAt c r with
    | nil => exact absurd h (cutAt_ne c r)
    | cons q qs => rfl
theorem cutAt_none {c : UInt8} {p : List UInt8} (hp : ∀ b ∈ p, b ≠ c) : cutAt c p = [p] := by
  have := cutAt_pre c p [] hp
  simpa [cutAt] using this
theorem cutAt_sep {c : UInt8} {p r : List UInt8} (hp : ∀ b ∈ p, b ≠ c) : cutAt c (p ++ c :: r) = p :: cutAt c r := by
  rw [cutAt_pre c p _ hp, cutAt, if_pos rfl]
  simp
theorem cutAt_count (c : UInt8) : ∀ s : List UInt8, (cutAt c s).length = s.count c + 1
  | [] => rfl
  | b :: l => by
    have ih := cutAt_count c l
    unfold cutAt
    by_cases h : b = c
    · subst h; simp [ih]
    · rw [if_neg h, List.count_cons_of_ne h]
      cases hc : cutAt c l with
      | nil => exact absurd hc (cutAt_ne c l)
      | cons q qs => rw [hc] at ih; simpa using ih
theorem cutAt_length (c : UInt8) (s : List UInt8) : (cutAt c s).length ≤ s.length + 1 := by
  rw [cutAt_count]
  have := List.count_le_length (a := c) (l := s)
  omega
theorem cutAt_mem (c : UInt8) : ∀ (s : List UInt8), ∀ w ∈ cutAt c s, w.length ≤ s.length ∧ ∀ b ∈ w, b ≠ c
  | [], w, hw => by simp [cutAt] at hw; subst hw; simp
  | b :: l, w, hw => by
    have ih := cutAt_mem c l
    unfold cutAt at hw
    by_cases h : b = c
    · rw [if_pos h] at hw
      rcases List.mem_cons.1 hw with rfl | hw
      · simp
      · have := ih w hw; exact ⟨by simp; omega, this.2⟩
    · rw [if_neg h] at hw
      cases hc : cutAt c l with
      | nil => exact absurd hc (cutAt_ne c l)
      | cons q qs =>
        rw [hc] at hw ih
        rcases List.mem_cons.1 hw with rfl | hw
        · have := ih q (by simp)
          refine ⟨by simp; omega, fun x hx => ?_⟩
          rcases List.mem_cons.1 hx with rfl | hx
          · exact h
          · exact this.2 x hx
        · have := ih w (by simp [hw]); exact ⟨by simp; omega, this.2⟩
/-! ### cut off what is of some kind -/
theorem trim_empty {s cs : List UInt8} : Lib.trimS s cs = [] ↔ ∀ b ∈ s, cs.contains b = true := by
  unfold Lib.trimS Lib.trimLeftS Lib.trimRightS
  have key : ∀ l : List UInt8, l.dropWhile (cs.contains ·) = [] ↔ ∀ b ∈ l, cs.contains b = true := by
    intro l
    induction l with
    | nil => simp
    | cons b l ih =>
      rw [List.dropWhile_cons]
      by_cases h : cs.contains b = true
      · rw [if_pos h, ih, List.forall_mem_cons]; exact ⟨fun a => ⟨h, a⟩, fun a => a.2⟩
      · rw [if_neg h, List.forall_mem_cons]; exact ⟨fun a => (by cases a), fun a => absurd a.1 h⟩
  rw [key]
  constructor
  · intro h b hb
    by_cases hc : cs.contains b = true
    · exact hc
    · have h2 : (s.reverse.dropWhile (cs.contains ·)) = [] := by
        cases hd : s.reverse.dropWhile (cs.contains ·) with
        | nil => rfl
        | cons x xs =>
          have hx : ¬ cs.contains x = true := by
            have := List.head_dropWhile_not (cs.contains ·) (l := s.reverse) (by rw [hd]; simp)
            simp only [hd, List.head_cons] at this
            simpa using this
          exact absurd (h x (by rw [hd]; simp)) hx
      exact (key s.reverse).1 h2 b (by simpa using hb)
  · intro h b hb
    have := List.mem_reverse.1 hb
    exact h b (by simpa using List.dropWhile_sublist _ |>.subset this)
/-! ### names -/
def goAt (s : List UInt8) : Nat → List (List UInt8) → Int
  | _, [] => -1
  | i, x :: r => if x = s then (i : Int) else goAt s (i + 1) r
namespace spec_l30At
theorem law (xs : List (List UInt8)) (s : List UInt8) (hx : xs.length ≤ 1048576) : impl (xs, s, ()) = some (goAt s 0 xs, ()) := by
  rw [impl_eq]; unfold F0
  refine up_list0 xs [] (fun i => L2 (xs, s, (i : Int), ())) (fun i r => some (goAt s i r, ())) ?_ ?_
  · rw [L2_eq]; unfold F2; grind [goAt]
  · intro i hi ih
    rw [L2_eq]; unfold F2; simp (disch := omega) only [inb_nat, cast_lt, Int.toNat_natCast, wI_succ]; grind [goAt]
end spec_l30At
namespace slices_Index_of
theorem law (xs : List (List UInt8)) (s : List UInt8) (hx : xs.length ≤ 1048576) : impl (xs, s, ()) = some (goAt s 0 xs, ()) := by
  rw [impl_eq]; unfold F0
  refine up_list0 xs [] (fun i => L2 (xs, s, (xs.length : Int), (i : Int), ())) (fun i r => some (goAt s i r, ())) ?_ ?_
  · rw [L2_eq]; unfold F2; grind [goAt]
  · intro i hi ih
    rw [L2_eq]; unfold F2; simp (disch := omega) only [inb_nat, cast_lt, Int.toNat_natCast, wI_succ]; grind [goAt]
end slices_Index_of
def isLow (b : UInt8) : Bool := decide (97 ≤ b.toNat) && decide (b.toNat ≤ 122)
def nameOk (s : List UInt8) : Bool := s.all isLow && decide (1 ≤ s.length) && decide (s.length ≤ 8)
namespace spec_l30Name
theorem law (s : List UInt8) (hx : s.length ≤ 1048576) : impl (s, ()) = some (nameOk s, ()) := by
  rw [impl_eq]; unfold F0
  refine (up_list0 s 0 (fun i => L2 (s, (i : Int), ())) (fun i r => some (r.all isLow && (decide (1 ≤ s.length) && decide (s.length ≤ 8)), ())) ?_ ?_).trans (by simp [nameOk, Bool.and_assoc])
  · rw [L2_eq]; unfold F2; rw [spec_l1In.law]; grind [in3]
  · intro i hi ih
    rw [L2_eq]; unfold F2; simp (disch := omega) only [inb_nat, cast_lt, Int.toNat_natCast, wI_succ]; grind [isLow]
end spec_l30Name
theorem contains_az (b : UInt8) : ([97, 98, 99, 100, 101, 102, 103, 104, 105, 106, 107, 108, 109, 110, 111, 112, 113, 114, 115, 116, 117, 118, 119, 120, 121, 122] : List UInt8).contains b = isLow b := by
  have : ∀ n : Fin 256, ([97, 98, 99, 100, 101, 102, 103, 104, 105, 106, 107, 108, 109, 110, 111, 112, 113, 114, 115, 116, 117, 118, 119, 120, 121, 122] : List UInt8).contains (UInt8.ofNat n.val) = isLow (UInt8.ofNat n.val) := by decide +kernel
  have h := this ⟨b.toNat, b.toNat_lt⟩
  simpa using h
theorem trim_az (s : List UInt8) : (Lib.trimS s [97, 98, 99, 100, 101, 102, 103, 104, 105, 106, 107, 108, 109, 110, 111, 112, 113, 114, 115, 116, 117, 118, 119, 120, 121, 122] == []) = s.all isLow := by
  rw [Bool.eq_iff_iff, beq_iff_eq, trim_empty, List.all_eq_true]
  simp only [contains_az]
namespace impl_nameOk
theorem law (s : List UInt8) (hx : s.length ≤ 1048576) : impl (s, ()) = some (nameOk s, ()) := by
  rw [impl_eq]; unfold F0
  rw [impl_in.law, Option.bind_some]
  have : lib_Trim.impl (s, [97, 98, 99, 100, 101, 102, 103, 104, 105, 106, 107, 108, 109, 110, 111, 112, 113, 114, 115, 116, 117, 118, 119, 120, 121, 122], ()) = some (Lib.trimS s [97, 98, 99, 100, 101, 102, 103, 104, 105, 106, 107, 108, 109, 110, 111, 112, 113, 114, 115, 116, 117, 118, 119, 120, 121, 122], ()) := by
    show trimI _ = _
    unfold trimI
    rw [show (decide (s.length ≤ 9223372036854775807)) = true from decide_eq_true (by omega)]
    rfl
  rw [this, Option.bind_some, trim_az]
  unfold nameOk
  grind [in3]
end impl_nameOk
namespace slices_Contains_of
theorem law (xs : List (List UInt8)) (s : List UInt8) (hx : xs.length ≤ 1048576) : impl (xs, s, ()) = some (decide (goAt s 0 xs ≥ 0), ()) := by
  rw [impl_eq]; unfold F0
  rw [slices_Index_of.law _ _ hx]; rfl
end slices_Contains_of
/-- names, each once, behind those that were there -/
def namesGo (old : List (List UInt8)) : List (List UInt8) → Bool
  | [] => true
  | x :: r => nameOk x && (!decide (goAt x 0 old ≥ 0) && namesGo (old ++ [x]) r)
def namesOk (xs : List (List UInt8)) : Bool := decide (xs.length ≤ 5) && namesGo [] xs
theorem namesGo_mem : ∀ (xs old : List (List UInt8)), namesGo old xs = true → ∀ x ∈ xs, nameOk x = true
  | [], _, _, x, hx => by cases hx
  | y :: r, old, h, x, hx => by
    simp only [namesGo, Bool.and_eq_true] at h
    rcases List.mem_cons.1 hx with rfl | hx
    · exact h.1
    · exact namesGo_mem r _ h.2.2 x hx
theorem namesOk_mem {xs : List (List UInt8)} (h : namesOk xs = true) : xs.length ≤ 5 ∧ ∀ x ∈ xs, nameOk x = true := by
  simp only [namesOk, Bool.and_eq_true, decide_eq_true_eq] at h
  exact ⟨h.1, namesGo_mem xs [] h.2⟩
theorem nameOk_len {x : List UInt8} (h : nameOk x = true) : 1 ≤ x.length ∧ x.length ≤ 8 := by
  simp only [nameOk, Bool.and_eq_true, decide_eq_true_eq] at h
  exact ⟨h.1.2, h.2⟩
def szS (xs : List (List UInt8)) : Nat := (xs.map List.length).sum + xs.length
theorem szS_mem {xs : List (List UInt8)} {x : List UInt8} (h : x ∈ xs) : x.length + 1 ≤ szS xs := by
  unfold szS
  induction xs with
  | nil => cases h
  | cons y r ih =>
    simp only [List.map_cons, List.sum_cons, List.length_cons]
    rcases List.mem_cons.1 h with rfl | h
    · omega
    · have := ih h; omega
namespace spec_NamesValid
theorem law (xs : List (List UInt8)) (hx : szS xs ≤ 1048576) : impl (xs, ()) = some (namesOk xs, ()) := by
  have hl : xs.length ≤ 1048576 := by unfold szS at hx; omega
  rw [impl_eq]; unfold F0
  refine (up_list0 xs [] (fun i => L2 (xs, (i : Int), ())) (fun i r => some (namesGo (xs.take i) r && decide (xs.length ≤ 5), ())) ?_ ?_).trans (by simp [namesOk, Bool.and_comm])
  · rw [L2_eq]; unfold F2; rw [show decide ((xs.length : Int) ≤ 5) = decide (xs.length ≤ 5) from decide_eq_decide.2 (by omega)]; grind [namesGo]
  · intro i hi ih
    have hm := szS_mem (getD_mem (d := []) hi)
    rw [L2_eq]; unfold F2; rw [L4_eq]; unfold F4; simp (disch := omega) only [inb_nat, cast_lt, Int.toNat_natCast, wI_succ]
    rw [spec_l30Name.law _ (by omega), List.drop_zero, spec_l30At.law _ _ (by simp; omega)]
    rw [take_snoc [] hi] at ih
    grind [namesGo]
end spec_NamesValid
namespace impl_NamesValid
theorem law (xs : List (List UInt8)) (hx : szS xs ≤ 1048576) : impl (xs, ()) = some (namesOk xs, ()) := by
  have hl : xs.length ≤ 1048576 := by unfold szS at hx; omega
  rw [impl_eq]; unfold F0
  have h := up_list0 xs [] (fun i => L4 (xs, xs, (xs.length : Int), (i : Int), ())) (fun i r => some (namesGo (xs.take i) r, ())) (by
    rw [L4_eq]; unfold F4; grind [namesGo]) (by
    intro i hi ih
    have hm := szS_mem (getD_mem (d := []) hi)
    rw [L4_eq]; unfold F4; simp (disch := omega) only [inb_nat, cast_lt, Int.toNat_natCast, wI_succ]
    rw [impl_nameOk.law _ (by omega), List.drop_zero, slices_Contains_of.law _ _ (by simp; omega)]
    rw [take_snoc [] hi] at ih
    grind [namesGo])
  rw [List.take_zero] at h
  unfold namesOk
  grind
end impl_NamesValid
/-! ### decimals -/
theorem itoa_len (n : Int) (h1 : -9223372036854775808 ≤ n) (h2 : n ≤ 9223372036854775807) : (Lib.itoa n).length ≤ 20 := by
  have h3 : ∀ (k u : Nat), u < 10 ^ (k + 1) → Lib.nDigits u ≤ k + 1 := by
    intro k
    induction k with
    | zero => intro u hu; rw [Lib.nDigits_small (by omega)]; omega
    | succ k ih =>
      intro u hu
      by_cases hs : u < 10
      · rw [Lib.nDigits_small hs]; omega
      · rw [Lib.nDigits_big hs]
        have := ih (u / 10) (by rw [Nat.pow_succ] at hu; omega)
        omega
  have key : ∀ u : Nat, u < 10 ^ 19 → (Lib.decDigits u).length ≤ 19 := fun u hu => by
    rw [Lib.decDigits_length]
    exact h3 18 u hu
  unfold Lib.itoa
  split
  · have := key n.natAbs (by omega)
    simp; omega
  · have := key n.toNat (by omega)
    omega
namespace spec_l40Dec
theorem dig (d : Nat) (h : d < 10) : strOf ([IntKind.u8.wrap (wI (48 + (d : Int)))] : List Int) = [UInt8.ofNat (48 + d)] := by
  have : ∀ d : Fin 10, strOf ([IntKind.u8.wrap (wI (48 + (d.val : Int)))] : List Int) = [UInt8.ofNat (48 + d.val)] := by decide +kernel
  exact this ⟨d, h⟩
theorem loop (G : PI → Option PO) : ∀ (k n : Nat) (acc : List UInt8), n < 10 ^ (k + 1) → n ≤ 9223372036854775807 → acc.length + k ≤ 1000 → L6 G ((n : Int), acc, ()) = some (Lib.decDigits n ++ acc, ())
  | k, n, acc, hn, hm, ha => by
    rw [L6_eq]; unfold F6
    by_cases h9 : n < 10
    · rw [decide_eq_false (show ¬ ((n : Int) > 9) by omega), cond_false, dig n h9, Lib.decDigits_one h9]
      rw [decide_eq_true (by simp; omega)]
      rfl
    · rw [decide_eq_true (show (n : Int) > 9 by omega), cond_true]
      have e1 : Int.tmod (n : Int) 10 = ((n % 10 : Nat) : Int) := rfl
      have e2 : wI (Int.tdiv (n : Int) 10) = ((n / 10 : Nat) : Int) := by
        rw [show Int.tdiv (n : Int) 10 = ((n / 10 : Nat) : Int) from rfl]
        exact wI_small (by omega) (by omega)
      rw [e1, e2, dig (n % 10) (by omega)]
      rw [decide_eq_true (by simp; omega), cond_true]
      match k, hn, ha with
      | 0, hn, _ => simp at hn; omega
      | k + 1, hn, ha =>
        rw [loop G k (n / 10) _ (by rw [Nat.pow_succ] at hn; omega) (by omega) (by simp; omega)]
        conv => rhs; rw [Lib.decDigits, dif_neg h9]
        simp
theorem pos (n : Int) (h0 : 0 ≤ n) (h2 : n ≤ 9223372036854775807) : impl (n, ()) = some (Lib.itoa n, ()) := by
  rw [impl_eq]; unfold F0
  rw [decide_eq_false (show ¬ n < -9223372036854775807 by omega), cond_false, decide_eq_false (show ¬ n < 0 by omega), cond_false]
  have := loop impl 19 n.toNat [] (by omega) (by omega) (by simp)
  rw [Int.toNat_of_nonneg h0] at this
  rw [this, Lib.itoa, if_neg (by omega), List.append_nil]
theorem law (n : Int) (h1 : -9223372036854775808 ≤ n) (h2 : n ≤ 9223372036854775807) : impl (n, ()) = some (Lib.itoa n, ()) := by
  by_cases h : n < 0
  · rw [impl_eq]; unfold F0
    by_cases hm : n < -9223372036854775807
    · rw [decide_eq_true hm, cond_true]
      have : n = -9223372036854775808 := by omega
      subst this
      have hd : Lib.decDigits 9223372036854775808 = [57, 50, 50, 51, 51, 55, 50, 48, 51, 54, 56, 53, 52, 55, 55, 53, 56, 48, 56] := by
        rw [Lib.decDigits_eq]; decide +kernel
      rw [Lib.itoa, if_pos (by omega), show (-9223372036854775808 : Int).natAbs = 9223372036854775808 from rfl, hd]
    · rw [decide_eq_false hm, cond_false, decide_eq_true h, cond_true]
      have e : wI (0 - n) = -n := by rw [wI_small (by omega) (by omega)]; omega
      rw [e, pos (-n) (by omega) (by omega), Option.bind_some]
      have hi : Lib.itoa (-n) = Lib.decDigits n.natAbs := by
        rw [Lib.itoa, if_neg (by omega)]
        congr 1
        omega
      have hl := itoa_len (-n) (by omega) (by omega)
      rw [decide_eq_true (by simp; omega), cond_true]
      rw [hi, Lib.itoa, if_pos h]
      rfl
  · exact pos n (by omega) h2
end spec_l40Dec
/-! ### numbers with a space between -/
def numsOk (xs : List Int) : Bool := xs.all fun x => in3 x (-9999) 9999
theorem all_range {α : Type} {xs : List α} {d : α} {p : α → Bool} : ((List.range' 0 xs.length).all fun i => p (xs.getD i d)) = xs.all p := by
  rw [Bool.eq_iff_iff, range_all, List.all_eq_true]
  constructor
  · intro h x hx
    obtain ⟨i, hi, rfl⟩ := List.getElem_of_mem hx
    have := h i hi
    rwa [getD_eq hi] at this
  · intro h i hi
    rw [getD_eq hi]
    exact h _ (List.getElem_mem hi)
namespace spec_l31Numbers
theorem law (xs : List Int) (hx : xs.length ≤ 1048576) : impl (xs, ()) = some (numsOk xs, ()) := by
  rw [impl_eq]; unfold F0
  have h := up_all (R := PO) (fun i => L2 (xs, (i : Int), ())) xs.length (fun i => in3 (xs.getD i 0) (-9999) 9999) (false, ()) (true, ()) (fun i hi => by
    show L2 _ = _
    rw [L2_eq]; unfold F2
    rw [lt_len, inb_true hi, wI_succ (by omega), Int.toNat_natCast]
    simp only [hi, decide_true, cond_true]
    rw [spec_l1In.law, Option.bind_some]
    cases in3 (xs.getD i 0) (-9999) 9999 <;> rfl) (by
    show L2 _ = _
    rw [L2_eq]; unfold F2; simp) xs.length 0 (by omega)
  rw [all_range (p := fun x => in3 x (-9999) 9999)] at h
  refine (show _ = _ from h).trans ?_
  unfold numsOk
  cases xs.all fun x => in3 x (-9999) 9999 <;> rfl
end spec_l31Numbers
theorem numsOk_iff {xs : List Int} : numsOk xs = true ↔ ∀ x ∈ xs, -9999 ≤ x ∧ x ≤ 9999 := by
  unfold numsOk
  rw [List.all_eq_true]
  exact ⟨fun h x hx => in3_iff.1 (h x hx), fun h x hx => in3_iff.2 (h x hx)⟩
def rowOfInts (xs : List Int) : List UInt8 := (xs.map fun x => 32 :: Lib.itoa x).flatten
theorem rowOfInts_len (xs : List Int) (h : ∀ x ∈ xs, -9223372036854775808 ≤ x ∧ x ≤ 9223372036854775807) : (rowOfInts xs).length ≤ 21 * xs.length := by
  induction xs with
  | nil => simp [rowOfInts]
  | cons x xs ih =>
    have h1 := itoa_len x (h x (by simp)).1 (h x (by simp)).2
    have h2 := ih fun y hy => h y (by simp [hy])
    simp only [rowOfInts, List.map_cons, List.flatten_cons, List.length_append, List.length_cons] at h2 ⊢
    omega
namespace spec_l31Row
theorem law (xs : List Int) (hx : xs.length ≤ 1048576) (hb : ∀ x ∈ xs, -9223372036854775808 ≤ x ∧ x ≤ 9223372036854775807) : impl (xs, ()) = some (rowOfInts xs, ()) := by
  rw [impl_eq]; unfold F0
  have key : ∀ d i (acc : List UInt8), i + d = xs.length → acc.length ≤ 21 * i → L3 (xs, acc, (i : Int), ()) = some (acc ++ rowOfInts (xs.drop i), ()) := by
    intro d
    induction d with
    | zero =>
      intro i acc hi ha
      have : i = xs.length := by omega
      subst this
      rw [L3_eq]; unfold F3
      simp [rowOfInts]
    | succ d ih =>
      intro i acc hi ha
      have hlt : i < xs.length := by omega
      have hm := hb _ (getD_mem (d := 0) hlt)
      have hl := itoa_len _ hm.1 hm.2
      rw [L3_eq]; unfold F3
      rw [lt_len, decide_eq_true hlt, cond_true, decide_eq_true (show acc.length + ([32] : List UInt8).length ≤ 140737488355328 by simp; omega), cond_true, inb_true hlt, cond_true, Int.toNat_natCast, spec_l40Dec.law _ hm.1 hm.2, Option.bind_some]
      rw [decide_eq_true (by simp only [List.length_append, List.length_cons, List.length_nil]; omega), cond_true, wI_succ (by omega), ih (i + 1) _ (by omega) (by simp only [List.length_append, List.length_cons, List.length_nil]; omega)]
      rw [show rowOfInts (xs.drop i) = 32 :: Lib.itoa xs[i] ++ rowOfInts (xs.drop (i + 1)) by rw [List.drop_eq_getElem_cons hlt]; rfl, getD_eq hlt]
      simp
  have := key xs.length 0 [] (by omega) (by simp)
  simpa using this
end spec_l31Row
theorem row_join (x : Int) (xs : List Int) : (rowOfInts (x :: xs)).drop 1 = Lib.join ((x :: xs).map Lib.itoa) [32] := by
  rw [List.map_cons, Lib.join_cons]
  simp [rowOfInts, Lib.joinTail, Function.comp_def]
theorem itoa_law (n : Int) (h1 : -9223372036854775808 ≤ n) (h2 : n ≤ 9223372036854775807) : lib_Itoa.impl (n, ()) = some (Lib.itoa n, ()) := by
  show itoaI _ = _
  unfold itoaI
  rw [show (decide (-9223372036854775808 ≤ n) && decide (n ≤ 9223372036854775807)) = true by simp [h1, h2]]
  rfl
theorem join_len {xs : List (List UInt8)} {b : Nat} (sep : List UInt8) (h : ∀ x ∈ xs, x.length ≤ b) : (Lib.join xs sep).length ≤ xs.length * (b + sep.length) := by
  have key : ∀ r : List (List UInt8), (∀ x ∈ r, x.length ≤ b) → (Lib.joinTail sep r).length ≤ r.length * (b + sep.length) := by
    intro r
    induction r with
    | nil => simp [Lib.joinTail]
    | cons y r ih =>
      intro hr
      have h1 := hr y (by simp)
      have h2 := ih fun z hz => hr z (by simp [hz])
      have e : Lib.joinTail sep (y :: r) = sep ++ y ++ Lib.joinTail sep r := by simp [Lib.joinTail]
      rw [e, List.length_append, List.length_append, List.length_cons, Nat.add_mul]
      omega
  cases xs with
  | nil => simp [Lib.join]
  | cons x r =>
    have h1 := h x (by simp)
    have h2 := key r fun z hz => h z (by simp [hz])
    rw [Lib.join_cons, List.length_append, List.length_cons, Nat.add_mul]
    omega
theorem join_law (xs : List (List UInt8)) (sep : List UInt8) (h1 : xs.length ≤ 140737488355328) (h2 : (Lib.join xs sep).length ≤ 140737488355328) : lib_Join.impl (xs, sep, ()) = some (Lib.join xs sep, ()) := by
  show joinI _ = _
  unfold joinI
  rw [show (decide (xs.length ≤ 140737488355328) && decide ((Lib.join xs sep).length ≤ 140737488355328)) = true by simp [h1, h2]]
  rfl
def listText (xs : List Int) : List UInt8 := if xs = [] ∨ 400 < xs.length ∨ numsOk xs = false then [45] else Lib.join (xs.map Lib.itoa) [32]
namespace spec_ListText
theorem law (xs : List Int) (hx : xs.length ≤ 1048576) : impl (xs, ()) = some (listText xs, ()) := by
  rw [impl_eq]; unfold F0
  cases xs with
  | nil => simp [listText]
  | cons x r =>
    rw [show (((x :: r).length : Int) == 0) = false by simp; omega, cond_false]
    by_cases h4 : 400 < (x :: r).length
    · rw [decide_eq_true (by omega), cond_true, listText, if_pos (.inr (.inl h4))]
    · rw [decide_eq_false (by omega), cond_false, spec_l31Numbers.law _ hx, Option.bind_some]
      cases hn : numsOk (x :: r) with
      | false => rw [listText, if_pos (.inr (.inr hn))]; rfl
      | true =>
        have hb := numsOk_iff.1 hn
        rw [show (!(true, ()).1) = false from rfl, cond_false, spec_l31Row.law _ hx (fun y hy => by have := hb y hy; omega), Option.bind_some]
        have hl : 1 ≤ (rowOfInts (x :: r)).length := by simp [rowOfInts]
        rw [show (decide ((1 : Int) ≤ ((rowOfInts (x :: r)).length : Int)) && decide (((rowOfInts (x :: r)).length : Int) ≤ ((rowOfInts (x :: r)).length : Int))) = true by simp; omega, cond_true]
        rw [Int.toNat_natCast, List.take_length, row_join, listText, if_neg (by simp [hn]; simpa using h4)]
end spec_ListText
namespace impl_ListText
theorem loop (xs : List Int) (hx : xs.length ≤ 400) : ∀ d i (acc : List (List UInt8)), i + d = xs.length → acc = (xs.take i).map Lib.itoa → (∀ j, j < i → in3 (xs.getD j 0) (-9999) 9999 = true) →
    L5 (xs, (xs.length : Int), (i : Int), acc, ()) = some (if numsOk xs then Lib.join (xs.map Lib.itoa) [32] else [45], ())
  | 0, i, acc, hi, ha, hok => by
    have : i = xs.length := by omega
    subst this
    rw [List.take_length] at ha
    subst ha
    have hn : numsOk xs = true := by
      unfold numsOk
      rw [← all_range (d := 0), range_all]
      exact hok
    have hb := numsOk_iff.1 hn
    rw [L5_eq]; unfold F5
    rw [decide_eq_false (by omega), cond_false, if_pos hn]
    have hlen : (Lib.join (xs.map Lib.itoa) [32]).length ≤ 140737488355328 := by
      cases xs with
      | nil => simp [Lib.join]
      | cons x r =>
        rw [← row_join]
        have := rowOfInts_len (x :: r) (fun y hy => by have := hb y hy; omega)
        rw [List.length_drop]
        omega
    have : lib_Join.impl (xs.map Lib.itoa, [32], ()) = some (Lib.join (xs.map Lib.itoa) [32], ()) := by
      show joinI _ = _
      unfold joinI
      rw [show (decide ((xs.map Lib.itoa).length ≤ 140737488355328) && decide ((Lib.join (xs.map Lib.itoa) [32]).length ≤ 140737488355328)) = true by simp only [Bool.and_eq_true, decide_eq_true_eq, List.length_map]; omega]
      rfl
    rw [this]
    rfl
  | d + 1, i, acc, hi, ha, hok => by
    have hlt : i < xs.length := by omega
    rw [L5_eq]; unfold F5
    rw [decide_eq_true (by omega), cond_true, inb_true hlt, cond_true, Int.toNat_natCast, impl_in.law, Option.bind_some]
    cases hc : in3 (xs.getD i 0) (-9999) 9999 with
    | false =>
      have hn : numsOk xs = false := by
        rw [Bool.eq_false_iff]
        intro h
        rw [numsOk, List.all_eq_true] at h
        rw [h _ (getD_mem hlt)] at hc
        cases hc
      rw [hn]
      rfl
    | true =>
      rw [show (!(true, ()).1) = false from rfl, cond_false]
      have hm := in3_iff.1 hc
      have : lib_Itoa.impl (xs.getD i 0, ()) = some (Lib.itoa (xs.getD i 0), ()) := by
        show itoaI _ = _
        unfold itoaI
        rw [show (decide (-9223372036854775808 ≤ xs.getD i 0) && decide (xs.getD i 0 ≤ 9223372036854775807)) = true by simp only [Bool.and_eq_true, decide_eq_true_eq]; omega]
        rfl
      rw [this, Option.bind_some]
      have hal : acc.length = i := by rw [ha]; simp; omega
      rw [decide_eq_true (by simp [hal]; omega), cond_true, wI_succ (by omega)]
      refine loop xs hx d (i + 1) _ (by omega) ?_ fun j hj => ?_
      · rw [ha, List.take_add_one, List.map_append, List.getElem?_eq_getElem hlt, getD_eq hlt]
        rfl
      · rcases Nat.lt_or_ge j i with h | h
        · exact hok j h
        · have : j = i := by omega
          subst this; exact hc
theorem law (xs : List Int) (hx : xs.length ≤ 1048576) : impl (xs, ()) = some (listText xs, ()) := by
  rw [impl_eq]; unfold F0
  rw [impl_in.law, Option.bind_some]
  cases hc : in3 (xs.length : Int) 1 400 with
  | false =>
    rw [listText, if_pos]
    · rfl
    · by_cases h0 : xs = []
      · exact .inl h0
      · right; left
        have : 0 < xs.length := List.length_pos_iff.2 h0
        rcases Nat.lt_or_ge 400 xs.length with h | h
        · exact h
        · rw [in3_iff.2 (by omega)] at hc; cases hc
  | true =>
    have hm := in3_iff.1 hc
    rw [show (!(true, ()).1) = false from rfl, cond_false]
    have := loop xs (by omega) xs.length 0 [] (by omega) rfl (fun j hj => by omega)
    refine this.trans ?_
    unfold listText
    by_cases hn : numsOk xs = true
    · rw [if_pos hn, if_neg]
      rintro (h | h | h)
      · subst h; simp at hm
      · omega
      · rw [hn] at h; cases h
    · rw [if_neg hn, if_pos (.inr (.inr (by simpa using hn)))]
end impl_ListText
/-! ### numbers are read -/
theorem nDig_le : ∀ (k u : Nat), u < 10 ^ (k + 1) → Lib.nDigits u ≤ k + 1 := by
  intro k
  induction k with
  | zero => intro u hu; rw [Lib.nDigits_small (by omega)]; omega
  | succ k ih =>
    intro u hu
    by_cases hs : u < 10
    · rw [Lib.nDigits_small hs]; omega
    · rw [Lib.nDigits_big hs]
      have := ih (u / 10) (by rw [Nat.pow_succ] at hu; omega)
      omega
theorem canon_len {l : List UInt8} (h : canon l = true) (hv : valD l ≤ 9999) : l.length ≤ 4 := by
  have := dec_val h
  rw [← this, Lib.decDigits_length]
  exact nDig_le 3 _ (by omega)
def foldD (acc : Nat) (l : List UInt8) : Nat := l.foldl (fun a c => a * 10 + (c.toNat - 48)) acc
theorem u8_sub {c : UInt8} (h : isDig c = true) : wI (IntKind.u8.wrap ((c.toNat : Int) - 48)) = ((c.toNat - 48 : Nat) : Int) := by
  have : ∀ n : Fin 10, wI (IntKind.u8.wrap (((n.val + 48 : Nat) : Int) - 48)) = ((n.val : Nat) : Int) := by decide +kernel
  have hd := isDig_iff.1 h
  have h1 := this ⟨c.toNat - 48, by omega⟩
  simp only at h1
  rw [show c.toNat - 48 + 48 = c.toNat by omega] at h1
  exact h1
namespace spec_l40Num
theorem loop (t : List UInt8) (neg : Bool) (ht : t.length ≤ 17) : L8 (t, neg, 0, 0, ()) = some (if t.all isDig = true then (if neg then -(valD t : Int) else (valD t : Int), true, ()) else (0, false, ())) := by
  refine up_list (S := Nat) t 0 (fun i a => a < 10 ^ i) (fun i a => L8 (t, neg, (a : Int), (i : Int), ())) (fun i r a => some (if r.all isDig = true then (if neg then -(foldD a r : Int) else (foldD a r : Int), true, ()) else (0, false, ()))) ?_ ?_ 0 (by decide)
  · intro a ha
    have h17 : 10 ^ t.length ≤ 10 ^ 17 := Nat.pow_le_pow_right (by decide) ht
    rw [L8_eq]; unfold F8; simp (disch := omega) only [inb_nat, cast_lt, Int.toNat_natCast, wI_succ]
    rw [decide_eq_false (Nat.lt_irrefl _), cond_false, wI_small (n := 0 - (a : Int)) (by omega) (by omega)]
    cases neg
    · simp [foldD]
    · simp [foldD]
  · intro i a hi ha ih
    have h17 : 10 ^ i ≤ 10 ^ 17 := Nat.pow_le_pow_right (by decide) (by omega)
    rw [L8_eq]; unfold F8; simp (disch := omega) only [inb_nat, cast_lt, Int.toNat_natCast, wI_succ]
    rw [decide_eq_true hi, cond_true, cond_true, cond_true]
    rw [List.all_cons]
    obtain ⟨c, hc⟩ : ∃ c, t.getD i 0 = c := ⟨_, rfl⟩
    simp only [hc]
    cases hd : isDig c with
    | false =>
      have : ¬ (48 ≤ c.toNat ∧ c.toNat ≤ 57) := fun h => by rw [isDig_iff.2 h] at hd; cases hd
      by_cases h1 : c.toNat < 48
      · rw [decide_eq_true (by omega)]; simp
      · rw [decide_eq_false (by omega), decide_eq_true (by omega)]; simp
    | true =>
      have h1 := isDig_iff.1 hd
      rw [decide_eq_false (by omega), cond_false, decide_eq_false (by omega), cond_false, L12_eq]; unfold F12; simp (disch := omega) only [inb_nat, cast_lt, Int.toNat_natCast, wI_succ]
      rw [hc, u8_sub hd, decide_eq_true hi, cond_true, wI_small (n := (a : Int) * 10) (by omega) (by omega), wI_small (by omega) (by omega)]
      rw [show (a : Int) * 10 + ((c.toNat - 48 : Nat) : Int) = ((a * 10 + (c.toNat - 48) : Nat) : Int) by omega, ih _ (by rw [Nat.pow_succ]; omega)]
      rfl
theorem mid (t : List UInt8) (neg : Bool) : L4 (t, neg, ()) = some (if canon t = true ∧ t.length ≤ 17 ∧ ¬ (neg = true ∧ t = [48]) then (if neg then -(valD t : Int) else (valD t : Int), true, ()) else (0, false, ())) := by
  rw [L4_eq]; unfold F4
  cases t with
  | nil => simp [canon]
  | cons c r =>
    rw [isEmpty_len]
    simp only [List.isEmpty_cons, cond_false]
    by_cases hl : (c :: r).length ≤ 17
    rotate_left
    · rw [decide_eq_true (show ((c :: r).length : Int) > 17 by omega)]; simp; intro _ h; simp at hl; omega
    rw [decide_eq_false (show ¬ ((c :: r).length : Int) > 17 by omega), cond_false, inb_int (i := 0) (n := (c :: r).length) (by omega) (by simp), cond_true]
    have hl6 : L6 (c :: r, neg, ()) = some (if (c :: r).all isDig = true then (if neg then -(valD (c :: r) : Int) else (valD (c :: r) : Int), true, ()) else (0, false, ())) := by
      rw [L6_eq]; unfold F6; exact loop _ _ hl
    have e0 : (c :: r).getD 0 0 = c := rfl
    rw [e0, hl6]
    by_cases hc : c = 48
    · subst hc
      rw [show (((48 : UInt8).toNat : Int) == 48) = true from rfl, cond_true]
      cases r with
      | nil =>
        have hk : canon [48] = true := by decide
        have hd : ([48] : List UInt8).all isDig = true := by decide
        rw [decide_eq_false (by simp), cond_false]
        cases neg
        · simp [hk, hd]
        · simp [hk]
      | cons d r =>
        rw [decide_eq_true (by simp; omega), cond_true]
        have hk : canon (48 :: d :: r) = false := by simp [canon]
        simp [hk]
    · have : (((c.toNat : Int)) == 48) = false := by
        rw [beq_eq_false_iff_ne]
        intro e
        apply hc
        have : c.toNat = 48 := by omega
        rw [← UInt8.toNat_inj]; exact this
      rw [this, cond_false]
      have hk : canon (c :: r) = (c :: r).all isDig := by simp [canon, hc]
      have hne : c :: r ≠ [48] := fun e => hc (by simp at e; exact e.1)
      rw [hk]
      simp only [hl, hne, and_false, not_false_eq_true, and_true]
/-- what is said: a number in bounds, as it must be written, or not -/
theorem law (s : List UInt8) : ∃ n ok, impl (s, ()) = some (n, ok, ()) ∧ (ok && in3 n (-9999) 9999) = (numT s).isSome ∧ ∀ v, numT s = some v → n = v := by
  rw [impl_eq]; unfold F0
  have plain : ∀ t : List UInt8, (∀ r, t ≠ 45 :: r) → ∃ n ok, L4 (t, false, ()) = some (n, ok, ()) ∧ (ok && in3 n (-9999) 9999) = (numT t).isSome ∧ ∀ v, numT t = some v → n = v := by
    intro t ht
    rw [mid]
    have hn : numT t = if canon t = true ∧ valD t ≤ 9999 then some (valD t : Int) else none := by
      unfold numT
      split
      · rename_i r; exact absurd rfl (ht r)
      · rfl
    rw [hn]
    by_cases hc : canon t = true
    · by_cases hv : valD t ≤ 9999
      · have := canon_len hc hv
        refine ⟨_, _, by rw [if_pos ⟨hc, by omega, by simp⟩], ?_, ?_⟩
        · simp [hc, hv, in3] <;> omega
        · intro v hv'; simp [hc, hv] at hv'; simp [hv']
      · by_cases hl : t.length ≤ 17
        · refine ⟨_, _, by rw [if_pos ⟨hc, hl, by simp⟩], ?_, ?_⟩
          · simp [hc, hv, in3] <;> omega
          · intro v hv'; simp [hc, hv] at hv'
        · refine ⟨_, _, by rw [if_neg (fun h => hl h.2.1)], ?_, ?_⟩
          · simp [hc, hv]
          · intro v hv'; simp [hc, hv] at hv'
    · refine ⟨_, _, by rw [if_neg (fun h => hc h.1)], ?_, ?_⟩
      · simp [hc]
      · intro v hv'; simp [hc] at hv'
  cases s with
  | nil =>
    rw [decide_eq_false (by simp), cond_false, L2_eq]; unfold F2
    exact plain [] (fun r h => by cases h)
  | cons c r =>
    rw [decide_eq_true (by simp <;> omega), cond_true, inb_int (i := 0) (n := (c :: r).length) (by omega) (by simp), cond_true, L2_eq]; unfold F2
    have e0 : (c :: r).getD 0 0 = c := rfl
    rw [e0]
    by_cases hc : c = 45
    · subst hc
      rw [show (((45 : UInt8).toNat : Int) == 45) = true from rfl, cond_true]
      have : (decide ((1 : Int) ≤ ((45 :: r : List UInt8).length : Int)) && decide (((45 :: r : List UInt8).length : Int) ≤ ((45 :: r : List UInt8).length : Int))) = true := by simp; omega
      rw [this, cond_true, Int.toNat_natCast, List.take_length, List.drop_succ_cons, List.drop_zero, mid]
      have hn : numT (45 :: r) = if canon r = true ∧ r ≠ [48] ∧ valD r ≤ 9999 then some (-(valD r : Int)) else none := rfl
      rw [hn]
      by_cases hk : canon r = true ∧ r ≠ [48]
      · by_cases hv : valD r ≤ 9999
        · have := canon_len hk.1 hv
          refine ⟨_, _, by rw [if_pos ⟨hk.1, by omega, by simp [hk.2]⟩], ?_, ?_⟩
          · simp [hk.1, hk.2, hv, in3] <;> omega
          · intro v hv'; simp [hk.1, hk.2, hv] at hv'; simp [hv']
        · by_cases hl : r.length ≤ 17
          · refine ⟨_, _, by rw [if_pos ⟨hk.1, hl, by simp [hk.2]⟩], ?_, ?_⟩
            · simp [hv, in3] <;> omega
            · intro v hv'; simp [hv] at hv'
          · refine ⟨_, _, by rw [if_neg (fun h => hl h.2.1)], ?_, ?_⟩
            · simp [hv]
            · intro v hv'; simp [hv] at hv'
      · have : ¬ (canon r = true ∧ r ≠ [48] ∧ valD r ≤ 9999) := fun h => hk ⟨h.1, h.2.1⟩
        refine ⟨_, _, by rw [if_neg (fun h => hk ⟨h.1, fun e => h.2.2 ⟨rfl, e⟩⟩)], ?_, ?_⟩
        · rw [if_neg this]; rfl
        · intro v hv'; rw [if_neg this] at hv'; cases hv'
    · have : (((c.toNat : Int)) == 45) = false := by
        rw [beq_eq_false_iff_ne]
        intro e
        apply hc
        have : c.toNat = 45 := by omega
        rw [← UInt8.toNat_inj]; exact this
      rw [this, cond_false]
      exact plain (c :: r) (fun r' h => hc (by simp at h; exact h.1))
end spec_l40Num
namespace impl_numberText
theorem law (s : List UInt8) (hs : s.length ≤ 1048577) : ∃ n ok, impl (s, ()) = some (n, ok, ()) ∧ ok = (numT s).isSome ∧ ∀ v, numT s = some v → n = v := by
  rw [impl_eq]; unfold F0
  have ha : lib_Atoi.impl (s, ()) = atoiI (s, ()) := rfl
  rw [ha]; unfold atoiI
  rw [show (decide (s.length ≤ 281474976710656)) = true from decide_eq_true (by omega), cond_true]
  cases hn : numT s with
  | some v =>
    obtain ⟨h1, h2, h3⟩ := numT_some hn
    simp only [atoi_numT hn, Option.bind_some, cond_true]
    rw [itoa_law v (by omega) (by omega), Option.bind_some, h1, show (s == s) = true from by simp, cond_true, impl_in.law, Option.bind_some, in3_iff.2 ⟨h2, h3⟩]
    exact ⟨_, _, rfl, rfl, fun w hw => Option.some.inj hw⟩
  | none =>
    have key : ∀ v : Int, Lib.itoa v = s → in3 v (-9999) 9999 = false := by
      intro v hv
      cases hb : in3 v (-9999) 9999 with
      | false => rfl
      | true =>
        have := in3_iff.1 hb
        rw [← hv, numT_itoa this.1 this.2] at hn
        cases hn
    rcases hat : Lib.atoiAll s with v | _ | _
    · simp only [Option.bind_some, cond_true]
      have hb : -9223372036854775808 ≤ v ∧ v ≤ 9223372036854775807 := atoi_bound hat
      rw [itoa_law v hb.1 hb.2, Option.bind_some]
      by_cases he : Lib.itoa v = s
      · rw [he, show (s == s) = true from by simp, cond_true, impl_in.law, Option.bind_some, key v he]
        exact ⟨_, _, rfl, rfl, fun w hw => by cases hw⟩
      · rw [show (Lib.itoa v == s) = false by simpa using he]
        exact ⟨_, _, rfl, rfl, fun w hw => by cases hw⟩
    · exact ⟨_, _, rfl, rfl, fun w hw => by cases hw⟩
    · exact ⟨_, _, rfl, rfl, fun w hw => by cases hw⟩
end impl_numberText
/-! ### a text is cut -/
def cutFrom (c : UInt8) (pre r : List UInt8) : List (List UInt8) := match cutAt c r with
  | [] => []
  | q :: qs => (pre ++ q) :: qs
theorem cutFrom_nil (c : UInt8) (r : List UInt8) : cutFrom c [] r = cutAt c r := by
  unfold cutFrom
  cases h : cutAt c r with
  | nil => rfl
  | cons q qs => rfl
theorem cutFrom_hit (c : UInt8) (pre r : List UInt8) : cutFrom c pre (c :: r) = pre :: cutAt c r := by
  unfold cutFrom; rw [cutAt, if_pos rfl]; simp
theorem cutFrom_miss {c b : UInt8} (h : b ≠ c) (pre r : List UInt8) : cutFrom c pre (b :: r) = cutFrom c (pre ++ [b]) r := by
  unfold cutFrom; rw [cutAt, if_neg h]
  cases hc : cutAt c r with
  | nil => exact absurd hc (cutAt_ne c r)
  | cons q qs => simp
theorem toNat_eq {b c : UInt8} : ((b.toNat : Int) == (c.toNat : Int)) = decide (b = c) := by
  rw [Bool.eq_iff_iff, beq_iff_eq, decide_eq_true_eq]
  constructor
  · intro h; rw [← UInt8.toNat_inj]; omega
  · rintro rfl; rfl
namespace spec_l40Cut
theorem law (s : List UInt8) (c : UInt8) (hs : s.length ≤ 1048577) : impl (s, (c.toNat : Int), ()) = some (cutAt c s, ()) := by
  rw [impl_eq]; unfold F0
  have key := up_list (S := Nat × List (List UInt8)) s 0 (fun i q => q.1 ≤ i ∧ q.2.length ≤ i) (fun i q => L4 (s, (c.toNat : Int), (q.1 : Int), (i : Int), q.2, ())) (fun i r q => some (q.2 ++ cutFrom c ((s.take i).drop q.1) r, ())) (by
    intro q hq
    obtain ⟨from_, acc⟩ := q
    simp only at hq
    rw [L4_eq]; unfold F4; simp (disch := omega) only [inb_nat, cast_lt, Int.toNat_natCast, wI_succ]
    rw [decide_eq_true (show (s.length : Int) ≤ (s.length : Int) by omega), cond_true, show ((s.length : Int) == (s.length : Int)) = true by simp, cond_true]
    rw [show (decide (0 ≤ (from_ : Int)) && decide ((from_ : Int) ≤ (s.length : Int)) && true) = true by simp; omega, cond_true, decide_eq_true (by simp only [List.length_append, List.length_cons, List.length_nil]; omega), cond_true, L4_eq]; unfold F4
    rw [decide_eq_false (by omega), cond_false]
    simp [cutFrom, cutAt]) (by
    intro i q hi hq ih
    obtain ⟨from_, acc⟩ := q
    simp only at hq
    rw [L4_eq]; unfold F4; simp (disch := omega) only [inb_nat, cast_lt, Int.toNat_natCast, wI_succ]
    rw [decide_eq_true (show (i : Int) ≤ (s.length : Int) by omega), cond_true, show ((i : Int) == (s.length : Int)) = false by simp; omega, cond_false, decide_eq_true hi, cond_true, toNat_eq]
    have ht := take_snoc 0 hi
    generalize s.getD i 0 = b at ht ⊢
    have hfl : ((s.take i).length) = i := by simp; omega
    by_cases hb : b = c
    · subst hb
      rw [decide_eq_true rfl, cond_true, show (decide (0 ≤ (from_ : Int)) && decide ((from_ : Int) ≤ (i : Int)) && true) = true by simp; omega, cond_true, decide_eq_true (by simp only [List.length_append, List.length_cons, List.length_nil]; omega), cond_true]
      have := ih (i + 1, acc ++ [(s.take i).drop from_]) ⟨Nat.le_refl _, by simp only [List.length_append, List.length_cons, List.length_nil]; omega⟩
      simp only at this
      rw [this, cutFrom_hit, List.drop_eq_nil_of_le (show (s.take (i + 1)).length ≤ i + 1 by simp; omega), cutFrom_nil, List.append_assoc]; rfl
    · rw [decide_eq_false hb, cond_false]
      have := ih (from_, acc) ⟨by simp only; omega, by simp only; omega⟩
      simp only at this
      rw [this, cutFrom_miss hb, ht, List.drop_append_of_le_length (by omega)])
  have k0 : L4 (s, (c.toNat : Int), 0, 0, [], ()) = _ := key (0, []) ⟨Nat.le_refl _, Nat.le_refl _⟩
  rw [k0]
  simp [cutFrom_nil]
end spec_l40Cut
theorem split_law (s : List UInt8) (c : UInt8) (hs : s.length ≤ 1048577) : lib_Split.impl (s, [c], ()) = some (cutAt c s, ()) := by
  show splitI _ = _
  unfold splitI
  rw [show (decide (s.length < 4294967281) && decide (1 ≤ ([c] : List UInt8).length)) = true by simp; omega, cond_true]
  show some (Lib.split s [c], ()) = _
  rw [split_one]
/-! ### numbers of words -/
def readNums : List (List UInt8) → Option (List Int)
  | [] => some []
  | w :: ws => match numT w with
    | none => none
    | some n => match readNums ws with
      | none => none
      | some l => some (n :: l)
def readList (s : List UInt8) : Bool × List Int :=
  if s = [45] then (true, []) else match readNums (cutAt 32 s) with
    | none => (false, [])
    | some l => if l.length ≤ 400 then (true, l) else (false, [])
theorem numsOk_one (n : Int) : numsOk [n] = in3 n (-9999) 9999 := by simp [numsOk]
namespace spec_l31Read
theorem law (ws : List (List UInt8)) (hw : ws.length ≤ 1048578) : impl (ws, ()) = some (match readNums ws with
    | none => (false, [], ())
    | some l => (true, l, ())) := by
  rw [impl_eq]; unfold F0
  refine (up_list (S := List Int) ws [] (fun i acc => acc.length = i) (fun i acc => L3 (ws, (i : Int), acc, ())) (fun i r acc => some (match readNums r with
    | none => (false, [], ())
    | some l => (true, acc ++ l, ()))) ?_ ?_ [] rfl).trans ?_
  · intro acc ha
    rw [L3_eq]; unfold F3; simp (disch := omega) only [inb_nat, cast_lt, Int.toNat_natCast, wI_succ]
    rw [decide_eq_false (Nat.lt_irrefl _), cond_false]
    simp [readNums]
  · intro i acc hi ha ih
    rw [L3_eq]; unfold F3; simp (disch := omega) only [inb_nat, cast_lt, Int.toNat_natCast, wI_succ]
    rw [decide_eq_true hi, cond_true, cond_true]
    generalize ws.getD i [] = w
    obtain ⟨n, ok, h1, h2, h3⟩ := spec_l40Num.law w
    rw [h1, Option.bind_some]
    unfold readNums
    cases hn : numT w with
    | none =>
      rw [hn] at h2
      cases ok with
      | false => rfl
      | true =>
        rw [Bool.not_true, cond_false, spec_l31Numbers.law _ (by simp), Option.bind_some, numsOk_one]
        simp only [Bool.true_and, Option.isSome_none] at h2
        rw [h2]; rfl
    | some v =>
      rw [hn] at h2
      simp only [Option.isSome_some, Bool.and_eq_true] at h2
      have := h3 v hn
      subst this
      rw [h2.1, Bool.not_true, cond_false, spec_l31Numbers.law _ (by simp), Option.bind_some, numsOk_one, h2.2, Bool.not_true, cond_false, decide_eq_true (by simp only [List.length_append, List.length_cons, List.length_nil]; omega), cond_true, ih _ (by simp [ha])]
      cases readNums (ws.drop (i + 1)) with
      | none => rfl
      | some l => simp
  · cases readNums ws <;> rfl
end spec_l31Read
namespace spec_ReadList
theorem law (s : List UInt8) (hs : s.length ≤ 1048576) : impl (s, ()) = some ((readList s).1, (readList s).2, ()) := by
  rw [impl_eq]; unfold F0 readList
  by_cases h : s = [45]
  · rw [if_pos h, show (s == [45]) = true by simp [h]]; rfl
  · rw [if_neg h, show (s == [45]) = false by simpa using h, cond_false]
    have hc : spec_l40Cut.impl (s, 32, ()) = some (cutAt 32 s, ()) := spec_l40Cut.law s 32 (by omega)
    have hl := cutAt_length 32 s
    rw [hc, Option.bind_some, spec_l31Read.law _ (by simp only; omega), Option.bind_some]
    cases readNums (cutAt 32 s) with
    | none => rfl
    | some l =>
      by_cases h4 : l.length ≤ 400
      · simp only [if_pos h4]; rw [decide_eq_false (by omega)]; rfl
      · simp only [if_neg h4]; rw [decide_eq_true (by omega)]; rfl
end spec_ReadList
namespace impl_clone_of
theorem law (xs : List Int) (hx : xs.length ≤ 1048576) : impl (xs, ()) = some (xs, ()) := by
  rw [impl_eq]; unfold F0
  cases xs with
  | nil => rfl
  | cons a r =>
    rw [isEmpty_len, show (decide (0 ≤ ((a :: r).length : Int)) && decide (((a :: r).length : Int) ≤ ((a :: r).length : Int)) && decide (((a :: r).length : Int) * 8 ≤ 140737488355328)) = true by simp; simp at hx; omega]
    simp
end impl_clone_of
namespace impl_ReadList
theorem law (s : List UInt8) (hs : s.length ≤ 1048576) : impl (s, ()) = some ((readList s).1, (readList s).2, ()) := by
  rw [impl_eq]; unfold F0 readList
  by_cases h : s = [45]
  · rw [if_pos h, show (s == [45]) = true by simp [h]]; rfl
  · rw [if_neg h, show (s == [45]) = false by simpa using h, cond_false, split_law s 32 (by omega), Option.bind_some]
    have hl := cutAt_length 32 s
    have hm := cutAt_mem 32 s
    generalize cutAt 32 s = ws at hl hm ⊢
    refine (up_list (S := List Int) ws [] (fun i acc => acc.length = i ∧ i ≤ 400) (fun i acc => L5 (ws, (ws.length : Int), (i : Int), acc, ())) (fun i r acc => some (match readNums r with
      | none => (false, [], ())
      | some l => if acc.length + l.length ≤ 400 then (true, acc ++ l, ()) else (false, [], ()))) ?_ ?_ [] ⟨rfl, by omega⟩).trans ?_
    · intro acc ha
      rw [L5_eq]; unfold F5; simp (disch := omega) only [inb_nat, cast_lt, Int.toNat_natCast, wI_succ]
      rw [decide_eq_false (Nat.lt_irrefl _), cond_false, impl_clone_of.law _ (by omega)]
      simp [readNums]; omega
    · intro i acc hi ha ih
      have hmw := (hm _ (getD_mem (d := []) hi)).1
      rw [L5_eq]; unfold F5; simp (disch := omega) only [inb_nat, cast_lt, Int.toNat_natCast, wI_succ]
      rw [decide_eq_true hi, cond_true, cond_true]
      generalize ws.getD i [] = w at hmw ⊢
      obtain ⟨n, ok, h1, h2, h3⟩ := impl_numberText.law w (by omega)
      rw [h1, Option.bind_some]
      unfold readNums
      cases hn : numT w with
      | none => rw [hn] at h2; subst h2; rfl
      | some v =>
        rw [hn] at h2
        have := h3 v hn
        subst this h2
        simp only [Option.isSome_some, Bool.not_true, cond_false]
        by_cases h4 : acc.length = 400
        · rw [show ((acc.length : Int) == 400) = true by simp; omega, cond_true]
          cases readNums (ws.drop (i + 1)) with
          | none => rfl
          | some l => simp only; rw [if_neg (by simp only [List.length_cons]; omega)]
        · rw [show ((acc.length : Int) == 400) = false by simp; omega, cond_false, decide_eq_true (by simp only [List.length_append, List.length_cons, List.length_nil]; omega), cond_true, ih _ ⟨by simp [ha.1], by omega⟩]
          cases readNums (ws.drop (i + 1)) with
          | none => rfl
          | some l =>
            simp only [List.length_append, List.length_cons, List.length_nil, List.append_assoc, List.cons_append, List.nil_append]
            have : acc.length + (0 + 1) + l.length = acc.length + (l.length + 1) := by omega
            rw [this]
    · cases readNums ws with
      | none => rfl
      | some l => by_cases h4 : l.length ≤ 400 <;> simp [h4]
end impl_ReadList
theorem readNums_len : ∀ (ws : List (List UInt8)) (l : List Int), readNums ws = some l → l.length = ws.length
  | [], l, h => by simp only [readNums, Option.some.injEq] at h; subst h; rfl
  | w :: ws, l, h => by
    unfold readNums at h
    cases hn : numT w with
    | none => rw [hn] at h; cases h
    | some n =>
      rw [hn] at h
      simp only at h
      cases hr : readNums ws with
      | none => rw [hr] at h; cases h
      | some l' =>
        rw [hr] at h
        simp only [Option.some.injEq] at h
        subst h
        simp [readNums_len ws l' hr]
theorem readList_len (s : List UInt8) : (readList s).2.length ≤ 400 := by
  unfold readList
  split
  · simp
  · split
    · simp
    · split <;> simp; assumption
/-! ### a state's text -/
def pairs : List (List UInt8) → List Int → List (List UInt8)
  | x :: xs, n :: ns => (x ++ [61] ++ Lib.itoa n) :: pairs xs ns
  | _, _ => []
def stateText (names : List (List UInt8)) (state : List Int) : List UInt8 :=
  if namesOk names = true ∧ names.length = state.length ∧ state ≠ [] ∧ numsOk state = true then Lib.join (pairs names state) [32] else [45]
theorem pairs_length : ∀ (xs : List (List UInt8)) (ns : List Int), xs.length = ns.length → (pairs xs ns).length = ns.length
  | [], [], _ => rfl
  | _ :: xs, _ :: ns, h => by simpa [pairs] using pairs_length xs ns (by simpa using h)
  | [], _ :: _, h => by simp at h
  | _ :: _, [], h => by simp at h
theorem pairs_get : ∀ (xs : List (List UInt8)) (ns : List Int) (i : Nat), xs.length = ns.length → i < ns.length → (pairs xs ns).getD i [] = xs.getD i [] ++ [61] ++ Lib.itoa (ns.getD i 0)
  | _ :: xs, _ :: ns, 0, h, _ => rfl
  | _ :: xs, _ :: ns, i + 1, h, hi => by simpa [pairs] using pairs_get xs ns i (by simpa using h) (by simpa using hi)
  | [], [], _, _, hi => by simp at hi
  | [], _ :: _, _, h, _ => by simp at h
  | _ :: _, [], _, h, _ => by simp at h
theorem itoa_len9 {n : Int} (h1 : -9999 ≤ n) (h2 : n ≤ 9999) : (Lib.itoa n).length ≤ 20 := itoa_len n (by omega) (by omega)
theorem joinTail_cons (sep x : List UInt8) (r : List (List UInt8)) : Lib.joinTail sep (x :: r) = sep ++ x ++ Lib.joinTail sep r := by simp [Lib.joinTail]
namespace spec_StateText
theorem law (names : List (List UInt8)) (state : List Int) (hx : szS names ≤ 1048576) (hs : state.length ≤ 1048576) : impl (names, state, ()) = some (stateText names state, ()) := by
  rw [impl_eq]; unfold F0 stateText
  rw [spec_NamesValid.law _ hx, Option.bind_some]
  by_cases hn : namesOk names = true
  rotate_left
  · simp [hn]
  rw [spec_l31Numbers.law _ hs, Option.bind_some, L3_eq]; unfold F3
  by_cases hl : names.length = state.length
  rotate_left
  · have : ((names.length : Int) != (state.length : Int)) = true := by simp; omega
    simp [hn, hl, this]
  by_cases h0 : state = []
  · subst h0; simp [hn, hl]
  by_cases hk : numsOk state = true
  rotate_left
  · simp [hn, hl, h0, hk]
  obtain ⟨h5, hm⟩ := namesOk_mem hn
  have hnum := numsOk_iff.1 hk
  have hpl := pairs_length names state hl
  have key := up_list (S := List UInt8) (pairs names state) [] (fun i s => s.length ≤ i * 100 ∧ (i = 0 → s = [])) (fun i s => L5 (names, state, s, (i : Int), ())) (fun i r s => some (s ++ (if i = 0 then Lib.join r [32] else Lib.joinTail [32] r), ())) (by
    intro s hs
    rw [L5_eq]; unfold F5; rw [hpl]; simp (disch := omega) only [inb_nat, cast_lt, Int.toNat_natCast, wI_succ]
    simp [Lib.joinTail, Lib.join]) (by
    intro i s hi hs ih
    rw [hpl] at hi
    have h1 := nameOk_len (hm _ (getD_mem (d := []) (show i < names.length by omega)))
    have h2 := hnum _ (getD_mem (d := 0) hi)
    have h3 := itoa_len9 h2.1 h2.2
    have hp := pairs_get names state i hl hi
    rw [L5_eq]; unfold F5; simp (disch := omega) only [inb_nat, cast_lt, Int.toNat_natCast, wI_succ]
    rw [Lib.join_cons, joinTail_cons, hp]
    simp only [L9_eq, F9]; simp (disch := omega) only [inb_nat, cast_lt, Int.toNat_natCast, wI_succ]
    rw [spec_l40Dec.law _ (by omega) (by omega)]
    have h6 : i < names.length := by omega
    by_cases hi0 : i = 0
    · have hs0 := hs.2 hi0
      subst hi0 hs0
      have := ih (names.getD 0 [] ++ [61] ++ Lib.itoa (state.getD 0 0)) ⟨by simp only [List.length_append, List.length_cons, List.length_nil]; omega, by omega⟩
      simp at this ⊢
      grind
    · have := ih (s ++ [32] ++ names.getD i [] ++ [61] ++ Lib.itoa (state.getD i 0)) ⟨by simp only [List.length_append, List.length_cons, List.length_nil]; omega, by omega⟩
      simp at this ⊢
      grind)
  have h := key [] (by simp)
  have h' : L5 (names, state, [], 0, ()) = _ := h
  have e1 : ((names.length : Int) != (state.length : Int)) = false := by simp [hl]
  have e2 : ((state.length : Int) == 0) = false := by simpa using h0
  simp [hn, hl, h0, hk, e1, e2, h']
end spec_StateText
namespace impl_StateText
theorem law (names : List (List UInt8)) (state : List Int) (hx : szS names ≤ 1048576) (hs : state.length ≤ 1048576) : impl (names, state, ()) = some (stateText names state, ()) := by
  rw [impl_eq]; unfold F0 stateText
  rw [impl_NamesValid.law _ hx, Option.bind_some]
  by_cases hn : namesOk names = true
  rotate_left
  · simp [hn]
  rw [L3_eq]; unfold F3
  by_cases hl : names.length = state.length
  rotate_left
  · have : ((names.length : Int) != (state.length : Int)) = true := by simp; omega
    simp [hn, hl, this]
  by_cases h0 : state = []
  · subst h0; simp [hn, hl]
  obtain ⟨h5, hm⟩ := namesOk_mem hn
  have hpl := pairs_length names state hl
  have key := up_list (S := List (List UInt8)) state 0 (fun i acc => acc = (pairs names state).take i ∧ (∀ x ∈ acc, x.length ≤ 100) ∧ acc.length = i) (fun i acc => L5 (names, state, (state.length : Int), (i : Int), acc, ())) (fun i r acc => some (if numsOk r = true then Lib.join (pairs names state) [32] else [45], ())) (by
    intro acc hacc
    rw [L5_eq]; unfold F5; simp (disch := omega) only [inb_nat, cast_lt, Int.toNat_natCast, wI_succ]
    have : acc = pairs names state := by rw [hacc.1, ← hpl, List.take_length]
    subst this
    rw [join_law _ _ (by omega) (by have := join_len (b := 100) [32] hacc.2.1; simp at this; omega)]
    simp [numsOk]) (by
    intro i acc hi hacc ih
    rw [L5_eq]; unfold F5; simp (disch := omega) only [inb_nat, cast_lt, Int.toNat_natCast, wI_succ]
    rw [impl_in.law, Option.bind_some]
    have hk : numsOk (state.getD i 0 :: state.drop (i + 1)) = (in3 (state.getD i 0) (-9999) 9999 && numsOk (state.drop (i + 1))) := rfl
    cases hb : in3 (state.getD i 0) (-9999) 9999 with
    | false => rw [hk, hb]; simp [hi]
    | true =>
      have h2 := in3_iff.1 hb
      have h1 := nameOk_len (hm _ (getD_mem (d := []) (show i < names.length by omega)))
      have h3 := itoa_len9 h2.1 h2.2
      have hp := pairs_get names state i hl hi
      have h6 : i < names.length := by omega
      have ih' := ih (acc ++ [names.getD i [] ++ [61] ++ Lib.itoa (state.getD i 0)]) ⟨by rw [take_snoc [] (by omega), hp, ← hacc.1], fun x hx => by
        rcases List.mem_append.1 hx with hx | hx
        · exact hacc.2.1 x hx
        · rw [List.mem_singleton] at hx; subst hx; simp only [List.length_append, List.length_cons, List.length_nil]; omega, by simp only [List.length_append, List.length_cons, List.length_nil]; omega⟩
      simp only [hi, decide_true, cond_true, Bool.not_true, cond_false]
      rw [L9_eq]; unfold F9; simp (disch := omega) only [inb_nat, cast_lt, Int.toNat_natCast, wI_succ]
      rw [itoa_law _ (by omega) (by omega)]
      have h7 := hacc.2.2
      rw [hk, hb, Bool.true_and, ← ih']
      simp (disch := omega) only [decide_eq_true, decide_eq_false, cond_true, cond_false, Option.bind_some, Option.bind_none, List.length_append, List.length_cons, List.length_nil])
  have h := key [] (by simp)
  have h' : L5 (names, state, (state.length : Int), 0, [], ()) = _ := h
  have e1 : ((names.length : Int) != (state.length : Int)) = false := by simp [hl]
  have e2 : ((state.length : Int) == 0) = false := by simpa using h0
  simp [hn, hl, h0, e1, e2, h']
end impl_StateText
/-! ### what is read of what is written -/
theorem itoa_mem {n : Int} (b : UInt8) (h : b ∈ Lib.itoa n) : b ≠ 32 := by
  have key : ∀ u : Nat, b ∈ Lib.decDigits u → b ≠ 32 := by
    intro u hb
    have := List.all_eq_true.1 (digs_dec u) b hb
    have := isDig_iff.1 this
    rintro rfl
    have h32 : (32 : UInt8).toNat = 32 := rfl
    omega
  unfold Lib.itoa at h
  split at h
  · rcases List.mem_cons.1 h with rfl | h
    · decide
    · exact key _ h
  · exact key _ h
theorem joinTail_more (sep x : List UInt8) (r : List (List UInt8)) : Lib.joinTail sep (x :: r) = sep ++ x ++ Lib.joinTail sep r := by simp [Lib.joinTail]
theorem cut_join : ∀ (r : List (List UInt8)) (x : List UInt8), (∀ w ∈ x :: r, ∀ b ∈ w, b ≠ 32) → cutAt 32 (x ++ Lib.joinTail [32] r) = x :: r
  | [], x, h => by
    rw [show Lib.joinTail [32] [] = [] from rfl, List.append_nil]
    exact cutAt_none (h x (by simp))
  | y :: r, x, h => by
    rw [joinTail_more, show x ++ ([32] ++ y ++ Lib.joinTail [32] r) = x ++ 32 :: (y ++ Lib.joinTail [32] r) by simp, cutAt_sep (h x (by simp)), cut_join r y fun w hw => h w (by simp only [List.mem_cons] at hw ⊢; exact .inr hw)]
theorem read_itoas : ∀ (xs : List Int), (∀ x ∈ xs, -9999 ≤ x ∧ x ≤ 9999) → readNums (xs.map Lib.itoa) = some xs
  | [], h => rfl
  | x :: xs, h => by
    have := h x (by simp)
    rw [List.map_cons]
    unfold readNums
    rw [numT_itoa this.1 this.2, read_itoas xs fun y hy => h y (by simp [hy])]
theorem read_listText (xs : List Int) : readList (listText xs) = (true, if xs = [] ∨ 400 < xs.length ∨ numsOk xs = false then [] else xs) := by
  unfold listText
  by_cases h : xs = [] ∨ 400 < xs.length ∨ numsOk xs = false
  · rw [if_pos h, if_pos h]; rfl
  · rw [if_neg h, if_neg h]
    simp only [not_or, Bool.not_eq_false] at h
    obtain ⟨h1, h2, h3⟩ := h
    have h3 := numsOk_iff.1 h3
    have hc : cutAt 32 (Lib.join (xs.map Lib.itoa) [32]) = xs.map Lib.itoa := by
      cases xs with
      | nil => exact absurd rfl h1
      | cons x r =>
        rw [List.map_cons, Lib.join_cons]
        refine cut_join _ _ fun w hw b hb => ?_
        rw [← List.map_cons] at hw
        obtain ⟨n, _, rfl⟩ := List.mem_map.1 hw
        exact itoa_mem b hb
    have hr := read_itoas xs h3
    unfold readList
    by_cases e : Lib.join (xs.map Lib.itoa) [32] = [45]
    · rw [e] at hc
      rw [← hc] at hr
      rw [show readNums (cutAt 32 [45]) = none from rfl] at hr
      cases hr
    · rw [if_neg e, hc, hr]
      simp only
      rw [if_pos (by omega)]
theorem listText_len (xs : List Int) : (listText xs).length ≤ 10000 := by
  unfold listText
  by_cases h : xs = [] ∨ 400 < xs.length ∨ numsOk xs = false
  · rw [if_pos h]; simp
  · rw [if_neg h]
    simp only [not_or, Bool.not_eq_false] at h
    obtain ⟨h1, h2, h3⟩ := h
    have h3 := numsOk_iff.1 h3
    have := join_len (xs := xs.map Lib.itoa) (b := 20) [32] (fun w hw => by
      obtain ⟨n, hn, rfl⟩ := List.mem_map.1 hw
      have := h3 n hn
      exact itoa_len n (by omega) (by omega))
    simp only [List.length_map, List.length_cons, List.length_nil] at this
    omega
namespace laws_wcInts
theorem law (xs ys : List Int) (h : xs = ys) (hx : xs.length ≤ 1048576) : impl (xs, ys, ()) = some (true, ()) := by
  subst h
  rw [impl_eq]; unfold F0
  rw [bne_self_eq_false, cond_false]
  refine (up_list0 xs 0 (fun i => L4 (xs, xs, (xs.length : Int), (i : Int), ())) (fun i r => some (true, ())) ?_ ?_).trans rfl
  · rw [L4_eq]; unfold F4; simp (disch := omega) only [inb_nat, cast_lt, Int.toNat_natCast, wI_succ]
    rw [decide_eq_false (Nat.lt_irrefl _)]; rfl
  · intro i hi ih
    rw [L4_eq]; unfold F4; simp (disch := omega) only [inb_nat, cast_lt, Int.toNat_natCast, wI_succ]
    rw [decide_eq_true hi, cond_true, cond_true, cond_true, bne_self_eq_false, cond_false]
    exact ih
end laws_wcInts
/-! ### lists, texts and states are drawn -/
namespace spec_DrawListText
theorem law (code : List Int) (hc : ∀ x ∈ code, 0 ≤ x ∧ x ≤ 255) : ∃ list, impl (code, ()) = some (list, ()) ∧ list.length ≤ 6 := by
  obtain ⟨c, e1, S⟩ := spec_l40Open.law code hc
  have key : ∀ (k : Nat) (q : Int) (r0 : List Int), k ≤ 6 → 0 ≤ q → q + 5 * (k : Int) ≤ 1000 → r0.length + k ≤ 5 → ∃ list, L4 ((k : Int), c, q, r0, ()) = some (list, ()) ∧ list.length ≤ 6 := by
    intro k
    induction k with
    | zero =>
      intro q r0 _ h0 hq hr
      obtain ⟨v, p1, _, _⟩ := spec_l40Rd_pick.law 20 c q (S.at (by omega) (by omega)) (by omega)
      rw [L4_eq]; unfold F4
      rw [show decide (((0 : Nat) : Int) > 0) = false from rfl, cond_false, p1, Option.bind_some]
      cases v == 0
      · exact ⟨_, rfl, by omega⟩
      · rw [cond_true, decide_eq_true (by simp only [List.length_append, List.length_cons, List.length_nil]; omega)]
        exact ⟨_, rfl, by simp only [List.length_append, List.length_cons, List.length_nil]; omega⟩
    | succ k ih =>
      intro q r0 hk h0 hq hr
      obtain ⟨v, p1, _, _⟩ := spec_l40Rd_pick.law 100 c q (S.at (by omega) (by omega)) (by omega)
      obtain ⟨v2, _, p2⟩ := spec_l40Rd_num.law [0, 1, 5, -3, 9999, v] c (q + 1) (by simp) (S.at (by omega) (by omega)) (by omega)
      rw [L4_eq]; unfold F4
      rw [decide_eq_true (show ((k + 1 : Nat) : Int) > 0 by omega), cond_true, p1, Option.bind_some]
      simp only
      rw [p2, Option.bind_some, decide_eq_true (by simp only [List.length_append, List.length_cons, List.length_nil]; omega), cond_true, wI_small (by omega) (by omega), show ((k + 1 : Nat) : Int) - 1 = (k : Int) by omega]
      exact ih (q + 1 + 1) (r0 ++ [v2]) (by omega) (by omega) (by omega) (by simp only [List.length_append, List.length_cons, List.length_nil]; omega)
  obtain ⟨v, p1, _, hv⟩ := spec_l40Rd_pick.law 6 c 0 S (by omega)
  have hv := hv (by omega)
  obtain ⟨l, e, hl⟩ := key v.toNat 1 [] (by omega) (by omega) (by omega) (by simp; omega)
  rw [show (v.toNat : Int) = v by omega] at e
  rw [impl_eq]; unfold F0
  rw [e1, Option.bind_some]
  simp only [p1, Option.bind_some]
  exact ⟨l, e, hl⟩
end spec_DrawListText
namespace spec_l40Rd_of
theorem law (xs : List (List UInt8)) (code : List Int) (p : Int) (hx : 1 ≤ xs.length) (h : Src code p) (hp : p < 1000000000) : ∃ v, v ∈ xs ∧ impl (xs, code, p, ()) = some (v, code, p + 1, ()) := by
  obtain ⟨v, h1, _, h3⟩ := spec_l40Rd_pick.law (xs.length : Int) code p h hp
  have h4 := h3 (by omega)
  rw [impl_eq]; unfold F0
  rw [h1, Option.bind_some, inb_int h4.1 h4.2]
  exact ⟨_, getD_mem (by omega), rfl⟩
end spec_l40Rd_of
namespace spec_l30Spoil
theorem law (s : List UInt8) (code : List Int) (p : Int) (hs : s.length ≤ 1048570) (h : Src code p) (hp : p ≤ 1000) : ∃ t q, impl (s, code, p, ()) = some (t, code, q, ()) ∧ t.length ≤ s.length + 1 ∧ p ≤ q ∧ q ≤ p + 10 := by
  have h0 := h.2.2.1
  rw [impl_eq]; unfold F0
  by_cases he : s = []
  · subst he; exact ⟨_, _, rfl, by simp, by omega, by omega⟩
  have hpos := List.length_pos_iff.2 he
  rw [show ((s.length : Int) == 0) = false from beq_eq_false_iff_ne.2 (by omega), cond_false]
  obtain ⟨v, p1, _, _⟩ := spec_l40Rd_pick.law 3 code p h (by omega)
  simp only [p1, Option.bind_some]
  cases decide (v > 0)
  rotate_left
  · exact ⟨_, _, rfl, by omega, by omega, by omega⟩
  obtain ⟨k, p2, _, hk⟩ := spec_l40Rd_pick.law (s.length : Int) code (p + 1) (h.at (by omega) (by omega)) (by omega)
  have hk := hk (by omega)
  obtain ⟨t, ht, p3⟩ := spec_l40Rd_of.law [[], [32], [40], [41], [120], [10], [48], [45], [59], [61]] code (p + 1 + 1) (by simp) (h.at (by omega) (by omega)) (by omega)
  have htl : t.length ≤ 1 := by
    simp only [List.mem_cons, List.not_mem_nil, or_false] at ht
    rcases ht with rfl | rfl | rfl | rfl | rfl | rfl | rfl | rfl | rfl | rfl <;> simp
  obtain ⟨m, p4, _, hm⟩ := spec_l40Rd_pick.law 2 code (p + 1 + 1 + 1) (h.at (by omega) (by omega)) (by omega)
  have hm := hm (by omega)
  rw [cond_false, L3_eq]; unfold F3
  simp only [p2, Option.bind_some]
  rw [L4_eq]; unfold F4
  rw [show (decide (0 ≤ k) && decide (k ≤ (s.length : Int))) = true by simp; omega, cond_true, p3, Option.bind_some]
  simp only
  rw [decide_eq_true (by simp; omega), cond_true, p4, Option.bind_some]
  simp only
  rw [wI_small (n := k + m) (by omega) (by omega), show (decide (0 ≤ k + m) && decide (k + m ≤ (s.length : Int)) && decide ((s.length : Int) ≤ (s.length : Int))) = true by simp; omega, cond_true, decide_eq_true (by simp; omega), cond_true]
  exact ⟨_, _, rfl, by simp; omega, by omega, by omega⟩
end spec_l30Spoil
namespace spec_DrawReadList
theorem law (code : List Int) (hc : ∀ x ∈ code, 0 ≤ x ∧ x ≤ 255) : ∃ s, impl (code, ()) = some (s, ()) ∧ s.length ≤ 10001 := by
  obtain ⟨c, e1, S⟩ := spec_l40Open.law code hc
  obtain ⟨l, e2, hl⟩ := spec_DrawListText.law code hc
  have h3 := listText_len l
  obtain ⟨t, q, e4, h4, _, _⟩ := spec_l30Spoil.law (listText l) c 0 (by omega) S (by omega)
  rw [impl_eq]; unfold F0
  simp only [e1, e2, e4, Option.bind_some, spec_ListText.law l (by omega)]
  exact ⟨t, rfl, by omega⟩
end spec_DrawReadList
namespace spec_l30Names
theorem law (many : Int) (code : List Int) (p : Int) (hm : 0 ≤ many ∧ many ≤ 4) (h : Src code p) (hp : p ≤ 1000) : ∃ names q, impl (many, code, p, ()) = some (names, code, q, ()) ∧ names.length = many.toNat ∧ (∀ x ∈ names, x.length ≤ 9) ∧ p ≤ q ∧ q ≤ p + 10 := by
  have h0 := h.2.2.1
  have fin : ∀ r0 : List (List UInt8), r0.length = many.toNat → (∀ x ∈ r0, x.length ≤ 9) → ∃ names q, L3 (many, many, code, p, r0, ()) = some (names, code, q, ()) ∧ names.length = many.toNat ∧ (∀ x ∈ names, x.length ≤ 9) ∧ p ≤ q ∧ q ≤ p + 10 := by
    intro r0 hr hb
    rw [L3_eq]; unfold F3
    rw [decide_eq_false (show ¬ many < many by omega), cond_false]
    by_cases hz : many > 0
    rotate_left
    · rw [decide_eq_false hz]; exact ⟨_, _, rfl, hr, hb, by omega, by omega⟩
    rw [decide_eq_true hz, cond_true]
    obtain ⟨v, p1, _, _⟩ := spec_l40Rd_pick.law 20 code p h (by omega)
    obtain ⟨k, p2, _, hk⟩ := spec_l40Rd_pick.law many code (p + 1) (h.at (by omega) (by omega)) (by omega)
    have hk := hk (by omega)
    obtain ⟨t, ht, p3⟩ := spec_l40Rd_of.law [[], [88], [120], [97, 98, 99, 100, 101, 102, 103, 104, 105], [97, 49]] code (p + 1 + 1) (by simp) (h.at (by omega) (by omega)) (by omega)
    have htl : t.length ≤ 9 := by
      simp only [List.mem_cons, List.not_mem_nil, or_false] at ht
      rcases ht with rfl | rfl | rfl | rfl | rfl <;> simp
    simp only [p1, Option.bind_some]
    cases v == 0
    · exact ⟨_, _, rfl, hr, hb, by omega, by omega⟩
    · simp only [cond_true, p2, p3, Option.bind_some]
      rw [inb_int (by omega) (by omega), cond_true]
      refine ⟨_, _, rfl, by simp [hr], fun x hx => ?_, by omega, by omega⟩
      rcases List.mem_or_eq_of_mem_set hx with hx | rfl
      · exact hb x hx
      · exact htl
  have key : ∀ (d i : Nat) (r0 : List (List UInt8)), (i : Int) + d = many → r0.length = i → (∀ x ∈ r0, x.length ≤ 9) → ∃ names q, L3 (many, (i : Int), code, p, r0, ()) = some (names, code, q, ()) ∧ names.length = many.toNat ∧ (∀ x ∈ names, x.length ≤ 9) ∧ p ≤ q ∧ q ≤ p + 10 := by
    intro d
    induction d with
    | zero =>
      intro i r0 hi hr hb
      rw [show (i : Int) = many by omega]
      exact fin r0 (by omega) hb
    | succ d ih =>
      intro i r0 hi hr hb
      have hi4 : i < 4 := by omega
      have e5 : Int.tmod (i : Int) 5 = (i : Int) := Int.tmod_eq_of_lt (by omega) (by omega)
      rw [L3_eq]; unfold F3
      rw [decide_eq_true (show (i : Int) < many by omega), cond_true, e5, inb_int (by omega) (by simp only [List.length_cons, List.length_nil]; omega), cond_true, decide_eq_true (by simp only [List.length_append, List.length_cons, List.length_nil]; omega), cond_true, wI_succ (by omega)]
      refine ih (i + 1) _ (by omega) (by simp only [List.length_append, List.length_cons, List.length_nil]; omega) fun x hx => ?_
      rcases List.mem_append.1 hx with hx | hx
      · exact hb x hx
      · rw [List.mem_singleton] at hx
        subst hx
        rw [Int.toNat_natCast]
        match i, hi4 with
        | 0, _ => decide
        | 1, _ => decide
        | 2, _ => decide
        | 3, _ => decide
  rw [impl_eq]; unfold F0
  exact key many.toNat 0 [] (by omega) rfl (fun x hx => by cases hx)
end spec_l30Names
namespace spec_l1Number
theorem law (code : List Int) (p : Int) (h : Src code p) (hp : p ≤ 1000) : ∃ v, impl (code, p, ()) = some (v, code, p + 6, ()) := by
  have h0 := h.2.2.1
  obtain ⟨v1, p1, _, _⟩ := spec_l40Rd_pick.law 4 code p h (by omega)
  obtain ⟨v2, p2, _, _⟩ := spec_l40Rd_pick.law 4 code (p + 1) (h.at (by omega) (by omega)) (by omega)
  obtain ⟨v3, p3, _, _⟩ := spec_l40Rd_pick.law 7 code (p + 1 + 1) (h.at (by omega) (by omega)) (by omega)
  obtain ⟨v4, p4, _, _⟩ := spec_l40Rd_pick.law 200 code (p + 1 + 1 + 1) (h.at (by omega) (by omega)) (by omega)
  obtain ⟨v5, p5, _, h5⟩ := spec_l40Rd_pick.law 4 code (p + 1 + 1 + 1 + 1) (h.at (by omega) (by omega)) (by omega)
  have h5 := h5 (by omega)
  obtain ⟨v6, _, p6⟩ := spec_l40Rd_num.law [v1, v2, wI (v3 - 3), 1, 0, wI (v4 - 100), ([9999, (-9999), 5000, 100] : List Int).getD v5.toNat 0] code (p + 1 + 1 + 1 + 1 + 1) (by simp) (h.at (by omega) (by omega)) (by omega)
  rw [impl_eq]; unfold F0
  simp only [p1, p2, p3, p4, p5, Option.bind_some]
  rw [inb_int h5.1 (by simp only [List.length_cons, List.length_nil]; omega), cond_true, p6, Option.bind_some]
  exact ⟨v6, by rw [show p + 1 + 1 + 1 + 1 + 1 + 1 = p + 6 by omega]⟩
end spec_l1Number
namespace spec_l1Numbers
theorem law (many : Int) (code : List Int) (p : Int) (hm : 0 ≤ many ∧ many ≤ 5) (h : Src code p) (hp : p ≤ 500) : ∃ l q, impl (many, code, p, ()) = some (l, code, q, ()) ∧ l.length = many.toNat ∧ p ≤ q ∧ q ≤ p + 40 := by
  have h0 := h.2.2.1
  have key : ∀ (d i : Nat) (q : Int) (r0 : List Int), (i : Int) + d = many → r0.length = i → p ≤ q → q + 6 * (d : Int) ≤ p + 30 → ∃ l q', L3 (many, (i : Int), code, q, r0, ()) = some (l, code, q', ()) ∧ l.length = many.toNat ∧ p ≤ q' ∧ q' ≤ p + 40 := by
    intro d
    induction d with
    | zero =>
      intro i q r0 hi hr h1 h2
      rw [L3_eq]; unfold F3
      rw [decide_eq_false (show ¬ (i : Int) < many by omega), cond_false]
      by_cases hz : many > 0
      rotate_left
      · rw [decide_eq_false hz]; exact ⟨_, _, rfl, by omega, by omega, by omega⟩
      obtain ⟨v, p1, _, _⟩ := spec_l40Rd_pick.law 30 code q (h.at (by omega) (by omega)) (by omega)
      obtain ⟨v2, _, p2⟩ := spec_l40Rd_num.law [10000, -10000] code (q + 1) (by simp) (h.at (by omega) (by omega)) (by omega)
      rw [decide_eq_true hz, cond_true]
      simp only [p1, Option.bind_some]
      cases v == 0
      · exact ⟨_, _, rfl, by omega, by omega, by omega⟩
      · simp only [cond_true, p2, Option.bind_some]
        rw [inb_int (by omega) (by omega), cond_true]
        exact ⟨_, _, rfl, by simp; omega, by omega, by omega⟩
    | succ d ih =>
      intro i q r0 hi hr h1 h2
      obtain ⟨v, e⟩ := spec_l1Number.law code q (h.at (by omega) (by omega)) (by omega)
      rw [L3_eq]; unfold F3
      rw [decide_eq_true (show (i : Int) < many by omega), cond_true, e, Option.bind_some, decide_eq_true (by simp only [List.length_append, List.length_cons, List.length_nil]; omega), cond_true, wI_succ (by omega)]
      exact ih (i + 1) (q + 6) _ (by omega) (by simp only [List.length_append, List.length_cons, List.length_nil]; omega) (by omega) (by omega)
  rw [impl_eq]; unfold F0
  exact key many.toNat 0 p [] (by omega) rfl (by omega) (by omega)
end spec_l1Numbers
namespace spec_DrawStateText
theorem law (code : List Int) (hc : ∀ x ∈ code, 0 ≤ x ∧ x ≤ 255) : ∃ names state, impl (code, ()) = some (names, state, ()) ∧ szS names ≤ 100 ∧ state.length ≤ 5 := by
  obtain ⟨c, e1, S⟩ := spec_l40Open.law code hc
  obtain ⟨m, hm, e2⟩ := spec_l40Rd_num.law [1, 2, 3, 0] c 0 (by simp) S (by omega)
  have hm : 0 ≤ m ∧ m ≤ 3 := by
    simp only [List.mem_cons, List.not_mem_nil, or_false] at hm
    omega
  obtain ⟨names, q, e3, h1, h2, h3, h4⟩ := spec_l30Names.law m c (0 + 1) (by omega) (S.at (by omega) (by omega)) (by omega)
  obtain ⟨m2, hm2, e4⟩ := spec_l40Rd_num.law [m, m, m, wI (m + 1)] c q (by simp) (S.at (by omega) (by omega)) (by omega)
  have hm2 : 0 ≤ m2 ∧ m2 ≤ 4 := by
    rw [wI_small (n := m + 1) (by omega) (by omega)] at hm2
    simp only [List.mem_cons, List.not_mem_nil, or_false] at hm2
    omega
  obtain ⟨l, q2, e5, h5, _, _⟩ := spec_l1Numbers.law m2 c (q + 1) (by omega) (S.at (by omega) (by omega)) (by omega)
  rw [impl_eq]; unfold F0
  simp only [e1, e2, e3, e4, e5, Option.bind_some]
  refine ⟨_, _, rfl, ?_, by omega⟩
  have : ∀ xs : List (List UInt8), (∀ x ∈ xs, x.length ≤ 9) → szS xs ≤ 10 * xs.length := by
    intro xs
    induction xs with
    | nil => intro _; simp [szS]
    | cons x r ih =>
      intro hx
      have a := hx x (by simp)
      have b := ih fun y hy => hx y (by simp [hy])
      unfold szS at b ⊢
      simp only [List.map_cons, List.sum_cons, List.length_cons]
      omega
  have := this names h2
  omega
end spec_DrawStateText
theorem u8_wf {n : Int} (h : (Lit.int .u8 n).wf = true) : 0 ≤ n ∧ n ≤ 255 := by
  simp only [Lit.wf, Bool.and_eq_true, decide_eq_true_eq] at h
  exact ⟨h.1, h.2⟩
namespace laws_FnLists
theorem law (code : List Int) (hc : ∀ x ∈ code, 0 ≤ x ∧ x ≤ 255) : impl (code, ()) = some (true, ()) := by
  rw [impl_eq]; unfold F0
  by_cases hbig : (code.length : Int) > 1048576
  · rw [decide_eq_true hbig]; rfl
  rw [decide_eq_false hbig, cond_false]
  obtain ⟨l, e1, h1⟩ := spec_DrawListText.law code hc
  obtain ⟨s, e2, h2⟩ := spec_DrawReadList.law code hc
  obtain ⟨names, state, e3, h3, h4⟩ := spec_DrawStateText.law code hc
  have hT := listText_len l
  have hR := read_listText l
  have hl := readList_len s
  simp only [e1, e2, e3, Option.bind_some, impl_ListText.law l (by omega), spec_ListText.law l (by omega), beq_self_eq_true, Bool.not_true, cond_false, impl_ReadList.law _ (show (listText l).length ≤ 1048576 by omega), impl_ReadList.law s (by omega), spec_ReadList.law s (by omega), hR, cond_true,
    laws_wcInts.law (readList s).2 (readList s).2 rfl (by omega), impl_StateText.law names state (by omega) (by omega), spec_StateText.law names state (by omega) (by omega)]
  by_cases h : l = [] ∨ 400 < l.length ∨ numsOk l = false
  · rw [if_pos h]
    by_cases hn : l = []
    · subst hn
      rw [laws_wcInts.law [] [] rfl (by simp)]; rfl
    · have hd : laws_wcInts.impl ([], l, ()) = some (false, ()) := by
        rw [laws_wcInts.impl_eq]; unfold laws_wcInts.F0
        have := List.length_pos_iff.2 hn
        rw [show ((([] : List Int).length : Int) != (l.length : Int)) = true by rw [bne_iff_ne]; simp only [List.length_nil]; omega]
        rfl
      have ht : listText l = [45] := by unfold listText; rw [if_pos h]
      rw [hd, Option.bind_some, ht]
      rfl
  · rw [if_neg h, laws_wcInts.law l l rfl (by omega)]
    rfl
end laws_FnLists
end Go.Proofs.YtfjnckjkpkhbdaaGreatDoorB
