/- The core, part 22: summaries of functions. -/
import Derived.Test.YtjjepjfjikefiaaB21
set_option linter.unusedVariables false
namespace Go.Proofs.YtjjepjfjikefiaaB
open Go

/-! ### Results without slices -/
def Ty.flat : Ty → Bool
  | .sl _ => false
  | .last t => t.flat
  | .prod a b => a.flat && b.flat
  | _ => true
def flatL (l : List CS) : Bool := l.all fun | .d t => t.flat | .clip _ => false | _ => true
def flatB : BS → Bool
  | .box l => flatL l
  | .row _ _ t => t.flat
  | .bld _ _ => true
  | .buf _ => true
  | .map kt vt => kt.flat && vt.flat
def Tpl.flat (p : Tpl) : Bool := p.env.all (fun s => flatL s.l) && p.heap.all fun q => flatB q.2
def Cell.flat : Cell → Bool
  | .d t _ => t.flat
  | .cptr _ _ _ => false
  | .clip _ _ => false
  | _ => true

/-! ### A call -/
def argSt (k : Nat) (args : List AV) (st : St) : St := { env := fun t => bif Nat.blt t k then args.getD t undefA else st.env (t - k), heap := st.heap }
def prepNP (p : Tpl) (st : St) : IdMap × St := match prepEnv [] p.env [] st with | (m, st) => prepHeap [] p.heap m st
def resV (ρ : Id → Id) (e : Env) : Nat → Nat → Option (List V1)
  | _, 0 => some []
  | i, n + 1 => match e i with
    | .one v => bif v.known then (match resV ρ e (i + 1) n with | some vs => some (renV ρ v :: vs) | none => none) else none
    | .tup _ => none
def resA : List V1 → AV
  | [v] => .one v
  | vs => .tup vs
structure Summ where
  k : Nat
  nr : Nat
  np : Nat
  pin : Tpl
  pout : Tpl
  impl : pin.T → Option pout.T
def callBack {R : Type} (s : Summ) (dn : Nat) (m : IdMap) (x : s.pin.T) (st : St) (y : s.pout.T) (K : AV → St → Option R) : Option R :=
  match newMap (1000000000 + 1000 * dn) m s.pout.heap with
  | mm => bif distinct (mm.map (·.2)) && freshAll st.heap m mm then
      (match resV (fun x => (look mm x).getD 0) (mk s.pout y).env 0 s.nr, lostIds (mk s.pin x).heap (mk s.pout y).heap (mk s.pin x).env (mk s.pout y).env s.nr s.np m with
      | some vs, lost => K (resA vs) { env := fun t => lostA lost (st.env t), heap := backHeap m mm lost st.heap (mk s.pout y).heap }
      | none, _ => none) else none
def callSum {R : Type} (brw : Bool) (s : Summ) (dn : Nat) (args : List AV) (st : St) (K : AV → St → Option R) : Option R :=
  bif Nat.beq args.length s.k && s.pin.env.all (fun q => Nat.blt q.t s.k) then
    (match bif brw then prepNP s.pin (argSt s.k args st) else prep s.pin (argSt s.k args st) with
    | (m, st3) => bif distinct (m.map (·.1)) && (!brw || s.pout.flat) && m.all nameOK then
      (match rd m s.pin st3 with
      | some x => (s.impl x).bind fun y => callBack s dn m x (bif brw then st else { env := fun t => st3.env (t + s.k), heap := st3.heap }) y K
      | none => none) else none) else none

section
variable {R : Type} {P : Program} {nt : Nat} {w0 : World} {O : Own} {μ : Id → Option Value} {S : Nat → Prop} {st : St} {a : Act} {w : World} {r : R}

theorem Reads.flat {S2 : Nat → Prop} {w2 : World} : ∀ {t : Ty} {x : t.den} {cs : List Value}, t.flat = true → Reads S w t x cs → Reads S2 w2 t x cs
  | .unit, _, _, _, h => h
  | .int _, _, _, _, h => h
  | .bool, _, _, _, h => h
  | .str, _, _, _, h => h
  | .last t, x, _, hf, h => Reads.flat (t := t) hf h
  | .prod a b, x, _, hf, ⟨c1, c2, e, h1, h2⟩ => by
    simp only [Ty.flat, Bool.and_eq_true] at hf
    exact ⟨c1, c2, e, h1.flat hf.1, h2.flat hf.2⟩
  | .sl t, x, _, hf, h => by simp [Ty.flat] at hf

theorem CellRel.toFlat {S2 : Nat → Prop} {c : Cell} {v : Value} (hf : c.flat = true) (h : CellRel μ S w c v) : CellRel μ S2 w c v := by
  cases c with
  | d t x => exact Reads.flat hf h
  | cptr t x off => simp [Cell.flat] at hf
  | clip t x => simp [Cell.flat] at hf
  | _ => exact h

theorem cellsOf_flat : ∀ {t : Ty} {x : t.den}, t.flat = true → ∀ c ∈ cellsOf t x, c.flat = true
  | .unit, _, _, c, hc => by simp [cellsOf] at hc
  | .int _, _, _, c, hc => by simp [cellsOf] at hc; subst hc; rfl
  | .bool, _, _, c, hc => by simp [cellsOf] at hc; subst hc; rfl
  | .str, _, _, c, hc => by simp [cellsOf] at hc; subst hc; rfl
  | .last t, x, hf, c, hc => cellsOf_flat (t := t) (x := x) hf c hc
  | .prod a b, x, hf, c, hc => by
    simp only [Ty.flat, Bool.and_eq_true] at hf
    simp only [cellsOf, List.mem_append] at hc
    rcases hc with hc | hc
    · exact cellsOf_flat hf.1 c hc
    · exact cellsOf_flat hf.2 c hc
  | .sl t, x, hf, _, _ => by simp [Ty.flat] at hf

theorem mkC_flat : ∀ {l : List CS} {X : Type} {x : CST l X}, flatL l = true → ∀ c ∈ (mkC l x).1, c.flat = true
  | [], X, x, _, c, hc => by simp [mkC] at hc
  | .d t :: l, X, x, hf, c, hc => by
    simp only [flatL, List.all_cons, Bool.and_eq_true] at hf
    simp only [mkC, List.mem_append] at hc
    rcases hc with hc | hc
    · exact cellsOf_flat hf.1 c hc
    · exact mkC_flat (l := l) hf.2 c hc
  | .any :: l, X, x, hf, c, hc => by
    simp only [flatL, List.all_cons, Bool.and_eq_true] at hf
    rcases List.mem_cons.1 hc with rfl | hc
    · rfl
    · exact mkC_flat (l := l) hf.2 c hc
  | .row _ :: l, X, x, hf, c, hc => by
    simp only [flatL, List.all_cons, Bool.and_eq_true] at hf
    rcases List.mem_cons.1 hc with rfl | hc
    · rfl
    · exact mkC_flat (l := l) hf.2 c hc
  | .ptr _ _ :: l, X, x, hf, c, hc => by
    simp only [flatL, List.all_cons, Bool.and_eq_true] at hf
    rcases List.mem_cons.1 hc with rfl | hc
    · rfl
    · exact mkC_flat (l := l) hf.2 c hc
  | .map _ :: l, X, x, hf, c, hc => by
    simp only [flatL, List.all_cons, Bool.and_eq_true] at hf
    rcases List.mem_cons.1 hc with rfl | hc
    · rfl
    · exact mkC_flat (l := l) hf.2 c hc
  | .fn _ _ :: l, X, x, hf, c, hc => by
    simp only [flatL, List.all_cons, Bool.and_eq_true] at hf
    rcases List.mem_cons.1 hc with rfl | hc
    · rfl
    · exact mkC_flat (l := l) hf.2 c hc
  | .nilS :: l, X, x, hf, c, hc => by
    simp only [flatL, List.all_cons, Bool.and_eq_true] at hf
    rcases List.mem_cons.1 hc with rfl | hc
    · rfl
    · exact mkC_flat (l := l) hf.2 c hc
  | .nilp :: l, X, x, hf, c, hc => by
    simp only [flatL, List.all_cons, Bool.and_eq_true] at hf
    rcases List.mem_cons.1 hc with rfl | hc
    · rfl
    · exact mkC_flat (l := l) hf.2 c hc
  | .nilfn :: l, X, x, hf, c, hc => by
    simp only [flatL, List.all_cons, Bool.and_eq_true] at hf
    rcases List.mem_cons.1 hc with rfl | hc
    · rfl
    · exact mkC_flat (l := l) hf.2 c hc
  | .nilif :: l, X, x, hf, c, hc => by
    simp only [flatL, List.all_cons, Bool.and_eq_true] at hf
    rcases List.mem_cons.1 hc with rfl | hc
    · rfl
    · exact mkC_flat (l := l) hf.2 c hc
  | .err :: l, X, x, hf, c, hc => by
    simp only [flatL, List.all_cons, Bool.and_eq_true] at hf
    rcases List.mem_cons.1 hc with rfl | hc
    · rfl
    · exact mkC_flat (l := l) hf.2 c hc
  | .clip _ :: l, X, x, hf, c, hc => by simp [flatL] at hf

theorem All2.flat {S2 : Nat → Prop} : ∀ {cs : List Cell} {vs : List Value}, (∀ c ∈ cs, c.flat = true) → All2 (CellRel μ S w) cs vs → All2 (CellRel μ S2 w) cs vs
  | [], [], _, _ => trivial
  | c :: cs, v :: vs, hf, ⟨h1, h2⟩ => ⟨h1.toFlat (hf c (by simp)), h2.flat fun c hc => hf c (by simp [hc])⟩
  | [], _ :: _, _, h => h.elim
  | _ :: _, [], _, h => h.elim

theorem mkEnv_flat {S2 : Nat → Prop} : ∀ {l : List Slot} {X : Type} {x : envT l X}, (l.all fun s => flatL s.l) = true → ∀ {t : Nat} {v : Value}, AVRel μ S w ((mkEnv l x).1 t) v → AVRel μ S2 w ((mkEnv l x).1 t) v
  | [], X, x, _, t, v, _ => fun hk => by cases hk
  | s :: l, X, x, hf, t, v, h => by
    simp only [List.all_cons, Bool.and_eq_true] at hf
    by_cases e : t = s.t
    · subst e
      simp only [mkEnv, upd_same] at h ⊢
      have hc := mkC_flat (l := s.l) (x := x) hf.1
      unfold mkSlot at h ⊢
      cases hagg : s.agg with
      | true =>
        rw [hagg] at h
        intro hk
        obtain ⟨arr, e, hall⟩ := h rfl
        exact ⟨arr, e, hall.flat hc⟩
      | false =>
        rw [hagg] at h
        intro hk
        cases hcs : (mkC s.l x).1 with
        | nil => rw [hcs] at hk; cases hk
        | cons c cs =>
          rw [hcs] at h hk hc
          exact CellRel.toFlat (hc c (by simp)) (h hk)
    · simp only [mkEnv, upd_other _ _ _ _ e] at h ⊢
      exact mkEnv_flat hf.2 h

theorem mkHeap_flat {S2 : Nat → Prop} : ∀ {l : List (Id × BS)} {X : Type} {x : heapT l X}, (l.all fun q => flatB q.2) = true → ∀ {t : Id} {b : Blk} {hv : Value}, (mkHeap l x).1 t = some b → BlkRel μ S w hv b → BlkRel μ S2 w hv b
  | [], X, x, _, t, b, hv, hb, _ => by simp [mkHeap] at hb
  | (t', .box l') :: l, X, x, hf, t, b, hv, hb, h => by
    simp only [List.all_cons, Bool.and_eq_true] at hf
    by_cases e : t = t'
    · subst e
      simp only [mkHeap, upd_same, Option.some.injEq] at hb
      subst hb
      obtain ⟨b, ty, arr, e1, e2, hall⟩ := h
      exact ⟨b, ty, arr, e1, e2, hall.flat (mkC_flat hf.1)⟩
    · simp only [mkHeap, upd_other _ _ _ _ e] at hb
      exact mkHeap_flat hf.2 hb h
  | (t', .row _ _ ty) :: l, X, x, hf, t, b, hv, hb, h => by
    simp only [List.all_cons, Bool.and_eq_true] at hf
    by_cases e : t = t'
    · subst e
      simp only [mkHeap, upd_same, Option.some.injEq] at hb
      subst hb
      obtain ⟨cells, e1, e2, e3⟩ := h
      exact ⟨cells, e1, e2.mono fun x c hx => Reads.flat hf.1 hx, e3⟩
    · simp only [mkHeap, upd_other _ _ _ _ e] at hb
      exact mkHeap_flat hf.2 hb h
  | (t', .buf e) :: l, X, x, hf, t, b, hv, hb, h => by
    simp only [List.all_cons, Bool.and_eq_true] at hf
    by_cases e : t = t'
    · subst e
      simp only [mkHeap, upd_same, Option.some.injEq] at hb
      subst hb
      exact h
    · simp only [mkHeap, upd_other _ _ _ _ e] at hb
      exact mkHeap_flat hf.2 hb h
  | (t', .bld T bid) :: l, X, x, hf, t, b, hv, hb, h => by
    simp only [List.all_cons, Bool.and_eq_true] at hf
    by_cases e : t = t'
    · subst e
      simp only [mkHeap, upd_same, Option.some.injEq] at hb
      subst hb
      exact h
    · simp only [mkHeap, upd_other _ _ _ _ e] at hb
      exact mkHeap_flat hf.2 hb h
  | (t', .map kt vt) :: l, X, x, hf, t, b, hv, hb, h => by
    simp only [List.all_cons, Bool.and_eq_true] at hf
    have hf1 : kt.flat = true ∧ vt.flat = true := by simpa [flatB] using hf.1
    by_cases e : t = t'
    · subst e
      simp only [mkHeap, upd_same, Option.some.injEq] at hb
      subst hb
      obtain ⟨rr, en, cl, e1, e2, es', hs, hall⟩ := h
      refine ⟨rr, en, cl, e1, e2, es', hs, hall.mono fun p m ⟨q1, q2⟩ => ⟨q1.flat hf1.1, ?_⟩⟩
      unfold valOf at q2 ⊢
      cases hagg : vt.isAgg with
      | true =>
        rw [hagg] at q2
        obtain ⟨arr, e, hh⟩ := q2
        exact ⟨arr, e, hh.flat (cellsOf_flat hf1.2)⟩
      | false =>
        rw [hagg] at q2
        have hcf := cellsOf_flat (t := vt) (x := p.2) hf1.2
        cases hcs : cellsOf vt p.2 with
        | nil => rw [hcs] at q2; exact q2
        | cons c cs => rw [hcs] at q2 hcf; exact CellRel.toFlat (hcf c (by simp)) q2
    · simp only [mkHeap, upd_other _ _ _ _ e] at hb
      exact mkHeap_flat hf.2 hb h

theorem rel_toFlat {p : Tpl} {y : p.T} (hf : p.flat = true) (h : Rel nt w0 O μ S (mk p y) a w) : Rel nt w0 O μ (fun _ => False) (mk p y) a w := by
  simp only [Tpl.flat, Bool.and_eq_true] at hf
  exact ⟨fun t => mkEnv_flat hf.1 (h.env t), h.size, h.defers, h.dom, fun id b hb => by
    obtain ⟨hv, h1, h2⟩ := h.blks id b hb
    exact ⟨hv, h1, mkHeap_flat hf.2 hb h2⟩, h.sep, fun k hk => hk.elim, h.own, h.os, h.tape, h.output, h.grow, h.frame, fun k hk => hk.elim, h.pars, h.kept, h.tabs, h.tq⟩

/-! ### The summary keeps what calls owe -/
def HandF (P : Program) (nt : Nat) (hd : FuncId → Nat → List AV → St → (AV → St → Option R) → Option R) : Prop :=
  ∀ (w0 : World) (O : Own) (μ : Id → Option Value) (S : Nat → Prop) (st : St) (a : Act) (w : World) (g : FuncId) (dn : Nat) (args : List AV) (vals : Array Value) (K : AV → St → Option R) (r : R),
    Rel nt w0 O μ S st a w → All2 (AVRel μ S w) args vals.toList → hd g dn args st K = some r →
      (∃ u w', (callFunc g vals).run P w = .ok (.value u) w' ∧ NextV nt w0 O K r a u w') ∨
      ((callFunc g vals).run P w = .ok (.enter g vals) w ∧ Calls P g vals w fun e w' => ∃ u, e = .returned u ∧ NextV nt w0 O K r a u w')

theorem All2.getD {xs : List AV} {vs : List Value} (h : All2 (AVRel μ S w) xs vs) {t : Nat} (ht : t < xs.length) : AVRel μ S w (xs.getD t undefA) (vs.getD t undef) := by
  have hx : xs[t]? = some xs[t] := List.getElem?_eq_getElem ht
  obtain ⟨v, hv, hr⟩ := h.get hx
  simp only [List.getD_eq_getElem?_getD, hx, hv, Option.getD_some]
  exact hr

/-- the arguments ahead of the caller's own temporaries -/
theorem argSt_ok {k : Nat} (h : Rel nt w0 O μ S st a w) {args : List AV} {vals : Array Value} (ha : All2 (AVRel μ S w) args vals.toList) (hk : args.length = k) : Rel (k + nt) w0 O.free μ S (argSt k args st) ⟨vals ++ a.tmps, a.defers⟩ w := by
  have hvs : vals.size = k := by rw [← Array.length_toList, ← ha.length, hk]
  refine ⟨fun t => ?_, by simp [hvs, h.size], h.defers, h.dom, h.blks, h.sep, h.imm, h.own, h.os, h.tape, h.output, h.grow, h.frame, h.sfrom, fun i hi => absurd hi (Nat.not_lt_zero i), h.kept, h.tabs, h.tq⟩
  simp only [argSt]
  cases hb : Nat.blt t k with
  | true =>
    have hlt : t < k := Nat.le_of_ble_eq_true hb
    have := ha.getD (t := t) (by omega)
    rw [Array.getD_eq_getD_getElem?, Array.getElem?_append_left (by omega)]
    simpa [List.getD_eq_getElem?_getD] using this
  | false =>
    have hge : k ≤ t := by
      rcases Nat.lt_or_ge t k with h | h
      · have : Nat.blt t k = true := Nat.ble_eq_true_of_le h
        rw [hb] at this; cases this
      · exact h
    rw [Array.getD_eq_getD_getElem?, Array.getElem?_append_right (by omega), hvs, ← Array.getD_eq_getD_getElem?]
    exact h.env _

theorem mkEnv_none : ∀ {l : List Slot} {X : Type} {x : envT l X} {t : Nat}, (∀ s ∈ l, s.t ≠ t) → (mkEnv l x).1 t = undefA
  | [], _, _, _, _ => rfl
  | s :: l, X, x, t, h => by
    simp only [mkEnv]
    rw [upd_other _ _ _ _ (Ne.symm (h s (by simp)))]
    exact mkEnv_none fun s' hs' => h s' (by simp [hs'])
end
end Go.Proofs.YtjjepjfjikefiaaB
