/- The core, part 16: templates tell the truth. -/
import Derived.Test.YtjjepjfjikefiaaB15
set_option linter.unusedVariables false
namespace Go.Proofs.YtjjepjfjikefiaaB
open Go

section
variable {R : Type} {P : Program} {nt : Nat} {w0 : World} {O : Own} {μ : Id → Option Value} {S : Nat → Prop} {st : St} {a : Act} {w : World} {r : R}

def muOf (m : IdMap) (μ : Id → Option Value) : Id → Option Value := fun t => (look m t).bind μ

theorem isAt_look {m : IdMap} {t id : Id} (h : isAt m t id = true) : look m t = some id := by
  unfold isAt at h
  split at h
  · rename_i id' hl; rw [hl, Nat.eq_of_beq_eq_true h]
  · cases h

theorem muOf_at {m : IdMap} {t id : Id} (h : isAt m t id = true) : muOf m μ t = μ id := by simp [muOf, isAt_look h]

theorem areAt_rel {m : IdMap} : ∀ {l l' : List (Id × Nat)} {us : List Value}, areAt m l l' = true →
    All2 (fun (p : Id × Nat) u => ∃ b, μ p.1 = some (.pointer (some ⟨b, 0, none⟩)) ∧ u = .pointer (some ⟨b, p.2, none⟩)) l' us →
    All2 (fun (p : Id × Nat) u => ∃ b, muOf m μ p.1 = some (.pointer (some ⟨b, 0, none⟩)) ∧ u = .pointer (some ⟨b, p.2, none⟩)) l us
  | [], [], [], _, _ => trivial
  | [], [], _ :: _, _, h => h.elim
  | (t, o) :: l, (id, o') :: l', us, ha, h => by
    simp only [areAt, Bool.and_eq_true] at ha
    cases us with
    | nil => exact h.elim
    | cons u us =>
      obtain ⟨⟨b, h1, h2⟩, hr⟩ := h
      refine ⟨⟨b, by rw [muOf_at ha.1.1]; exact h1, ?_⟩, areAt_rel ha.2 hr⟩
      rw [h2, Nat.eq_of_beq_eq_true ha.1.2]
  | [], _ :: _, _, ha, _ => by simp [areAt] at ha
  | _ :: _, [], _, ha, _ => by simp [areAt] at ha

theorem rdC_ok {m : IdMap} : ∀ {l : List CS} {X : Type} {cs : List Cell} {vs : List Value} {x : Option X} {y : CST l X}, All2 (CellRel μ S w) cs vs → rdC m l cs x = some y →
    x = some (mkC l y).2 ∧ All2 (CellRel (muOf m μ) S w) (mkC l y).1 vs
  | [], X, cs, vs, x, y, h, hr => by
    cases cs with
    | nil =>
      simp only [rdC] at hr
      cases vs with
      | nil => exact ⟨hr, trivial⟩
      | cons _ _ => exact h.elim
    | cons c cs => simp [rdC] at hr
  | .d t :: l, X, cs, vs, x, y, h, hr => by
    unfold rdC at hr
    split at hr
    · rename_i y1 cs' ha
      obtain ⟨v1, v2, rfl, hv, hrest⟩ := asm_ok h ha
      split at hr
      · rename_i z hz
        simp only [Option.some.injEq] at hr
        subst hr
        obtain ⟨e1, e2⟩ := rdC_ok hrest hz
        exact ⟨e1, (cellsOf_rel hv).append e2⟩
      · cases hr
    · cases hr
  | .any :: l, X, cs, vs, x, y, h, hr => by
    cases cs with
    | nil => simp [rdC] at hr
    | cons c cs => cases vs with
      | nil => exact h.elim
      | cons v vs =>
        simp only [rdC] at hr
        obtain ⟨e1, e2⟩ := rdC_ok h.2 hr
        exact ⟨e1, CellRel.oneCell h.1, e2⟩
  | .row t :: l, X, cs, vs, x, y, h, hr => by
    cases cs with
    | nil => simp [rdC] at hr
    | cons c cs => cases vs with
      | nil => exact h.elim
      | cons v vs =>
        cases c <;> simp only [rdC] at hr <;> try (cases hr; done)
        have hb := (cond_some hr).1
        obtain ⟨e1, e2⟩ := rdC_ok h.2 (cond_some hr).2
        exact ⟨e1, ⟨by rw [muOf_at hb]; exact h.1.1, h.1.2⟩, e2⟩
  | .ptr t off :: l, X, cs, vs, x, y, h, hr => by
    cases cs with
    | nil => simp [rdC] at hr
    | cons c cs => cases vs with
      | nil => exact h.elim
      | cons v vs =>
        cases c <;> simp only [rdC] at hr <;> try (cases hr; done)
        have hb := (cond_some hr).1
        simp only [Bool.and_eq_true] at hb
        obtain ⟨e1, e2⟩ := rdC_ok h.2 (cond_some hr).2
        obtain ⟨⟨b, g1, g2⟩, _⟩ := h
        exact ⟨e1, ⟨b, by rw [muOf_at hb.1]; exact g1, by rw [g2, Nat.eq_of_beq_eq_true hb.2]⟩, e2⟩
  | .map t :: l, X, cs, vs, x, y, h, hr => by
    cases cs with
    | nil => simp [rdC] at hr
    | cons c cs => cases vs with
      | nil => exact h.elim
      | cons v vs =>
        cases c <;> simp only [rdC] at hr <;> try (cases hr; done)
        have hb := (cond_some hr).1
        obtain ⟨e1, e2⟩ := rdC_ok h.2 (cond_some hr).2
        exact ⟨e1, ⟨by rw [muOf_at hb]; exact h.1.1, h.1.2⟩, e2⟩
  | .fn f caps :: l, X, cs, vs, x, y, h, hr => by
    cases cs with
    | nil => simp [rdC] at hr
    | cons c cs => cases vs with
      | nil => exact h.elim
      | cons v vs =>
        cases c <;> simp only [rdC] at hr <;> try (cases hr; done)
        have hb := (cond_some hr).1
        simp only [Bool.and_eq_true] at hb
        obtain ⟨e1, e2⟩ := rdC_ok h.2 (cond_some hr).2
        obtain ⟨⟨arr, g1, g2⟩, _⟩ := h
        exact ⟨e1, ⟨arr, by rw [g1, Nat.eq_of_beq_eq_true hb.1], areAt_rel hb.2 g2⟩, e2⟩
  | .nilS :: l, X, cs, vs, x, y, h, hr => by
    cases cs with
    | nil => simp [rdC] at hr
    | cons c cs => cases vs with
      | nil => exact h.elim
      | cons v vs =>
        cases c <;> simp only [rdC] at hr <;> try (cases hr; done)
        obtain ⟨e1, e2⟩ := rdC_ok h.2 hr
        exact ⟨e1, h.1, e2⟩
  | .nilp :: l, X, cs, vs, x, y, h, hr => by
    cases cs with
    | nil => simp [rdC] at hr
    | cons c cs => cases vs with
      | nil => exact h.elim
      | cons v vs =>
        cases c <;> simp only [rdC] at hr <;> try (cases hr; done)
        obtain ⟨e1, e2⟩ := rdC_ok h.2 hr
        exact ⟨e1, h.1, e2⟩
  | .nilfn :: l, X, cs, vs, x, y, h, hr => by
    cases cs with
    | nil => simp [rdC] at hr
    | cons c cs => cases vs with
      | nil => exact h.elim
      | cons v vs =>
        cases c <;> simp only [rdC] at hr <;> try (cases hr; done)
        obtain ⟨e1, e2⟩ := rdC_ok h.2 hr
        exact ⟨e1, h.1, e2⟩
  | .nilif :: l, X, cs, vs, x, y, h, hr => by
    cases cs with
    | nil => simp [rdC] at hr
    | cons c cs => cases vs with
      | nil => exact h.elim
      | cons v vs =>
        cases c <;> simp only [rdC] at hr <;> try (cases hr; done)
        obtain ⟨e1, e2⟩ := rdC_ok h.2 hr
        exact ⟨e1, h.1, e2⟩
  | .err :: l, X, cs, vs, x, y, h, hr => by
    cases cs with
    | nil => simp [rdC] at hr
    | cons c cs => cases vs with
      | nil => exact h.elim
      | cons v vs =>
        cases c <;> simp only [rdC] at hr <;> try (cases hr; done)
        all_goals
          split at hr
          · rename_i z hz
            simp only [Option.some.injEq] at hr
            subst hr
            obtain ⟨e1, e2⟩ := rdC_ok h.2 hz
            exact ⟨e1, h.1, e2⟩
          · cases hr
  | .clip t :: l, X, cs, vs, x, y, h, hr => by
    cases cs with
    | nil => simp [rdC] at hr
    | cons c cs => cases vs with
      | nil => exact h.elim
      | cons v vs =>
        cases c <;> simp only [rdC] at hr <;> try (cases hr; done)
        split at hr
        · rename_i ty xs _ y' hy
          split at hr
          · rename_i z hz
            simp only [Option.some.injEq] at hr
            subst hr
            obtain ⟨e1, e2⟩ := rdC_ok h.2 hz
            obtain ⟨et, hy2⟩ := castTo_eq hy
            simp only [Ty.sl.injEq] at et
            subst et
            have : xs = y' := by simpa using hy2
            subst this
            exact ⟨e1, h.1, e2⟩
          · cases hr
        · cases hr

theorem rdEnv_ok {m : IdMap} {env : Env} {vals : Nat → Value} (he : ∀ t, AVRel μ S w (env t) (vals t)) : ∀ {l : List Slot} {X : Type} {x : Option X} {y : envT l X}, rdEnv m env l x = some y →
    x = some (mkEnv l y).2 ∧ ∀ t, AVRel (muOf m μ) S w ((mkEnv l y).1 t) (vals t)
  | [], X, x, y, hr => ⟨hr, fun t hk => by cases hk⟩
  | s :: l, X, x, y, hr => by
    have h0 := he s.t
    unfold rdEnv at hr
    split at hr
    · cases hr
    · rename_i c hu hc
      rw [hc] at h0
      cases hagg : s.agg with
      | true => rw [hagg] at hr; cases hr
      | false =>
        rw [hagg] at hr
        simp only [cond_false] at hr
        have hk : (V1.c c).known = true := by cases c <;> first | rfl | exact (hu rfl).elim
        obtain ⟨e1, e2⟩ := rdC_ok (cs := [c]) (vs := [vals s.t]) ⟨h0 hk, trivial⟩ hr
        obtain ⟨f1, f2⟩ := rdEnv_ok he e1
        refine ⟨f1, fun t => ?_⟩
        by_cases ht : t = s.t
        · subst ht
          show AVRel _ _ _ (upd _ _ _ _) _
          rw [upd_same, mkSlot, hagg]
          have hl := e2.length
          cases hcs : (mkC s.l y).1 with
          | nil => rw [hcs] at hl; simp at hl
          | cons c' cs' => rw [hcs] at e2; exact of_cell (c := c') e2.1
        · show AVRel _ _ _ (upd _ _ _ _) _
          rw [upd_other _ _ _ _ ht]; exact f2 t
    · rename_i cs hc
      rw [hc] at h0
      cases hagg : s.agg with
      | false => rw [hagg] at hr; cases hr
      | true =>
        rw [hagg] at hr
        simp only [cond_true] at hr
        obtain ⟨arr, g1, g2⟩ := h0 rfl
        obtain ⟨e1, e2⟩ := rdC_ok g2 hr
        obtain ⟨f1, f2⟩ := rdEnv_ok he e1
        refine ⟨f1, fun t => ?_⟩
        by_cases ht : t = s.t
        · subst ht
          show AVRel _ _ _ (upd _ _ _ _) _
          rw [upd_same, mkSlot, hagg]
          exact fun _ => ⟨arr, g1, e2⟩
        · show AVRel _ _ _ (upd _ _ _ _) _
          rw [upd_other _ _ _ _ ht]; exact f2 t
    · cases hr

/-- data's cells -/
theorem cellsOf_mu {μ' : Id → Option Value} : ∀ (t : Ty) (x : t.den) {vs : List Value}, All2 (CellRel μ S w) (cellsOf t x) vs → All2 (CellRel μ' S w) (cellsOf t x) vs
  | .unit, _, [], _ => trivial
  | .unit, _, _ :: _, h => h.elim
  | .int _, _, [_], h => h
  | .bool, _, [_], h => h
  | .str, _, [_], h => h
  | .sl _, _, [_], h => h
  | .int _, _, [], h => h.elim
  | .bool, _, [], h => h.elim
  | .str, _, [], h => h.elim
  | .sl _, _, [], h => h.elim
  | .int _, _, _ :: _ :: _, h => h.2.elim
  | .bool, _, _ :: _ :: _, h => h.2.elim
  | .str, _, _ :: _ :: _, h => h.2.elim
  | .sl _, _, _ :: _ :: _, h => h.2.elim
  | .last t, x, _, h => cellsOf_mu t x h
  | .prod a b, x, vs, h => by
    have h1 := h.take (cellsOf a x.1).length
    have h2 := h.drop (cellsOf a x.1).length
    simp only [cellsOf, List.take_left', List.drop_left'] at h1 h2
    have := (cellsOf_mu (μ' := μ') a x.1 h1).append (cellsOf_mu (μ' := μ') b x.2 h2)
    rw [List.take_append_drop] at this
    exact this

theorem valOf_mu {μ' : Id → Option Value} {t : Ty} {x : t.den} {v : Value} (h : V1Rel μ S w (valOf t x) v) : V1Rel μ' S w (valOf t x) v := by
  unfold valOf at h ⊢
  cases ha : t.isAgg with
  | true =>
    rw [ha] at h
    obtain ⟨arr, e, hall⟩ := h
    exact ⟨arr, e, cellsOf_mu t x hall⟩
  | false =>
    rw [ha] at h
    cases t <;> simp [Ty.isAgg] at ha <;> exact h

theorem castMap_eq {kt vt kt' vt' : Ty} {x : List (kt'.den × vt'.den)} {y : List (kt.den × vt.den)} (h : castMap kt vt kt' vt' x = some y) : ∃ (e1 : kt' = kt) (e2 : vt' = vt), e1 ▸ e2 ▸ x = y := by
  unfold castMap at h
  split at h
  · rename_i e
    simp only [Option.some.injEq] at h
    exact ⟨e.1, e.2, h⟩
  · cases h

theorem rdHeap_ok {m : IdMap} {heap : Heap} (hb : ∀ id b, heap id = some b → ∃ hv, μ id = some hv ∧ BlkRel μ S w hv b) : ∀ {l : List (Id × BS)} {X : Type} {x : Option X} {y : heapT l X}, l.all (rowGuard m heap) = true → rdHeap m heap l x = some y →
    x = some (mkHeap l y).2 ∧ (∀ t b, (mkHeap l y).1 t = some b → ∃ hv, muOf m μ t = some hv ∧ BlkRel (muOf m μ) S w hv b) ∧ (∀ t, (mkHeap l y).1 t = none → ∀ q ∈ l, q.1 ≠ t)
  | [], X, x, y, hgd, hr => ⟨hr, fun t b h => by simp [mkHeap] at h, fun t _ q hq => by simp at hq⟩
  | (t, .box l) :: rs, X, x, y, hgd, hr => by
    simp only [List.all_cons, Bool.and_eq_true] at hgd
    unfold rdHeap at hr
    split at hr
    · rename_i id hid
      split at hr
      · rename_i cs hcs
        obtain ⟨hv, hm, b, ty, arr, e1, e2, e3⟩ := hb _ _ hcs
        obtain ⟨f1, f2⟩ := rdC_ok e3 hr
        obtain ⟨g1, g2, g3⟩ := rdHeap_ok hb hgd.2 f1
        refine ⟨g1, fun t' b' h' => ?_, fun t' h' q hq => ?_⟩
        · by_cases ht : t' = t
          · subst ht
            simp only [mkHeap, upd_same, Option.some.injEq] at h'
            subst h'
            exact ⟨hv, by simp [muOf, hid, hm], b, ty, arr, e1, e2, f2⟩
          · simp only [mkHeap, upd_other _ _ _ _ ht] at h'
            exact g2 _ _ h'
        · by_cases ht : t' = t
          · subst ht; simp [mkHeap, upd_same] at h'
          · simp only [mkHeap, upd_other _ _ _ _ ht] at h'
            rcases List.mem_cons.1 hq with rfl | hq
            · exact fun e => ht e.symm
            · exact g3 _ h' _ hq
      · cases hr
    · cases hr
  | (t, .row e n ty) :: rs, X, x, y, hgd, hr => by
    simp only [List.all_cons, Bool.and_eq_true] at hgd
    unfold rdHeap at hr
    split at hr
    · rename_i id hid
      split at hr
      · rename_i e' n' ty' xs hcs
        have hc := (cond_some hr).1
        replace hr := (cond_some hr).2
        split at hr
        · rename_i ys hys
          split at hr
          · rename_i z hz
            simp only [Option.some.injEq] at hr
            subst hr
            obtain ⟨ety, hxy⟩ := castTo_eq hys
            simp only [Ty.sl.injEq] at ety
            subst ety
            simp only at hxy
            subst hxy
            have he := Nat.eq_of_beq_eq_true hc
            subst he
            obtain ⟨hv, hm, cells, e1, e2, e3⟩ := hb _ _ hcs
            obtain ⟨g1, g2, g3⟩ := rdHeap_ok hb hgd.2 hz
            refine ⟨g1, fun t' b' h' => ?_, fun t' h' q hq => ?_⟩
            · by_cases ht : t' = t
              · subst ht
                simp only [mkHeap, upd_same, Option.some.injEq] at h'
                subst h'
                refine ⟨hv, by simp [muOf, hid, hm], cells, e1, e2, fun hn => ?_⟩
                subst hn
                have h1 := hgd.1
                simp only [rowGuard, hid, hcs, Bool.or_eq_true, Bool.not_eq_true'] at h1
                rcases h1 with h0 | h0
                · exact e3 h0
                · intro hx; rw [hx] at h0; cases h0
              · simp only [mkHeap, upd_other _ _ _ _ ht] at h'
                exact g2 _ _ h'
            · by_cases ht : t' = t
              · subst ht; simp [mkHeap, upd_same] at h'
              · simp only [mkHeap, upd_other _ _ _ _ ht] at h'
                rcases List.mem_cons.1 hq with rfl | hq
                · exact fun e => ht e.symm
                · exact g3 _ h' _ hq
          · cases hr
        · cases hr
      · cases hr
    · cases hr
  | (t, .bld T bid) :: rs, X, x, y, hgd, hr => by
    simp only [List.all_cons, Bool.and_eq_true] at hgd
    unfold rdHeap at hr
    split at hr
    · rename_i id hid
      split at hr
      · rename_i T' bid' hcs
        have hc := (cond_some hr).1
        replace hr := (cond_some hr).2
        simp only [Bool.and_eq_true] at hc
        have he := Nat.eq_of_beq_eq_true hc.1
        subst he
        obtain ⟨hv, hm, b, p, v, e1, e2, e3, e4, e5⟩ := hb _ _ hcs
        obtain ⟨g1, g2, g3⟩ := rdHeap_ok hb hgd.2 hr
        refine ⟨g1, fun t' b' h' => ?_, fun t' h' q hq => ?_⟩
        · by_cases ht : t' = t
          · subst ht
            simp only [mkHeap, upd_same, Option.some.injEq] at h'
            subst h'
            exact ⟨hv, by simp [muOf, hid, hm], b, p, v, e1, e2, e3, by rw [muOf_at hc.2]; exact e4, e5⟩
          · simp only [mkHeap, upd_other _ _ _ _ ht] at h'
            exact g2 _ _ h'
        · by_cases ht : t' = t
          · subst ht; simp [mkHeap, upd_same] at h'
          · simp only [mkHeap, upd_other _ _ _ _ ht] at h'
            rcases List.mem_cons.1 hq with rfl | hq
            · exact fun e => ht e.symm
            · exact g3 _ h' _ hq
      · cases hr
    · cases hr
  | (t, .buf e) :: rs, X, x, y, hgd, hr => by
    simp only [List.all_cons, Bool.and_eq_true] at hgd
    unfold rdHeap at hr
    split at hr
    · rename_i id hid
      split at hr
      · rename_i e' l hcs
        have he := Nat.eq_of_beq_eq_true (cond_some hr).1
        subst he
        replace hr := (cond_some hr).2
        split at hr
        · rename_i z hz
          simp only [Option.some.injEq] at hr
          subst hr
          obtain ⟨hv, hm, e1⟩ := hb _ _ hcs
          obtain ⟨g1, g2, g3⟩ := rdHeap_ok hb hgd.2 hz
          refine ⟨g1, fun t' b' h' => ?_, fun t' h' q hq => ?_⟩
          · by_cases ht : t' = t
            · subst ht
              simp only [mkHeap, upd_same, Option.some.injEq] at h'
              subst h'
              exact ⟨hv, by simp [muOf, hid, hm], e1⟩
            · simp only [mkHeap, upd_other _ _ _ _ ht] at h'
              exact g2 _ _ h'
          · by_cases ht : t' = t
            · subst ht; simp [mkHeap, upd_same] at h'
            · simp only [mkHeap, upd_other _ _ _ _ ht] at h'
              rcases List.mem_cons.1 hq with rfl | hq
              · exact fun e => ht e.symm
              · exact g3 _ h' _ hq
        · cases hr
      · cases hr
    · cases hr
  | (t, .map kt vt) :: rs, X, x, y, hgd, hr => by
    simp only [List.all_cons, Bool.and_eq_true] at hgd
    unfold rdHeap at hr
    split at hr
    · rename_i id hid
      split at hr
      · rename_i kt' vt' es hcs
        split at hr
        · rename_i ys hys
          split at hr
          · rename_i z hz
            simp only [Option.some.injEq] at hr
            subst hr
            obtain ⟨ek, ev, hxy⟩ := castMap_eq hys
            subst ek ev
            simp only at hxy
            subst hxy
            obtain ⟨hv, hm, rr, entries, clock, e1, e2, es0, hsame, e3⟩ := hb _ _ hcs
            obtain ⟨g1, g2, g3⟩ := rdHeap_ok hb hgd.2 hz
            refine ⟨g1, fun t' b' h' => ?_, fun t' h' q hq => ?_⟩
            · by_cases ht : t' = t
              · subst ht
                simp only [mkHeap, upd_same, Option.some.injEq] at h'
                subst h'
                exact ⟨hv, by simp [muOf, hid, hm], rr, entries, clock, e1, e2, es0, hsame, e3.mono fun p m ⟨q1, q2⟩ => ⟨q1, valOf_mu q2⟩⟩
              · simp only [mkHeap, upd_other _ _ _ _ ht] at h'
                exact g2 _ _ h'
            · by_cases ht : t' = t
              · subst ht; simp [mkHeap, upd_same] at h'
              · simp only [mkHeap, upd_other _ _ _ _ ht] at h'
                rcases List.mem_cons.1 hq with rfl | hq
                · exact fun e => ht e.symm
                · exact g3 _ h' _ hq
          · cases hr
        · cases hr
      · cases hr
    · cases hr

theorem look_mem : ∀ {m : IdMap} {t id : Id}, look m t = some id → (t, id) ∈ m
  | [], _, _, h => by simp [look] at h
  | (t', id') :: m, t, id, h => by
    unfold look at h
    cases hb : Nat.beq t t' with
    | true =>
      rw [hb] at h
      simp only [cond_true, Option.some.injEq] at h
      rw [Nat.eq_of_beq_eq_true hb, h]; simp
    | false => rw [hb] at h; exact List.mem_cons_of_mem _ (look_mem h)

theorem distinct_spec : ∀ {m : IdMap} {t t' id : Id}, distinct (m.map (·.2)) = true → (t, id) ∈ m → (t', id) ∈ m → t = t'
  | [], _, _, _, _, h, _ => by simp at h
  | p :: m, t, t', id, hd, h1, h2 => by
    simp only [List.map_cons, distinct, Bool.and_eq_true, Bool.not_eq_true'] at hd
    have hno : ∀ t, (t, p.2) ∉ m := by
      intro t hm
      have : ((m.map (·.2)).any fun y => Nat.beq p.2 y) = true := List.any_eq_true.2 ⟨p.2, List.mem_map.2 ⟨_, hm, rfl⟩, Nat.beq_refl _⟩
      rw [hd.1] at this; cases this
    rcases List.mem_cons.1 h1 with e1 | e1 <;> rcases List.mem_cons.1 h2 with e2 | e2
    · rw [← e1] at e2; simpa using e2.symm
    · rw [← e1] at hno; exact absurd e2 (hno t')
    · rw [← e2] at hno; exact absurd e1 (hno t)
    · exact distinct_spec hd.2 e1 e2

def Own.nok (O : Own) : Own := { O with kept := fun _ => none }
theorem rd_ok {p : Tpl} {m : IdMap} {x : p.T} (h : Rel nt w0 O μ S st a w) (hr : rd m p st = some x) : Rel nt w0 O.nok (muOf m μ) S (mk p x) a w := by
  unfold rd at hr
  have hf := (cond_some hr).1
  replace hr := (cond_some hr).2
  have hgd := (Bool.and_eq_true _ _ ▸ hf).2
  replace hf := (Bool.and_eq_true _ _ ▸ hf).1
  simp only [fitsMap, Bool.and_eq_true] at hf
  obtain ⟨e1, henv⟩ := rdEnv_ok (vals := fun t => a.tmps.getD t undef) h.env hr
  obtain ⟨e2, hblk, hnone⟩ := rdHeap_ok h.blks hgd e1
  have hmu : ∀ {t v}, muOf m μ t = some v → ∃ id, look m t = some id ∧ μ id = some v := by
    intro t v ht
    unfold muOf at ht
    cases hl : look m t with
    | none => rw [hl] at ht; cases ht
    | some id => rw [hl] at ht; exact ⟨id, rfl, ht⟩
  refine ⟨henv, h.size, h.defers, fun id hid => ?_, hblk, fun id id' hv hv' k h1 h2 h3 h4 => ?_, fun k hk => ⟨(h.imm k hk).1, fun id hv h1 => ?_⟩, fun id hv k h1 h2 => ?_, h.os, h.tape, h.output, h.grow, h.frame, h.sfrom, h.pars, fun id v hk => (by cases hk), fun k o hk => ⟨(h.tabs k o hk).1, fun id hv h1 => ?_⟩, h.tq⟩
  · cases hl : look m id with
    | none => simp [muOf, hl]
    | some i =>
      have := List.all_eq_true.1 hf.2 _ (look_mem hl)
      obtain ⟨q, hq, hb⟩ := List.any_eq_true.1 this
      exact absurd (Nat.eq_of_beq_eq_true hb) (hnone id hid q hq)
  · obtain ⟨i, l1, g1⟩ := hmu h1
    obtain ⟨i', l2, g2⟩ := hmu h2
    have := h.sep _ _ _ _ _ g1 g2 h3 h4
    subst this
    exact distinct_spec hf.1 (look_mem l1) (look_mem l2)
  · obtain ⟨i, _, g1⟩ := hmu h1
    exact (h.imm k hk).2 i hv g1
  · obtain ⟨i, _, g1⟩ := hmu h1
    exact h.own i hv k g1 h2
  · obtain ⟨i, _, g1⟩ := hmu h1
    exact (h.tabs k o hk).2 i hv g1
end
end Go.Proofs.YtjjepjfjikefiaaB
