/- The core, part 21: the caller's state behind a call; summaries. -/
import Derived.Test.YtjjepjfjikefiaaB20
set_option linter.unusedVariables false
namespace Go.Proofs.YtjjepjfjikefiaaB
open Go

section
variable {R : Type} {P : Program} {nt : Nat} {w0 : World} {O : Own} {μ : Id → Option Value} {S : Nat → Prop} {st : St} {a : Act} {w : World} {r : R}

/-- the boxes and maps that came in, by their names -/
def keptOf (μ : Id → Option Value) : Id → Option Value := fun t => bif keptB t then (match μ t with | some (.slice A n c) => bif fixedB t then some (.slice A n c) else none | v => v) else none
theorem keptOf_ok {μ : Id → Option Value} {t : Id} {v : Value} (h : keptOf μ t = some v) : KeptId t ∧ (FixedId t ∨ NoSlice v) ∧ μ t = some v := by
  unfold keptOf at h
  cases hb : keptB t with
  | false => rw [hb] at h; cases h
  | true =>
    rw [hb, cond_true] at h
    split at h
    · rename_i A n c hm
      cases hf : fixedB t with
      | false => rw [hf] at h; cases h
      | true =>
        rw [hf, cond_true] at h
        exact ⟨keptB_iff.1 hb, .inl (fixedB_iff.1 hf), by rw [hm]; exact h⟩
    · rename_i hn
      exact ⟨keptB_iff.1 hb, .inr fun A n c e => by subst e; exact hn _ _ _ h, h⟩
theorem keptOf_mk {μ : Id → Option Value} {t : Id} {v : Value} (hk : keptB t = true) (hn : FixedId t ∨ NoSlice v) (h : μ t = some v) : keptOf μ t = some v := by
  unfold keptOf
  rw [hk, cond_true, h]
  split
  · rename_i A n c e
    rcases hn with hn | hn
    · rw [fixedB_iff.2 hn, cond_true]; exact e.symm
    · simp only [Option.some.injEq] at e; exact absurd e (hn _ _ _)
  · rfl
/-- which blocks a callee may write -/
def ownOf (tb : Nat → Option Obj) (m : IdMap) (μ : Id → Option Value) (S : Nat → Prop) : Own :=
  { o := fun b => ∃ t id hv, (t, id) ∈ m ∧ μ id = some hv ∧ blockOf hv = some b, s := S, kept := keptOf (muOf m μ), tb := tb }

theorem pinC_ok {μ1 μ2 : Id → Option Value} {S1 S2 : Nat → Prop} {w1 w2 : World} {x y : Cell} {t : Id} {v hv : Value} (hp : pinC x y t = true) (h1 : CellRel μ1 S1 w1 x v) (h2 : CellRel μ2 S2 w2 y v) (hm : μ1 t = some hv) : μ2 t = some hv := by
  unfold pinC at hp
  split at hp
  · simp only [Bool.and_eq_true] at hp
    have e1 := Nat.eq_of_beq_eq_true hp.1
    have e2 := Nat.eq_of_beq_eq_true hp.2
    subst e1 e2
    have g1 := h1.1
    have g2 := h2.1
    rw [hm] at g1; rw [g2, ← g1]
  · simp only [Bool.and_eq_true] at hp
    have e1 := Nat.eq_of_beq_eq_true hp.1
    have e2 := Nat.eq_of_beq_eq_true hp.2
    subst e1 e2
    obtain ⟨b1, g1, q1⟩ := h1
    obtain ⟨b2, g2, q2⟩ := h2
    rw [hm] at g1
    rw [q1] at q2
    simp only [Value.pointer.injEq, Option.some.injEq, Addr.mk.injEq] at q2
    rw [g2, g1, q2.1]
  · simp only [Bool.and_eq_true] at hp
    have e1 := Nat.eq_of_beq_eq_true hp.1
    have e2 := Nat.eq_of_beq_eq_true hp.2
    subst e1 e2
    have g1 := h1.1
    have g2 := h2.1
    rw [hm] at g1; rw [g2, ← g1]
  · rename_i f l f' l'
    obtain ⟨vs, e1, g1⟩ := h1
    obtain ⟨vs', e2, g2⟩ := h2
    rw [e1] at e2
    simp only [Value.func.injEq, true_and] at e2
    have e2 := e2.2
    subst e2
    clear e1
    generalize vs.toList = us at g1 g2
    induction l generalizing l' us with
    | nil => simp [pinCaps] at hp
    | cons p l ih => cases l' with
      | nil => simp [pinCaps] at hp
      | cons q l' => cases us with
        | nil => exact g1.elim
        | cons u us =>
          simp only [pinCaps, Bool.or_eq_true, Bool.and_eq_true] at hp
          rcases hp with hp | hp
          · have r1 := Nat.eq_of_beq_eq_true hp.1
            have r2 := Nat.eq_of_beq_eq_true hp.2
            obtain ⟨b1, s1, q1⟩ := g1.1
            obtain ⟨b2, s2, q2⟩ := g2.1
            rw [r1, hm] at s1
            rw [q1] at q2
            simp only [Value.pointer.injEq, Option.some.injEq, Addr.mk.injEq] at q2
            rw [r2] at s2
            rw [s2, s1, q2.1]
          · exact ih l' hp _ g1.2 g2.2
  · cases hp
theorem pinCs_ok {μ1 μ2 : Id → Option Value} {S1 S2 : Nat → Prop} {w1 w2 : World} {t : Id} {hv : Value} (hm : μ1 t = some hv) : ∀ {xs ys : List Cell} {vs : List Value}, pinCs t xs ys = true → All2 (CellRel μ1 S1 w1) xs vs → All2 (CellRel μ2 S2 w2) ys vs → μ2 t = some hv
  | a :: l, b :: l', v :: vs, hp, ⟨h1, r1⟩, ⟨h2, r2⟩ => by
    simp only [pinCs, Bool.or_eq_true] at hp
    rcases hp with hp | hp
    · exact pinC_ok hp h1 h2 hm
    · exact pinCs_ok hm hp r1 r2
  | [], _, _, hp, _, _ => by simp [pinCs] at hp
  | _ :: _, [], _, hp, _, _ => by simp [pinCs] at hp
  | _ :: _, _ :: _, [], _, h, _ => h.elim
theorem pinC_known {x y : Cell} {t : Id} (h : pinC x y t = true) : (V1.c x).known = true ∧ (V1.c y).known = true := by
  unfold pinC at h
  split at h <;> first | exact ⟨rfl, rfl⟩ | cases h
theorem pinAt_ok {μ1 μ2 : Id → Option Value} {S1 S2 : Nat → Prop} {w1 w2 : World} {x y : AV} {t : Id} {v hv : Value} (hp : pinAt x y t = true) (h1 : AVRel μ1 S1 w1 x v) (h2 : AVRel μ2 S2 w2 y v) (hm : μ1 t = some hv) : μ2 t = some hv := by
  unfold pinAt at hp
  split at hp
  · have hk := pinC_known hp
    exact pinC_ok hp (h1 hk.1) (h2 hk.2) hm
  · obtain ⟨arr, e1, g1⟩ := h1 rfl
    obtain ⟨arr', e2, g2⟩ := h2 rfl
    rw [e1] at e2
    simp only [Value.agg.injEq] at e2
    subst e2
    exact pinCs_ok hm hp g1 g2
  · cases hp

theorem pinned_ok {e1 e2 : Env} {nr t : Nat} : ∀ {np : Nat}, pinned e1 e2 nr t np = true → ∃ i, i < np ∧ pinAt (e1 i) (e2 (nr + i)) t = true
  | 0, h => by simp [pinned] at h
  | n + 1, h => by
    simp only [pinned, Bool.or_eq_true] at h
    rcases h with h | h
    · exact ⟨n, Nat.lt_succ_self n, h⟩
    · obtain ⟨i, hi, hp⟩ := pinned_ok h; exact ⟨i, Nat.lt_succ_of_lt hi, hp⟩

theorem lost_mem {h1 h2 : Heap} {e1 e2 : Env} {nr np : Nat} : ∀ {m : IdMap} {t id : Id}, (t, id) ∈ m → id ∉ lostIds h1 h2 e1 e2 nr np m → (keptIn h1 h2 t || pinned e1 e2 nr t np) = true
  | [], _, _, h, _ => by simp at h
  | (t', id') :: m, t, id, h, hn => by
    unfold lostIds at hn
    cases hb : (keptIn h1 h2 t' || pinned e1 e2 nr t' np) with
    | true =>
      rw [hb] at hn
      simp only [cond_true] at hn
      rcases List.mem_cons.1 h with e | e
      · simp only [Prod.mk.injEq] at e; rw [e.1]; exact hb
      · exact lost_mem e hn
    | false =>
      rw [hb] at hn
      simp only [cond_false, List.mem_cons, not_or] at hn
      rcases List.mem_cons.1 h with e | e
      · simp only [Prod.mk.injEq] at e; exact absurd e.2 hn.1
      · exact lost_mem e hn.2

/-- the caller's memory behind the call -/
def backMu (m mm : IdMap) (μ3 μ' : Id → Option Value) : Id → Option Value := fun id => match lookR mm id with
  | some t => μ' t
  | none => bif hasId (m.map (·.2)) id then none else μ3 id

theorem look_of_mem : ∀ {m : IdMap} {t id : Id}, distinct (m.map (·.1)) = true → (t, id) ∈ m → look m t = some id
  | [], _, _, _, h => by simp at h
  | (t', id') :: m, t, id, hd, h => by
    simp only [List.map_cons, distinct, Bool.and_eq_true, Bool.not_eq_true'] at hd
    unfold look
    rcases List.mem_cons.1 h with e | e
    · simp only [Prod.mk.injEq] at e; rw [e.1, e.2, Nat.beq_refl]; rfl
    · cases hb : Nat.beq t t' with
      | true =>
        have : ((m.map (·.1)).any fun y => Nat.beq t' y) = true := List.any_eq_true.2 ⟨t, List.mem_map.2 ⟨_, e, rfl⟩, by rw [Nat.eq_of_beq_eq_true hb]; exact Nat.beq_refl _⟩
        rw [hd.1] at this; cases this
      | false => exact look_of_mem hd.2 e

theorem held_of {pin : Tpl} {m : IdMap} {x : pin.T} {st3 : St} (hx : rd m pin st3 = some x) (hmk : distinct (m.map (·.1)) = true) : ∀ t id, (t, id) ∈ m → look m t = some id ∧ st3.heap id ≠ none := by
  have hfits := (cond_some hx).1
  have hrd := (cond_some hx).2
  replace hfits := (Bool.and_eq_true _ _ ▸ hfits).1
  simp only [fitsMap, Bool.and_eq_true] at hfits
  obtain ⟨z, hz⟩ := rdEnv_rest hrd
  intro t id hm
  have hl := look_of_mem hmk hm
  obtain ⟨q, hq, hb⟩ := List.any_eq_true.1 (List.all_eq_true.1 hfits.2 _ hm)
  obtain ⟨id', hl', hne⟩ := rdHeap_key hz q hq
  rw [Nat.eq_of_beq_eq_true hb, hl] at hl'
  cases hl'
  exact ⟨hl, hne⟩

theorem back_ok {k nr np base : Nat} {pin pout : Tpl} {m : IdMap} {x : pin.T} {y : pout.T} {vals us : Array Value} {w' w0' : World} {μ' : Id → Option Value} {S' Sin : Nat → Prop}
    (h3 : Rel nt w0 O μ S st a w) (hheld : ∀ t id, (t, id) ∈ m → look m t = some id ∧ st.heap id ≠ none) (hk : vals.size = k) (hus : us.size = nr) (hnp : np ≤ k) {n2 n3 : Nat}
    (hin : Rel n2 w0' (ownOf O.tb m μ Sin) (muOf m μ) Sin (mk pin x) ⟨vals, []⟩ w) (hout : Rel n3 w (ownOf O.tb m μ Sin) μ' S' (mk pout y) ⟨us ++ (vals.toList.take np).toArray, []⟩ w')
    (hS' : ∀ b, S' b → S b ∨ w.heap.size ≤ b ∨ (ownOf O.tb m μ Sin) b) (hkr : m.all nameOK = true) (hbase : 600000 ≤ base) (hinj : ∀ {t t' id : Id}, (t, id) ∈ m → (t', id) ∈ m → t = t')
    (hd : distinct ((newMap base m pout.heap).map (·.2)) = true) (hf : freshAll st.heap m (newMap base m pout.heap) = true)
    {mm : IdMap} (hmm : mm = newMap base m pout.heap) {lost : List Id} (hlost : lost = lostIds (mk pin x).heap (mk pout y).heap (mk pin x).env (mk pout y).env nr np m) :
    Rel nt w0 O (backMu m mm μ μ') (fun b => S b ∨ S' b) { env := fun t => lostA lost (st.env t), heap := backHeap m mm lost st.heap (mk pout y).heap } a w' ∧
    ∀ id v, μ' id = some v → backMu m mm μ μ' ((look mm id).getD 0) = some v := by
  rw [← hmm] at hd hf
  -- the map's names
  have hsnd : ∀ id, hasId (m.map (·.2)) id = true ↔ ∃ t, (t, id) ∈ m := by
    intro id
    rw [hasId_iff, List.mem_map]
    constructor
    · rintro ⟨⟨t, i⟩, hm, rfl⟩; exact ⟨t, hm⟩
    · rintro ⟨t, hm⟩; exact ⟨_, hm, rfl⟩
  have hother : ∀ id v, μ id = some v → (∀ t, (t, id) ∉ m) → lookR mm id = none := by
    intro id v hv hno
    cases hl : lookR mm id with
    | none => rfl
    | some t =>
      exfalso
      have hmem := lookR_mem hl
      rcases fresh_mem hf hmem with ⟨i, hi⟩ | hn
      · have := newMap_mem (hmm ▸ hmem)
        rw [hi] at this
        simp only [Option.getD_some] at this
        subst this
        exact hno t (look_mem hi)
      · rw [h3.dom _ hn] at hv; cases hv
  have hB : ∀ id v, μ' id = some v → ∃ i, look mm id = some i ∧ lookR mm i = some id ∧ i = (look m id).getD (base + id) := by
    intro id v hv
    have hne : (mk pout y).heap id ≠ none := fun e => by rw [hout.dom _ e] at hv; cases hv
    have hkey := mkHeap_key hne
    have hl := newMap_look (base := base) (m := m) hkey
    rw [← hmm] at hl
    have hmem := look_mem hl
    refine ⟨_, hl, ?_, rfl⟩
    cases hr : lookR mm ((look m id).getD (base + id)) with
    | none => exact absurd hmem (lookR_none hr id)
    | some t => rw [distinct_spec hd (lookR_mem hr) hmem]
  have hback : ∀ id v, μ' id = some v → backMu m mm μ μ' ((look mm id).getD 0) = some v := by
    intro id v hv
    obtain ⟨i, h1, h2, _⟩ := hB id v hv
    simp only [h1, Option.getD_some, backMu, h2]
    exact hv
  have hkeep : ∀ id v, μ id = some v → (∀ t, (t, id) ∉ m) → backMu m mm μ μ' id = some v := by
    intro id v hv hno
    have hn : hasId (m.map (·.2)) id = false := by
      cases hb : hasId (m.map (·.2)) id with
      | false => rfl
      | true => obtain ⟨t, ht⟩ := (hsnd id).1 hb; exact absurd ht (hno t)
    simp only [backMu, hother id v hv hno, hn, cond_false, hv]
  have hl : ∀ id v, μ id = some v → id ∉ lost → backMu m mm μ μ' id = some v := by
    intro id v hv hnl
    by_cases hm : ∃ t, (t, id) ∈ m
    · obtain ⟨t, hm⟩ := hm
      rw [hlost] at hnl
      have hlk := (hheld t id hm).1
      have hnk := List.all_eq_true.1 hkr _ hm
      simp only [nameOK, Bool.and_eq_true] at hnk
      have hkt : keptB t = true := hnk.1
      rcases Bool.or_eq_true _ _ ▸ lost_mem hm hnl with hp | hp
      · simp only [keptIn, Bool.and_eq_true] at hp
        have hns : FixedId t ∨ NoSlice v := by
          have hp1 := hp.1
          cases hfx : fixedB t with
          | true => exact .inl (fixedB_iff.1 hfx)
          | false =>
          rw [hfx] at hp1
          simp only [Bool.or_false] at hp1
          right
          cases hbk : (mk pin x).heap t with
          | none => rw [hbk] at hp1; cases hp1
          | some b =>
            rw [hbk] at hp1
            obtain ⟨hv', g1, g2⟩ := hin.blks t b hbk
            simp only [muOf, hlk, Option.bind_some] at g1
            rw [hv] at g1
            simp only [Option.some.injEq] at g1
            subst g1
            cases b with
            | box cs => obtain ⟨b, ty, arr, e1, _⟩ := g2; subst e1; exact fun A n c e => by cases e
            | map kt vt es => obtain ⟨r, en, cl, e1, _⟩ := g2; subst e1; exact fun A n c e => by cases e
            | row _ _ _ _ => cases hp1
            | buf _ _ => cases hp1
            | bld T bid => obtain ⟨b, p, v, e1, _⟩ := g2; subst e1; exact fun A n c e => by cases e
        have hkv : (ownOf O.tb m μ Sin).kept t = some v := keptOf_mk hkt hns (by simp [muOf, hlk, hv])
        have hne : (mk pout y).heap t ≠ none := fun e => by rw [e] at hp; cases hp.2
        have := (hout.kept t v hkv).2.2.resolve_left hne
        have h5 := hback t v this
        obtain ⟨i', g1, _, g3⟩ := hB t v this
        rw [hlk] at g3
        simp only [Option.getD_some] at g3
        rw [g1, g3] at h5
        exact h5
      obtain ⟨i, hi, hp⟩ := pinned_ok hp
      have h1 := hin.env i
      have h2 := hout.env (nr + i)
      have e1 : (us ++ (vals.toList.take np).toArray).getD (nr + i) undef = vals.getD i undef := by
        simp only [Array.getD_eq_getD_getElem?]
        rw [Array.getElem?_append_right (by omega), hus, Nat.add_sub_cancel_left]
        simp [List.getElem?_take_of_lt hi]
      rw [e1] at h2
      have := pinAt_ok hp h1 h2 (hv := v) (by simp [muOf, hlk, hv])
      have := hback t v this
      obtain ⟨i', g1, _, g3⟩ := hB t v ‹_›
      rw [hlk] at g3
      simp only [Option.getD_some] at g3
      rw [g1, g3] at this
      exact this
    · exact hkeep id v hv fun t ht => hm ⟨t, ht⟩
  have hcase : ∀ id hv, backMu m mm μ μ' id = some hv → (∃ t, lookR mm id = some t ∧ μ' t = some hv) ∨ ((∀ t, (t, id) ∉ m) ∧ μ id = some hv) := by
    intro id hv h
    unfold backMu at h
    split at h
    · rename_i t ht; exact .inl ⟨t, ht, h⟩
    · cases hb : hasId (m.map (·.2)) id with
      | true => rw [hb] at h; cases h
      | false =>
        rw [hb] at h
        exact .inr ⟨fun t ht => (by rw [(hsnd id).2 ⟨t, ht⟩] at hb; cases hb), h⟩
  have hnown : ∀ id hv k, (∀ t, (t, id) ∉ m) → μ id = some hv → blockOf hv = some k → ¬ (ownOf O.tb m μ Sin) k := by
    rintro id hv k hno h1 h2 ⟨t, id', hv', g1, g2, g3⟩
    have := h3.sep _ _ _ _ _ h1 g2 h2 g3
    subst this
    exact hno t g1
  have hSown : ∀ b, S b → ¬ (ownOf O.tb m μ Sin) b := by
    rintro b hb ⟨t, id', hv', g1, g2, g3⟩
    exact (h3.imm b hb).2 _ _ g2 g3
  have hD : ∀ b, S b → (S b ∨ S' b) ∧ w'.heap[b]? = w.heap[b]? := fun b hb => ⟨.inl hb, hout.frame b (h3.imm b hb).1 (hSown b hb)⟩
  refine ⟨⟨fun t => ((h3.env t).frame hD).lost hl, h3.size, h3.defers, fun id hid => ?_, fun id b hb => ?_, fun id1 id2 v1 v2 k1 h1 h2 g1 g2 => ?_, fun b hb => ?_, fun id hv k1 h1 h2 => ?_, hout.os.trans h3.os, hout.tape.trans h3.tape, hout.output.trans h3.output, Nat.le_trans h3.grow hout.grow, fun k1 hk1 ho => ?_, fun b hb => ?_, h3.pars, fun id v hk => ?_, fun b o hb => ?_, h3.tq⟩, hback⟩
  · simp only [backHeap] at hid
    unfold backMu
    split at hid
    · rename_i t ht
      rw [ht]
      simp only [Option.map_eq_none_iff] at hid
      exact hout.dom _ hid
    · rename_i ht
      rw [ht]
      cases hb : hasId (m.map (·.2)) id with
      | true => rfl
      | false =>
        rw [hb] at hid
        simp only [cond_false, Option.map_eq_none_iff] at hid ⊢
        exact h3.dom _ hid
  · simp only [backHeap] at hb
    split at hb
    · rename_i t ht
      simp only [Option.map_eq_some_iff] at hb
      obtain ⟨b0, hb0, rfl⟩ := hb
      obtain ⟨hv, g1, g2⟩ := hout.blks _ _ hb0
      refine ⟨hv, by simp [backMu, ht, g1], (g2.frame (fun b hb => ⟨.inr hb, rfl⟩) fun _ _ => rfl).ren hback⟩
    · rename_i ht
      cases hbb : hasId (m.map (·.2)) id with
      | true => rw [hbb] at hb; cases hb
      | false =>
        rw [hbb] at hb
        simp only [cond_false, Option.map_eq_some_iff] at hb
        obtain ⟨b0, hb0, rfl⟩ := hb
        obtain ⟨hv, g1, g2⟩ := h3.blks _ _ hb0
        have hno : ∀ t, (t, id) ∉ m := fun t ht' => by rw [(hsnd id).2 ⟨t, ht'⟩] at hbb; cases hbb
        exact ⟨hv, hkeep id hv g1 hno, (g2.frame hD fun k hk => hout.frame k (h3.own _ _ _ g1 hk).2 (hnown id hv k hno g1 hk)).lost hl⟩
  · rcases hcase _ _ h1 with ⟨t1, q1, p1⟩ | ⟨q1, p1⟩ <;> rcases hcase _ _ h2 with ⟨t2, q2, p2⟩ | ⟨q2, p2⟩
    · have := hout.sep _ _ _ _ _ p1 p2 g1 g2
      subst this
      have r1 := lookR_mem q1
      have r2 := lookR_mem q2
      rw [hmm] at r1 r2
      rw [newMap_mem r1, newMap_mem r2]
    · exfalso
      have hk1 := (h3.own _ _ _ p2 g2).2
      rcases (hout.own _ _ _ p1 g1).1 with h | h
      · omega
      · exact hnown _ _ _ q2 p2 g2 h
    · exfalso
      have hk1 := (h3.own _ _ _ p1 g1).2
      rcases (hout.own _ _ _ p2 g2).1 with h | h
      · omega
      · exact hnown _ _ _ q1 p1 g1 h
    · exact h3.sep _ _ _ _ _ p1 p2 g1 g2
  · rcases hb with hb | hb
    · refine ⟨Nat.lt_of_lt_of_le (h3.imm b hb).1 hout.grow, fun id hv h1 h2 => ?_⟩
      rcases hcase _ _ h1 with ⟨t1, q1, p1⟩ | ⟨q1, p1⟩
      · rcases (hout.own _ _ _ p1 h2).1 with h | h
        · exact absurd (h3.imm b hb).1 (by omega)
        · exact hSown b hb h
      · exact (h3.imm b hb).2 _ _ p1 h2
    · refine ⟨(hout.imm b hb).1, fun id hv h1 h2 => ?_⟩
      rcases hcase _ _ h1 with ⟨t1, q1, p1⟩ | ⟨q1, p1⟩
      · exact (hout.imm b hb).2 _ _ p1 h2
      · rcases hS' b hb with h | h | h
        · exact (h3.imm b h).2 _ _ p1 h2
        · have := (h3.own _ _ _ p1 h2).2; omega
        · exact hnown _ _ _ q1 p1 h2 h
  · rcases hcase _ _ h1 with ⟨t1, q1, p1⟩ | ⟨q1, p1⟩
    · have := hout.own _ _ _ p1 h2
      refine ⟨?_, this.2⟩
      rcases this.1 with h | ⟨t, id', hv', g1, g2, g3⟩
      · exact .inl (Nat.le_trans h3.grow h)
      · exact (h3.own _ _ _ g2 g3).1
    · exact ⟨(h3.own _ _ _ p1 h2).1, Nat.lt_of_lt_of_le (h3.own _ _ _ p1 h2).2 hout.grow⟩
  · rw [hout.frame k1 (Nat.lt_of_lt_of_le hk1 h3.grow), h3.frame k1 hk1 ho]
    rintro ⟨t, id', hv', g1, g2, g3⟩
    rcases (h3.own _ _ _ g2 g3).1 with h | h
    · omega
    · exact ho h
  · rcases hb with hb | hb
    · exact h3.sfrom b hb
    · rcases hS' b hb with h | h | ⟨t, id', hv', g1, g2, g3⟩
      · exact h3.sfrom b h
      · exact .inr (.inl (Nat.le_trans h3.grow h))
      · exact .inr (h3.own _ _ _ g2 g3).1
  · obtain ⟨q1, q2, q3⟩ := h3.kept id v hk
    refine ⟨q1, q2, ?_⟩
    rcases q3 with hn | hv
    · left
      show backHeap m mm lost st.heap (mk pout y).heap id = none
      unfold backHeap
      split
      · rename_i t ht
        exfalso
        have hmem := lookR_mem ht
        have hid := newMap_mem (hmm ▸ hmem)
        cases hl2 : look m t with
        | none =>
          rw [hl2] at hid
          simp only [Option.getD_none] at hid
          have h6 : @Eq Nat id (base + t) := hid
          have := q1.2
          omega
        | some i =>
          rw [hl2] at hid
          simp only [Option.getD_some] at hid
          subst hid
          exact (hheld t _ (look_mem hl2)).2 hn
      · rw [hn]
        cases hasId (m.map (·.2)) id <;> rfl
    · by_cases hm : ∃ t, (t, id) ∈ m
      · obtain ⟨t, hm⟩ := hm
        have hlk := (hheld t id hm).1
        have hnk := List.all_eq_true.1 hkr _ hm
        simp only [nameOK, Bool.and_eq_true, Bool.or_eq_true, Bool.not_eq_true'] at hnk
        have hkt : keptB t = true := hnk.1
        have q2' : FixedId t ∨ NoSlice v := q2.imp_left fun hf => fixedB_iff.1 (hnk.2.resolve_left (by rw [fixedB_iff.2 hf]; simp))
        have hkv : (ownOf O.tb m μ Sin).kept t = some v := keptOf_mk hkt q2' (by simp [muOf, hlk, hv])
        rcases (hout.kept t v hkv).2.2 with hn | hv'
        · cases hr : lookR mm id with
          | none =>
            left
            show backHeap m mm lost st.heap (mk pout y).heap id = none
            unfold backHeap
            rw [hr]
            simp only
            rw [(hsnd id).2 ⟨t, hm⟩]
            rfl
          | some t' =>
            have hmem := lookR_mem hr
            have hid := newMap_mem (hmm ▸ hmem)
            cases hl2 : look m t' with
            | none =>
              rw [hl2] at hid
              simp only [Option.getD_none] at hid
              have h6 : @Eq Nat id (base + t') := hid
              have := q1.2
              omega
            | some i =>
              rw [hl2] at hid
              simp only [Option.getD_some] at hid
              subst hid
              have := hinj hm (look_mem hl2)
              subst this
              left
              show backHeap m mm lost st.heap (mk pout y).heap id = none
              unfold backHeap
              rw [hr]
              simp only
              rw [hn]
              rfl
        · right
          have h5 := hback t v hv'
          obtain ⟨i', g1, _, g3⟩ := hB t v hv'
          rw [hlk] at g3
          simp only [Option.getD_some] at g3
          rw [g1, g3] at h5
          exact h5
      · exact .inr (hkeep id v hv fun t ht => hm ⟨t, ht⟩)
  · refine ⟨(hout.tabs b o hb).1, fun id hv g1 g2 => ?_⟩
    rcases hcase _ _ g1 with ⟨t1, q1, p1⟩ | ⟨q1, p1⟩
    · exact (hout.tabs b o hb).2 _ _ p1 g2
    · exact (h3.tabs b o hb).2 _ _ p1 g2
end
end Go.Proofs.YtjjepjfjikefiaaB
