/- The core, part 2: what each kind of step does to the relation. -/
import Derived.Test.YtjjepjfjikefiaaB1
set_option linter.unusedVariables false
namespace Go.Proofs.YtjjepjfjikefiaaB
open Go

/-! ### More blocks told of -/
def MuLe (μ μ' : Id → Option Value) : Prop := ∀ id v, μ id = some v → μ' id = some v
theorem CellRel.mu {μ μ' : Id → Option Value} {S : Nat → Prop} {w : World} (h : MuLe μ μ') {c : Cell} {v : Value} (hr : CellRel μ S w c v) : CellRel μ' S w c v := by
  cases c with
  | ptr id off => obtain ⟨b, e, hv⟩ := hr; exact ⟨b, h _ _ e, hv⟩
  | row id => exact ⟨h _ _ hr.1, hr.2⟩
  | win id lo n sz =>
    obtain ⟨A, c, N, cap, e1, e2, e3, e4⟩ := hr
    refine ⟨A, c, N, cap, e1, e2, e3, ?_⟩
    rcases e4 with ⟨e, e'⟩ | ⟨b, e, e'⟩
    · exact .inl ⟨h _ _ e, e'⟩
    · exact .inr ⟨b, h _ _ e, e'⟩
  | eptr id i off sz => obtain ⟨b, N, cap, e, hr⟩ := hr; exact ⟨b, N, cap, h _ _ e, hr⟩
  | map id => exact ⟨h _ _ hr.1, hr.2⟩
  | fn f caps =>
    obtain ⟨vs, e, hr⟩ := hr
    exact ⟨vs, e, hr.mono fun p u ⟨b, e, hu⟩ => ⟨b, h _ _ e, hu⟩⟩
  | _ => exact hr
theorem V1Rel.mu {μ μ' : Id → Option Value} {S : Nat → Prop} {w : World} (h : MuLe μ μ') {c : V1} {v : Value} (hr : V1Rel μ S w c v) : V1Rel μ' S w c v := by
  cases c with
  | c x => exact CellRel.mu h hr
  | agg cs => obtain ⟨arr, e, ha⟩ := hr; exact ⟨arr, e, ha.mono fun _ _ => CellRel.mu h⟩
theorem AVRel.mu {μ μ' : Id → Option Value} {S : Nat → Prop} {w : World} (h : MuLe μ μ') {c : AV} {v : Value} (hr : AVRel μ S w c v) : AVRel μ' S w c v := by
  cases c with
  | one x => exact fun hk => (hr hk).mu h
  | tup vs => obtain ⟨arr, e, ha⟩ := hr; exact ⟨arr, e, ha.mono fun _ _ => V1Rel.mu h⟩
theorem BlkRel.mu {μ μ' : Id → Option Value} {S : Nat → Prop} {w : World} (h : MuLe μ μ') {hv : Value} {b : Blk} (hr : BlkRel μ S w hv b) : BlkRel μ' S w hv b := by
  cases b with
  | box cs => obtain ⟨b, ty, arr, e, hw, ha⟩ := hr; exact ⟨b, ty, arr, e, hw, ha.mono fun _ _ => CellRel.mu h⟩
  | row e nilE t xs => exact hr
  | map kt vt es => obtain ⟨r, en, cl, e, hw, es', hs, ha⟩ := hr; exact ⟨r, en, cl, e, hw, es', hs, ha.mono fun _ _ ⟨h1, h2⟩ => ⟨h1, h2.mu h⟩⟩
  | bld T bid => obtain ⟨b, p, v, e, hw, hp, hm, hs⟩ := hr; exact ⟨b, p, v, e, hw, hp, h _ _ hm, hs⟩
  | buf e l => exact hr

/-! ### Killing -/
theorem CellRel.oneCell {μ : Id → Option Value} {S : Nat → Prop} {w : World} {c : Cell} {v : Value} (hr : CellRel μ S w c v) : v.oneCell' = true := by
  cases c with
  | undef => exact hr
  | d t x => exact Reads.oneCell hr v (by simp)
  | nilS => have : v = _ := hr; subst this; rfl
  | nilp => have : v = _ := hr; subst this; rfl
  | nilfn => have : v = _ := hr; subst this; rfl
  | nilif => have : v = _ := hr; subst this; rfl
  | ptr id off => obtain ⟨b, e, hv⟩ := hr; subst hv; rfl
  | row id => obtain ⟨_, A, n, c, e⟩ := hr; subst e; rfl
  | win id lo n sz => obtain ⟨A, c, N, cap, e1, _⟩ := hr; subst e1; rfl
  | eptr id i off sz => obtain ⟨b, N, cap, e, _, e2⟩ := hr; subst e2; rfl
  | cptr t x off => obtain ⟨b, o, cells, e, _⟩ := hr; subst e; rfl
  | clip t x => obtain ⟨A, e, _⟩ := hr; subst e; rfl
  | map id => obtain ⟨_, r, e⟩ := hr; subst e; rfl
  | fn f caps => obtain ⟨vs, e, _⟩ := hr; subst e; rfl
  | old n => obtain ⟨A, c, e⟩ := hr; subst e; rfl
  | err z =>
    cases z with
    | true => have : v = _ := hr; subst this; rfl
    | false => obtain ⟨t, p, e⟩ : ∃ t p, v = .iface t p := hr; subst e; rfl

/-- the header of row id changes: what is left behind the killing doesn't lean on it -/
structure MuBut (id : Id) (N : Nat) (μ μ' : Id → Option Value) : Prop where
  isRow : ∃ A c, μ id = some (.slice A N c)
  other : ∀ id' v, id' ≠ id → μ id' = some v → μ' id' = some v

theorem CellRel.kill {id : Id} {N : Nat} {μ μ' : Id → Option Value} {S : Nat → Prop} {w : World} (h : MuBut id N μ μ') {c : Cell} {v : Value} (hr : CellRel μ S w c v) : CellRel μ' S w (killC id N c) v := by
  have hone := hr.oneCell
  obtain ⟨A0, c0, hrow⟩ := h.isRow
  have nptr : ∀ id' b, μ id' = some (.pointer (some ⟨b, 0, none⟩)) → id' ≠ id := by
    rintro id' b e rfl
    rw [hrow] at e; cases e
  cases c with
  | ptr id' off => obtain ⟨b, e, hv⟩ := hr; exact ⟨b, h.other _ _ (nptr _ _ e) e, hv⟩
  | row id' =>
    cases hb : Nat.beq id' id with
    | true =>
      rw [show killC id N (.row id') = .old N by simp [killC, hb]]
      have e := Nat.eq_of_beq_eq_true hb
      subst e
      have := hr.1
      rw [hrow] at this
      simp only [Option.some.injEq] at this
      exact ⟨A0, c0, this.symm⟩
    | false =>
      rw [show killC id N (.row id') = .row id' by simp [killC, hb]]
      exact ⟨h.other _ _ (Nat.ne_of_beq_eq_false hb) hr.1, hr.2⟩
  | win id' lo n sz =>
    cases hb : Nat.beq id' id with
    | true =>
      rw [show killC id N (.win id' lo n sz) = .old n by simp [killC, hb]]
      obtain ⟨A, c, _, _, e1, _⟩ := hr
      exact ⟨A, c, e1⟩
    | false =>
      rw [show killC id N (.win id' lo n sz) = .win id' lo n sz by simp [killC, hb]]
     
      have hne := Nat.ne_of_beq_eq_false hb
      obtain ⟨A, c, N, cap, e1, e2, e3, e4⟩ := hr
      refine ⟨A, c, N, cap, e1, e2, e3, ?_⟩
      rcases e4 with ⟨e, e'⟩ | ⟨b, e, e'⟩
      · exact .inl ⟨h.other _ _ hne e, e'⟩
      · exact .inr ⟨b, h.other _ _ hne e, e'⟩
  | eptr id' i off sz =>
    cases hb : Nat.beq id' id with
    | true => rw [show killC id N (.eptr id' i off sz) = .undef by simp [killC, hb]]; exact hone
    | false =>
      rw [show killC id N (.eptr id' i off sz) = .eptr id' i off sz by simp [killC, hb]]
      obtain ⟨b, N, cap, e, hr⟩ := hr; exact ⟨b, N, cap, h.other _ _ (Nat.ne_of_beq_eq_false hb) e, hr⟩
  | map id' =>
    obtain ⟨e, r, hv⟩ := hr
    subst hv
    exact ⟨h.other _ _ (by rintro rfl; rw [hrow] at e; cases e) e, r, rfl⟩
  | fn f caps =>
    obtain ⟨vs, e, hr⟩ := hr
    exact ⟨vs, e, hr.mono fun p u ⟨b, e, hu⟩ => ⟨b, h.other _ _ (nptr _ _ e) e, hu⟩⟩
  | _ => exact hr
theorem All2.kill {id : Id} {N : Nat} {μ μ' : Id → Option Value} {S : Nat → Prop} {w : World} (h : MuBut id N μ μ') : ∀ {cs : List Cell} {vs : List Value}, All2 (CellRel μ S w) cs vs → All2 (CellRel μ' S w) (cs.map (killC id N)) vs
  | [], [], _ => trivial
  | _ :: _, _ :: _, ⟨a, b⟩ => ⟨a.kill h, All2.kill h b⟩
  | [], _ :: _, h => h.elim
  | _ :: _, [], h => h.elim
theorem V1Rel.kill {id : Id} {N : Nat} {μ μ' : Id → Option Value} {S : Nat → Prop} {w : World} (h : MuBut id N μ μ') {c : V1} {v : Value} (hr : V1Rel μ S w c v) : V1Rel μ' S w (killV id N c) v := by
  cases c with
  | c x => exact CellRel.kill h hr
  | agg cs => obtain ⟨arr, e, ha⟩ := hr; exact ⟨arr, e, ha.kill h⟩
theorem All2.killV {id : Id} {N : Nat} {μ μ' : Id → Option Value} {S : Nat → Prop} {w : World} (h : MuBut id N μ μ') : ∀ {cs : List V1} {vs : List Value}, All2 (V1Rel μ S w) cs vs → All2 (V1Rel μ' S w) (cs.map (killV id N)) vs
  | [], [], _ => trivial
  | _ :: _, _ :: _, ⟨a, b⟩ => ⟨a.kill h, All2.killV h b⟩
  | [], _ :: _, h => h.elim
  | _ :: _, [], h => h.elim
theorem killV_known {id : Id} {N : Nat} {c : V1} (h : (killV id N c).known = true) : c.known = true := by
  cases c with
  | c x => cases x <;> first | rfl | (simp [Go.Proofs.YtjjepjfjikefiaaB.killV, killC, V1.known] at h)
  | agg cs => rfl
theorem AVRel.kill {id : Id} {N : Nat} {μ μ' : Id → Option Value} {S : Nat → Prop} {w : World} (h : MuBut id N μ μ') {c : AV} {v : Value} (hr : AVRel μ S w c v) : AVRel μ' S w (killA id N c) v := by
  cases c with
  | one x => exact fun hk => (hr (killV_known hk)).kill h
  | tup vs => obtain ⟨arr, e, ha⟩ := hr; exact ⟨arr, e, ha.killV h⟩
theorem valOf_kill (id : Id) (N : Nat) (t : Ty) (x : t.den) : killV id N (valOf t x) = valOf t x := by
  have hc : ∀ (t : Ty) (x : t.den), (cellsOf t x).map (killC id N) = cellsOf t x := by
    intro t
    induction t with
    | last t ih => intro x; exact ih x
    | prod a b iha ihb => intro x; simp only [cellsOf, List.map_append]; rw [iha, ihb]
    | _ => intro x; rfl
  unfold valOf
  cases t.isAgg with
  | true => simp [killV, hc]
  | false =>
    simp only [cond_false, killV]
    have h := hc t x
    cases hl : cellsOf t x with
    | nil => rfl
    | cons c cs => rw [hl] at h; simp only [List.map_cons, List.cons.injEq] at h; simp [h.1]
theorem BlkRel.kill {id : Id} {N : Nat} {μ μ' : Id → Option Value} {S : Nat → Prop} {w : World} (h : MuBut id N μ μ') {hv : Value} {b : Blk} (hr : BlkRel μ S w hv b) : BlkRel μ' S w hv (killB id N b) := by
  cases b with
  | box cs => obtain ⟨b, ty, arr, e, hw, ha⟩ := hr; exact ⟨b, ty, arr, e, hw, ha.kill h⟩
  | row e nilE t xs => exact hr
  | map kt vt es =>
    obtain ⟨r, en, cl, e, hw, es', hs, ha⟩ := hr
    exact ⟨r, en, cl, e, hw, es', hs, ha.mono fun p m ⟨h1, h2⟩ => ⟨h1, by have := h2.kill h; rwa [valOf_kill] at this⟩⟩
  | bld T bid =>
    obtain ⟨b, p, v, e, hw, hp, hm, hs⟩ := hr
    cases hb : Nat.beq bid id with
    | true =>
      rw [show killB id N (.bld T bid) = .box [.undef, .undef] by simp [killB, hb]]
      exact ⟨b, T, _, e, hw, by rcases hp with rfl | rfl <;> rfl, by obtain ⟨A, n, c, rfl⟩ := hs; rfl, trivial⟩
    | false =>
      rw [show killB id N (.bld T bid) = .bld T bid by simp [killB, hb]]
      exact ⟨b, p, v, e, hw, hp, h.other _ _ (Nat.ne_of_beq_eq_false hb) hm, hs⟩
  | buf e l => exact hr

/-! ### Changes of the world -/
theorem BlkRel.frame {μ : Id → Option Value} {S S' : Nat → Prop} {w w' : World} (h : ∀ b, S b → S' b ∧ w'.heap[b]? = w.heap[b]?) {hv : Value} (hb : ∀ k, blockOf hv = some k → w'.heap[k]? = w.heap[k]?) {b : Blk}
    (hr : BlkRel μ S w hv b) : BlkRel μ S' w' hv b := by
  cases b with
  | box cs => obtain ⟨b, ty, arr, e, hw, ha⟩ := hr; subst e; exact ⟨b, ty, arr, rfl, (hb b rfl).trans hw, ha.mono fun _ _ => CellRel.frame h⟩
  | row e nilE t xs =>
    obtain ⟨cells, ho, hc, hn⟩ := hr
    refine ⟨cells, ⟨ho.1, ?_⟩, hc.mono fun _ _ => Reads.frame h, hn⟩
    rcases ho.2 with ho | ⟨g, cap, cur, e1, e2, e3, e4⟩
    · exact .inl ho
    · subst e1; exact .inr ⟨g, cap, cur, rfl, e2, (hb g rfl).trans e3, e4⟩
  | map kt vt es => obtain ⟨r, en, cl, e, hw, es', hs, ha⟩ := hr; subst e; exact ⟨r, en, cl, rfl, (hb r rfl).trans hw, es', hs, ha.mono fun _ _ ⟨h1, h2⟩ => ⟨h1.frame h, h2.frame h⟩⟩
  | bld T bid => obtain ⟨b, p, v, e, hw, hp⟩ := hr; subst e; exact ⟨b, p, v, rfl, (hb b rfl).trans hw, hp⟩
  | buf e l =>
    obtain ⟨ho, hn⟩ := hr
    refine ⟨⟨ho.1, ?_⟩, hn⟩
    rcases ho.2 with ho | ⟨g, cap, cur, e1, e2, e3, e4⟩
    · exact .inl ho
    · subst e1; exact .inr ⟨g, cap, cur, rfl, e2, (hb g rfl).trans e3, e4⟩

section
variable {nt : Nat} {w0 : World} {O : Own} {μ : Id → Option Value} {S : Nat → Prop} {st : St} {a : Act} {w w' : World}

theorem upd_same {α : Type} (e : Nat → α) (d : Nat) (v : α) : upd e d v d = v := by simp [upd]
theorem upd_other {α : Type} (e : Nat → α) (d : Nat) (v : α) (x : Nat) (h : x ≠ d) : upd e d v x = e x := by
  unfold upd
  have : Nat.beq x d = false := by cases hb : Nat.beq x d with | false => rfl | true => exact absurd (Nat.eq_of_beq_eq_true hb) h
  rw [this]; rfl

/-- only block k (or none) of those that stood has been written -/
theorem Rel.s_frame (h : Rel nt w0 O μ S st a w) {row : Option Nat} (hg : w.grownBy w' row) {id : Id} {hv : Value} (hrow : ∀ k, row = some k → μ id = some hv ∧ blockOf hv = some k) :
    ∀ b, S b → S b ∧ w'.heap[b]? = w.heap[b]? := fun b hs => ⟨hs, by
  obtain ⟨hlt, hne⟩ := h.imm b hs
  refine hg.block b hlt fun e => ?_
  obtain ⟨hm, hb⟩ := hrow b e.symm
  exact hne id hv hm hb⟩

/-- a block that is held is written, its header stays -/
theorem Rel.tabs_frame (h : Rel nt w0 O μ S st a w) {row : Option Nat} (hg : w.grownBy w' row) {id : Id} {hv : Value} (hrow : ∀ k, row = some k → μ id = some hv ∧ blockOf hv = some k) :
    ∀ k o, O.tb k = some o → k < w.heap.size ∧ w'.heap[k]? = some o := fun k o ht => by
  have h1 := (h.tabs k o ht).1
  have hlt : k < w.heap.size := (Array.getElem?_eq_some_iff.1 h1).1
  refine ⟨hlt, (hg.block k hlt fun e => ?_).trans h1⟩
  obtain ⟨hm, hb⟩ := hrow k e.symm
  exact (h.tabs k o ht).2 id hv hm hb
theorem Rel.update (h : Rel nt w0 O μ S st a w) {id : Id} {b0 nb : Blk} {hv : Value} (hid : st.heap id = some b0) (hm : μ id = some hv) (hg : w.grownBy w' (blockOf hv)) (hnb : BlkRel μ S w' hv nb) :
    Rel nt w0 O μ S { st with heap := upd st.heap id (some nb) } a w' := by
  have hs := h.s_frame hg (id := id) (hv := hv) (fun k e => ⟨hm, e⟩)
  refine ⟨fun t => (h.env t).frame hs, h.size, h.defers, fun id' he => ?_, fun id' b he => ?_, h.sep, fun k hk => ?_, fun id' hv' k h1 h2 => ?_, hg.os.trans h.os, hg.tape.trans h.tape, hg.output.trans h.output, Nat.le_trans h.grow hg.size, fun k hk ho => ?_, h.sfrom, h.pars, fun id' v hk => ?_, fun k o hk => ⟨(h.tabs_frame hg (id := id) (hv := hv) (fun k e => ⟨hm, e⟩) k o hk).2, (h.tabs k o hk).2⟩, h.tq⟩
  · by_cases e : id' = id
    · subst e; simp [upd_same] at he
    · exact h.dom _ (by simpa [upd_other _ _ _ _ e] using he)
  · by_cases e : id' = id
    · subst e
      simp only [upd_same, Option.some.injEq] at he
      subst he
      exact ⟨hv, hm, hnb⟩
    · simp only [upd_other _ _ _ _ e] at he
      obtain ⟨hv', hm', hb'⟩ := h.blks id' b he
      exact ⟨hv', hm', hb'.frame hs fun k hk => hg.block k (h.own _ _ _ hm' hk).2 fun e2 => e (h.sep id' id hv' hv k hm' hm hk e2.symm)⟩
  · exact ⟨Nat.lt_of_lt_of_le (h.imm k hk).1 hg.size, (h.imm k hk).2⟩
  · exact ⟨(h.own _ _ _ h1 h2).1, Nat.lt_of_lt_of_le (h.own _ _ _ h1 h2).2 hg.size⟩
  · rw [hg.block k (Nat.lt_of_lt_of_le hk h.grow) fun e => ?_]
    · exact h.frame k hk ho
    · have := (h.own id hv k hm e.symm).1
      rcases this with h1 | h1
      · omega
      · exact ho h1
  · obtain ⟨k1, k2, k3⟩ := h.kept id' v hk
    refine ⟨k1, k2, ?_⟩
    by_cases e : id' = id
    · subst e; exact .inr (k3.resolve_left (by rw [hid]; simp))
    · simpa [upd_other _ _ _ _ e] using k3

theorem muLe_upd (μ : Id → Option Value) (id : Id) (hv : Value) (hn : μ id = none) : MuLe μ (upd μ id (some hv)) := by
  intro id' v e
  by_cases e2 : id' = id
  · subst e2; rw [hn] at e; cases e
  · rw [upd_other _ _ _ _ e2]; exact e

/-- a new block -/
theorem Rel.alloc (h : Rel nt w0 O μ S st a w) {id : Id} {nb : Blk} {hv : Value} (hidk : st.heap id = none ∧ ¬ KeptId id) (hg : w.grownBy w' none)
    (hnew : ∀ k, blockOf hv = some k → w.heap.size ≤ k ∧ k < w'.heap.size) (hnb : BlkRel μ S w' hv nb) :
    Rel nt w0 O (upd μ id (some hv)) S { st with heap := upd st.heap id (some nb) } a w' := by
  have hid := hidk.1
  have hkp := hidk.2
  have hs := h.s_frame hg (id := id) (hv := hv) (fun k e => by cases e)
  have hn := h.dom id hid
  have hle := muLe_upd μ id hv hn
  refine ⟨fun t => ((h.env t).frame hs).mu hle, h.size, h.defers, fun id' he => ?_, fun id' b he => ?_, fun id1 id2 v1 v2 k h1 h2 h3 h4 => ?_, fun k hk => ?_, fun id' hv' k h1 h2 => ?_, hg.os.trans h.os, hg.tape.trans h.tape, hg.output.trans h.output, Nat.le_trans h.grow hg.size, fun k hk ho => ?_, h.sfrom, h.pars, fun id' v hk => ?_, fun k o hk => ?_, h.tq⟩
  · by_cases e : id' = id
    · subst e; simp [upd_same] at he
    · simp only [upd_other _ _ _ _ e] at he ⊢; exact h.dom _ he
  · by_cases e : id' = id
    · subst e
      simp only [upd_same, Option.some.injEq] at he
      subst he
      exact ⟨hv, by simp [upd_same], hnb.mu hle⟩
    · simp only [upd_other _ _ _ _ e] at he ⊢
      obtain ⟨hv', hm', hb'⟩ := h.blks id' b he
      exact ⟨hv', hm', (hb'.frame hs fun k hk => hg.block k (h.own _ _ _ hm' hk).2 (by simp)).mu hle⟩
  · by_cases e1 : id1 = id <;> by_cases e2 : id2 = id
    · rw [e1, e2]
    · subst e1
      simp only [upd_same, Option.some.injEq, upd_other _ _ _ _ e2] at h1 h2
      subst h1
      have := (hnew k h3).1
      have := (h.own _ _ _ h2 h4).2
      omega
    · subst e2
      simp only [upd_same, Option.some.injEq, upd_other _ _ _ _ e1] at h1 h2
      subst h2
      have := (hnew k h4).1
      have := (h.own _ _ _ h1 h3).2
      omega
    · simp only [upd_other _ _ _ _ e1, upd_other _ _ _ _ e2] at h1 h2
      exact h.sep _ _ _ _ _ h1 h2 h3 h4
  · refine ⟨Nat.lt_of_lt_of_le (h.imm k hk).1 hg.size, fun id' hv' h1 h2 => ?_⟩
    by_cases e : id' = id
    · subst e
      simp only [upd_same, Option.some.injEq] at h1
      subst h1
      have := (hnew k h2).1
      have := (h.imm k hk).1
      omega
    · simp only [upd_other _ _ _ _ e] at h1
      exact (h.imm k hk).2 _ _ h1 h2
  · by_cases e : id' = id
    · subst e
      simp only [upd_same, Option.some.injEq] at h1
      subst h1
      exact ⟨.inl (Nat.le_trans h.grow (hnew k h2).1), (hnew k h2).2⟩
    · simp only [upd_other _ _ _ _ e] at h1
      exact ⟨(h.own _ _ _ h1 h2).1, Nat.lt_of_lt_of_le (h.own _ _ _ h1 h2).2 hg.size⟩
  · rw [hg.block k (Nat.lt_of_lt_of_le hk h.grow) (by simp)]
    exact h.frame k hk ho
  · obtain ⟨k1, k2, k3⟩ := h.kept id' v hk
    refine ⟨k1, k2, ?_⟩
    by_cases e : id' = id
    · subst e; exact absurd k1 hkp
    · simpa [upd_other _ _ _ _ e] using k3
  · obtain ⟨h1, h2⟩ := h.tabs_frame hg (id := id) (hv := hv) (fun k e => by cases e) k o hk
    refine ⟨h2, fun id' hv' g1 g2 => ?_⟩
    by_cases e : id' = id
    · subst e
      simp only [upd_same, Option.some.injEq] at g1
      subst g1
      have := (hnew k g2).1
      omega
    · simp only [upd_other _ _ _ _ e] at g1
      exact (h.tabs k o hk).2 _ _ g1 g2

/-- a row grows: its header may change, and what led to it is forgotten -/
theorem Rel.renew (h : Rel nt w0 O μ S st a w) {id : Id} {b0 nb : Blk} {hv hv' : Value} (hid : st.heap id = some b0) (hm : μ id = some hv) {N : Nat} (hfx : fixedB id = false) (hrow : ∃ A c, hv = .slice A N c) (hg : w.grownBy w' (blockOf hv))
    (hnew : ∀ k, blockOf hv' = some k → (blockOf hv = some k ∨ w.heap.size ≤ k) ∧ k < w'.heap.size) (hnb : BlkRel (upd μ id (some hv')) S w' hv' nb) :
    Rel nt w0 O (upd μ id (some hv')) S { st.kill id N with heap := upd (st.kill id N).heap id (some nb) } a w' := by
  have hs := h.s_frame hg (id := id) (hv := hv) (fun k e => ⟨hm, e⟩)
  have hbut : MuBut id N μ (upd μ id (some hv')) := ⟨by obtain ⟨A, c, e⟩ := hrow; exact ⟨A, c, by rw [hm, e]⟩, fun id' v hne e => by rw [upd_other _ _ _ _ hne]; exact e⟩
  refine ⟨fun t => ((h.env t).frame hs).kill hbut, h.size, h.defers, fun id' he => ?_, fun id' b he => ?_, fun id1 id2 v1 v2 k h1 h2 h3 h4 => ?_, fun k hk => ?_, fun id' hv2 k h1 h2 => ?_, hg.os.trans h.os, hg.tape.trans h.tape, hg.output.trans h.output, Nat.le_trans h.grow hg.size, fun k hk ho => ?_, h.sfrom, h.pars, fun id' v hk => ?_, fun k o hk => ?_, h.tq⟩
  · by_cases e : id' = id
    · subst e; simp [upd_same] at he
    · simp only [upd_other _ _ _ _ e, St.kill, killH] at he ⊢
      refine h.dom _ ?_
      cases hx : st.heap id' with
      | none => rfl
      | some b => rw [hx] at he; cases he
  · by_cases e : id' = id
    · subst e
      simp only [upd_same, Option.some.injEq] at he
      subst he
      exact ⟨hv', by simp [upd_same], hnb⟩
    · simp only [upd_other _ _ _ _ e, St.kill, killH] at he ⊢
      cases hx : st.heap id' with
      | none => rw [hx] at he; cases he
      | some b1 =>
        rw [hx] at he
        simp only [Option.some.injEq] at he
        subst he
        obtain ⟨hv2, hm', hb'⟩ := h.blks id' b1 hx
        exact ⟨hv2, hm', (hb'.frame hs fun k hk => hg.block k (h.own _ _ _ hm' hk).2 fun e2 => e (h.sep id' id hv2 hv k hm' hm hk e2.symm)).kill hbut⟩
  · have key : ∀ id2 v2, id2 ≠ id → μ id2 = some v2 → blockOf v2 = some k → blockOf hv' = some k → False := by
      intro id2 v2 hne hm2 hb2 hb'
      rcases (hnew k hb').1 with h5 | h5
      · exact hne (h.sep _ _ _ _ _ hm2 hm hb2 h5)
      · have := (h.own _ _ _ hm2 hb2).2
        omega
    by_cases e1 : id1 = id <;> by_cases e2 : id2 = id
    · rw [e1, e2]
    · subst e1
      simp only [upd_same, Option.some.injEq, upd_other _ _ _ _ e2] at h1 h2
      subst h1
      exact (key _ _ e2 h2 h4 h3).elim
    · subst e2
      simp only [upd_same, Option.some.injEq, upd_other _ _ _ _ e1] at h1 h2
      subst h2
      exact (key _ _ e1 h1 h3 h4).elim
    · simp only [upd_other _ _ _ _ e1, upd_other _ _ _ _ e2] at h1 h2
      exact h.sep _ _ _ _ _ h1 h2 h3 h4
  · refine ⟨Nat.lt_of_lt_of_le (h.imm k hk).1 hg.size, fun id' hv2 h1 h2 => ?_⟩
    by_cases e : id' = id
    · subst e
      simp only [upd_same, Option.some.injEq] at h1
      subst h1
      rcases (hnew k h2).1 with h5 | h5
      · exact (h.imm k hk).2 _ _ hm h5
      · have := (h.imm k hk).1
        omega
    · simp only [upd_other _ _ _ _ e] at h1
      exact (h.imm k hk).2 _ _ h1 h2
  · by_cases e : id' = id
    · subst e
      simp only [upd_same, Option.some.injEq] at h1
      subst h1
      refine ⟨?_, (hnew k h2).2⟩
      rcases (hnew k h2).1 with h5 | h5
      · exact (h.own _ _ _ hm h5).1
      · exact .inl (Nat.le_trans h.grow h5)
    · simp only [upd_other _ _ _ _ e] at h1
      exact ⟨(h.own _ _ _ h1 h2).1, Nat.lt_of_lt_of_le (h.own _ _ _ h1 h2).2 hg.size⟩
  · rw [hg.block k (Nat.lt_of_lt_of_le hk h.grow) fun e => ?_]
    · exact h.frame k hk ho
    · rcases (h.own id hv k hm e.symm).1 with h1 | h1
      · omega
      · exact ho h1
  · obtain ⟨k1, k2, k3⟩ := h.kept id' v hk
    refine ⟨k1, k2, ?_⟩
    by_cases e : id' = id
    · subst e
      have := k3.resolve_left (by rw [hid]; simp)
      obtain ⟨A, c, e2⟩ := hrow
      rw [hm] at this
      simp only [Option.some.injEq] at this
      subst this
      exact absurd e2 ((k2.resolve_left fun hf => by rw [fixedB_iff.2 hf] at hfx; cases hfx) A N c)
    · simp only [upd_other _ _ _ _ e, St.kill, killH]
      refine k3.imp_left fun hn => ?_
      rw [hn]
  · obtain ⟨h1, h2⟩ := h.tabs_frame hg (id := id) (hv := hv) (fun k e => ⟨hm, e⟩) k o hk
    refine ⟨h2, fun id' hv2 g1 g2 => ?_⟩
    by_cases e : id' = id
    · subst e
      simp only [upd_same, Option.some.injEq] at g1
      subst g1
      rcases (hnew k g2).1 with h5 | h5
      · exact (h.tabs k o hk).2 _ _ hm h5
      · omega
    · simp only [upd_other _ _ _ _ e] at g1
      exact (h.tabs k o hk).2 _ _ g1 g2

/-- a value is put into a temporary -/
theorem Rel.put (h : Rel nt w0 O μ S st a w) {dst : Option Nat} {v : AV} {u : Value} (hd : ∀ d, dst = some d → d < nt ∧ O.np ≤ d) (hv : AVRel μ S w v u) : Rel nt w0 O μ S (st.put dst v) (a.put dst u) w := by
  cases dst with
  | none => exact h
  | some d =>
    have hlt : d < a.tmps.size := by rw [h.size]; exact (hd d rfl).1
    refine ⟨fun t => ?_, by simp [Act.put, h.size], h.defers, h.dom, h.blks, h.sep, h.imm, h.own, h.os, h.tape, h.output, h.grow, h.frame, h.sfrom, fun i hi => ?_, h.kept, h.tabs, h.tq⟩
    rotate_left
    · have hne : d ≠ i := fun e => by have := (hd d rfl).2; omega
      simp only [Act.put]
      rw [Array.getElem?_setIfInBounds_ne hne]
      exact h.pars i hi
    by_cases e : t = d
    · subst e
      simp only [St.put, upd_same, Act.put]
      rw [Array.getD_eq_getD_getElem?, Array.getElem?_setIfInBounds_self_of_lt hlt]
      exact hv
    · simp only [St.put, upd_other _ _ _ _ e, Act.put]
      rw [Array.getD_eq_getD_getElem?, Array.getElem?_setIfInBounds_ne (Ne.symm e), ← Array.getD_eq_getD_getElem?]
      exact h.env t
/-- the world has drawn -/
theorem Rel.drew (h : Rel nt w0 O μ S st a w) : Rel nt w0 O μ S st a { w with drawn := w.drawn + 1 } :=
  have hs : ∀ b, S b → S b ∧ ({ w with drawn := w.drawn + 1 } : World).heap[b]? = w.heap[b]? := fun b hb => ⟨hb, rfl⟩
  ⟨fun t => (h.env t).frame hs, h.size, h.defers, h.dom, fun id b he => by obtain ⟨hv, h1, h2⟩ := h.blks id b he; exact ⟨hv, h1, h2.frame hs fun _ _ => rfl⟩, h.sep, h.imm, h.own, h.os, h.tape, h.output, h.grow, h.frame, h.sfrom, h.pars, h.kept, h.tabs, h.tq⟩

/-! ### Freezing -/
/-- what a row's block holds, read as data -/
theorem row_reads {e : TypeId} {t : Ty} {xs : List t.den} {hv : Value} {cells : List Value} (ho : w.ownsRow 0 e t.sz hv xs.length cells) (hc : RowCells (Reads S w t) xs cells) :
    (hv = .slice none 0 0 ∧ xs = []) ∨ ∃ b cap, hv = .slice (some ⟨b, 0, none⟩) xs.length cap ∧ xs.length ≤ cap ∧ b < w.heap.size ∧ CellsAt w b 0 cells := by
  rcases ho.2 with ⟨e1, e2⟩ | ⟨g, cap, cur, e1, _, hw, hn, _, hs, ht⟩
  · exact .inl ⟨e1, List.eq_nil_of_length_eq_zero e2⟩
  · refine .inr ⟨g, cap, e1, hn, (Array.getElem?_eq_some_iff.1 hw).1, fun j v hj => ?_⟩
    rw [cell_of_row w g _ cur e (0, 0) hw, Nat.zero_add, ← Array.getElem?_toList]
    rw [← ht, List.getElem?_take] at hj
    split at hj
    · exact hj
    · cases hj

theorem CellRel.freeze {id : Id} {e : TypeId} {t : Ty} {xs : List t.den} {hv : Value} {cells : List Value} (hm : μ id = some hv) (ho : w.ownsRow 0 e t.sz hv xs.length cells) (hc : RowCells (Reads S w t) xs cells)
    {c : Cell} {v : Value} (hr : CellRel μ S w c v) : CellRel (upd μ id none) (fun k => S k ∨ blockOf hv = some k) w (freezeC id t xs c) v := by
  have hone := hr.oneCell
  have hsub : ∀ b, S b → (S b ∨ blockOf hv = some b) ∧ w.heap[b]? = w.heap[b]? := fun b hs => ⟨.inl hs, rfl⟩
  have hc' : RowCells (Reads (fun k => S k ∨ blockOf hv = some k) w t) xs cells := hc.mono fun x c hx => hx.frame hsub
  have hsz : ∀ (x : t.den) (c : List Value), Reads (fun k => S k ∨ blockOf hv = some k) w t x c → c.length = t.sz := fun x c => Reads.length
  have hrow := row_reads ho hc
  have hnp : ∀ id' b, μ id' = some (.pointer (some ⟨b, 0, none⟩)) → id' ≠ id := by
    rintro id' b e2 rfl
    rw [hm] at e2
    simp only [Option.some.injEq] at e2
    subst e2
    rcases hrow with ⟨e3, _⟩ | ⟨_, _, e3, _⟩ <;> cases e3
  have keep : ∀ id' v, id' ≠ id → μ id' = some v → upd μ id none id' = some v := fun id' v hne e2 => by rw [upd_other _ _ _ _ hne]; exact e2
  cases c with
  | d t' x => exact Reads.frame hsub hr
  | cptr t' x off => exact CellRel.frame hsub (c := .cptr t' x off) hr |> fun ⟨b, o, cs, h1, h2, h3, h4⟩ => ⟨b, o, cs, h1, h2, h3, h4⟩
  | clip t' x => obtain ⟨A, e2, hx⟩ := hr; exact ⟨A, e2, hx.frame hsub⟩
  | ptr id' off => obtain ⟨b, e2, hv2⟩ := hr; exact ⟨b, keep _ _ (hnp _ _ e2) e2, hv2⟩
  | row id' =>
    cases hb : Nat.beq id' id with
    | false =>
      rw [show freezeC id t xs (.row id') = .row id' by simp [freezeC, hb]]
      exact ⟨keep _ _ (Nat.ne_of_beq_eq_false hb) hr.1, hr.2⟩
    | true =>
      rw [show freezeC id t xs (.row id') = .d (.sl t) xs by simp [freezeC, hb]]
      have := Nat.eq_of_beq_eq_true hb
      subst this
      have e2 := hr.1
      rw [hm] at e2
      simp only [Option.some.injEq] at e2
      subst e2
      rcases hrow with ⟨e3, e4⟩ | ⟨b, cap, e3, hcap, hlt, hat⟩
      · subst e3 e4
        exact ⟨none, 0, rfl, Nat.le_refl _, fun hn => absurd rfl hn⟩
      · subst e3
        exact ⟨_, cap, rfl, hcap, fun _ => ⟨b, 0, cells, rfl, .inr rfl, hc', hat⟩⟩
  | win id' lo n sz =>
    cases hb : Nat.beq id' id with
    | false =>
      rw [show freezeC id t xs (.win id' lo n sz) = .win id' lo n sz by simp [freezeC, hb]]
      have hne := Nat.ne_of_beq_eq_false hb
      obtain ⟨A, c, N, cap, e1, e2, e3, e4⟩ := hr
      refine ⟨A, c, N, cap, e1, e2, e3, ?_⟩
      rcases e4 with ⟨e, e'⟩ | ⟨b, e, e'⟩
      · exact .inl ⟨keep _ _ hne e, e'⟩
      · exact .inr ⟨b, keep _ _ hne e, e'⟩
    | true =>
      cases hz : Nat.beq sz t.sz with
      | false =>
        rw [show freezeC id t xs (.win id' lo n sz) = .undef by simp [freezeC, hb, hz]]
        exact hone
      | true =>
        rw [show freezeC id t xs (.win id' lo n sz) = .d (.sl t) ((xs.drop lo).take n) by simp [freezeC, hb, hz]]
        have := Nat.eq_of_beq_eq_true hb
        subst this
        have := Nat.eq_of_beq_eq_true hz
        subst this
        obtain ⟨A, c, N, cap, e1, e2, e3, e4⟩ := hr
        subst e1
        rcases e4 with ⟨e, h0, hA, _⟩ | ⟨b, e, hA, _⟩
        · rw [hm] at e
          simp only [Option.some.injEq] at e
          subst e
          have hn0 : n = 0 := by omega
          subst hn0
          exact ⟨A, c, by simp, by simp, fun hn => by simp at hn⟩
        · rw [hm] at e
          simp only [Option.some.injEq] at e
          subst e
          rcases hrow with ⟨e3', _⟩ | ⟨b', cap', e3', hcap, hlt, hat⟩
          · cases e3'
          · simp only [Value.slice.injEq, Option.some.injEq, Addr.mk.injEq, and_true] at e3'
            obtain ⟨rfl, rfl, rfl⟩ := e3'
            have hl : ((xs.drop lo).take n).length = n := by simp; omega
            refine ⟨A, c, by rw [hl], by rw [hl]; exact e2, fun hn => ?_⟩
            have hpos : 0 < n := by
              rcases Nat.eq_zero_or_pos n with h0 | h0
              · subst h0; exact absurd (by simp) hn
              · exact h0
            refine ⟨b, lo * t.sz, (cells.drop (lo * t.sz)).take (n * t.sz), hA hpos, .inr rfl, (hc'.drop t.sz hsz lo).take t.sz hsz n, fun j u hj => ?_⟩
            rw [List.getElem?_take] at hj
            split at hj
            · rw [List.getElem?_drop] at hj
              have := hat _ u hj
              simpa using this
            · cases hj
  | eptr id' i off sz =>
    cases hb : Nat.beq id' id with
    | false =>
      rw [show freezeC id t xs (.eptr id' i off sz) = .eptr id' i off sz by simp [freezeC, hb]]
      obtain ⟨b, N, cap, e2, hr⟩ := hr
      exact ⟨b, N, cap, keep _ _ (Nat.ne_of_beq_eq_false hb) e2, hr⟩
    | true =>
      cases hz : Nat.beq sz t.sz with
      | false =>
        rw [show freezeC id t xs (.eptr id' i off sz) = .undef by simp [freezeC, hb, hz]]
        exact hone
      | true =>
        rw [show freezeC id t xs (.eptr id' i off sz) = .cptr t (xs.getD i t.dflt) off by simp [freezeC, hb, hz]]
        have := Nat.eq_of_beq_eq_true hb
        subst this
        have := Nat.eq_of_beq_eq_true hz
        subst this
        obtain ⟨b, N, cap, e2, hi, hv2⟩ := hr
        rw [hm] at e2
        simp only [Option.some.injEq] at e2
        subst e2
        rcases hrow with ⟨e3, _⟩ | ⟨b', cap', e3, hcap, hlt, hat⟩
        · cases e3
        · simp only [Value.slice.injEq, Option.some.injEq, Addr.mk.injEq, and_true] at e3
          obtain ⟨rfl, rfl, rfl⟩ := e3
          refine ⟨b, i * t.sz, (cells.drop (i * t.sz)).take t.sz, hv2, .inr rfl, hc'.get t.sz hsz i t.dflt hi, fun j u hj => ?_⟩
          rw [List.getElem?_take] at hj
          split at hj
          · rw [List.getElem?_drop] at hj
            have := hat _ u hj
            simpa using this
          · cases hj
  | map id' =>
    obtain ⟨e2, q, hv2⟩ := hr
    subst hv2
    refine ⟨keep _ _ ?_ e2, q, rfl⟩
    rintro rfl
    rw [hm] at e2
    simp only [Option.some.injEq] at e2
    subst e2
    rcases hrow with ⟨e3, _⟩ | ⟨_, _, e3, _⟩ <;> cases e3
  | fn f caps =>
    obtain ⟨vs, e2, hr⟩ := hr
    exact ⟨vs, e2, hr.mono fun p u ⟨b, e3, hu⟩ => ⟨b, keep _ _ (hnp _ _ e3) e3, hu⟩⟩
  | _ => exact hr

theorem All2.map_left {α β : Type} {R R' : α → β → Prop} {f : α → α} (h : ∀ x y, R x y → R' (f x) y) : ∀ {xs : List α} {ys : List β}, All2 R xs ys → All2 R' (xs.map f) ys
  | [], [], _ => trivial
  | _ :: _, _ :: _, ⟨a, b⟩ => ⟨h _ _ a, All2.map_left h b⟩
  | [], _ :: _, h => h.elim
  | _ :: _, [], h => h.elim

theorem freezeV_known {id : Id} {t : Ty} {xs : List t.den} {c : V1} (h : (freezeV id t xs c).known = true) : c.known = true := by
  cases c with
  | c x => cases x <;> first | rfl | (simp [freezeV, freezeC, V1.known] at h)
  | agg cs => rfl
theorem freezeV_valOf (id : Id) (t : Ty) (xs : List t.den) (t' : Ty) (x : t'.den) : freezeV id t xs (valOf t' x) = valOf t' x := by
  have hc : ∀ (t' : Ty) (x : t'.den), (cellsOf t' x).map (freezeC id t xs) = cellsOf t' x := by
    intro t'
    induction t' with
    | last t ih => intro x; exact ih x
    | prod a b iha ihb => intro x; simp only [cellsOf, List.map_append]; rw [iha, ihb]
    | _ => intro x; rfl
  unfold valOf
  cases t'.isAgg with
  | true => simp [freezeV, hc]
  | false =>
    simp only [cond_false, freezeV]
    have h := hc t' x
    cases hl : cellsOf t' x with
    | nil => rfl
    | cons c cs => rw [hl] at h; simp only [List.map_cons, List.cons.injEq] at h; simp [h.1]

theorem Rel.freeze (h : Rel nt w0 O μ S st a w) {id : Id} {e : TypeId} {ne : Bool} {t : Ty} {xs : List t.den} (hid : st.heap id = some (.row e ne t xs)) :
    ∃ S', (∀ k, S k → S' k) ∧ Rel nt w0 O (upd μ id none) S' (st.freeze id t xs) a w := by
  obtain ⟨hv, hm, cells, ho, hc, _⟩ := h.blks _ _ hid
  have hcell : ∀ c v, CellRel μ S w c v → CellRel (upd μ id none) (fun k => S k ∨ blockOf hv = some k) w (freezeC id t xs c) v := fun c v hr => hr.freeze hm ho hc
  have hv1 : ∀ c v, V1Rel μ S w c v → V1Rel (upd μ id none) (fun k => S k ∨ blockOf hv = some k) w (freezeV id t xs c) v := by
    intro c v hr
    cases c with
    | c x => exact hcell _ _ hr
    | agg cs => obtain ⟨arr, e2, ha⟩ := hr; exact ⟨arr, e2, ha.map_left hcell⟩
  have hsub : ∀ b, S b → (S b ∨ blockOf hv = some b) ∧ w.heap[b]? = w.heap[b]? := fun b hs => ⟨.inl hs, rfl⟩
  refine ⟨fun k => S k ∨ blockOf hv = some k, fun k => .inl, fun x => ?_, h.size, h.defers, fun id' he => ?_, fun id' b he => ?_, fun id1 id2 v1 v2 k h1 h2 h3 h4 => ?_, fun k hk => ?_, fun id' v' k h1 h2 => ?_, h.os, h.tape, h.output, h.grow, h.frame, fun k hk => hk.elim (h.sfrom k) fun e => .inr (h.own _ _ _ hm e).1, h.pars, fun id' v hk => ?_, fun k o hk => ⟨(h.tabs k o hk).1, fun id' v' g1 g2 => ?_⟩, h.tq⟩
  · have hx := h.env x
    show AVRel _ _ w (freezeA id t xs (st.env x)) _
    cases hav : st.env x with
    | one v => rw [hav] at hx; exact fun hk => hv1 _ _ (hx (freezeV_known hk))
    | tup vs => rw [hav] at hx; obtain ⟨arr, e2, ha⟩ := hx; exact ⟨arr, e2, ha.map_left hv1⟩
  · by_cases e2 : id' = id
    · subst e2; exact upd_same _ _ _
    · rw [upd_other _ _ _ _ e2]
      refine h.dom _ ?_
      have hb : Nat.beq id' id = false := by cases hb : Nat.beq id' id with | false => rfl | true => exact absurd (Nat.eq_of_beq_eq_true hb) e2
      simp only [St.freeze, hb, cond_false] at he
      cases hx : st.heap id' with
      | none => rfl
      | some b => rw [hx] at he; cases he
  · by_cases e2 : id' = id
    · subst e2
      simp only [St.freeze, Nat.beq_refl, cond_true] at he
      cases he
    · have hb : Nat.beq id' id = false := by cases hb : Nat.beq id' id with | false => rfl | true => exact absurd (Nat.eq_of_beq_eq_true hb) e2
      simp only [St.freeze, hb, cond_false] at he
      cases hx : st.heap id' with
      | none => rw [hx] at he; cases he
      | some b1 =>
        rw [hx] at he
        simp only [Option.some.injEq] at he
        subst he
        obtain ⟨hv2, hm2, hb2⟩ := h.blks id' b1 hx
        refine ⟨hv2, by rw [upd_other _ _ _ _ e2]; exact hm2, ?_⟩
        cases b1 with
        | box cs => obtain ⟨b, ty, arr, e3, hw, ha⟩ := hb2; exact ⟨b, ty, arr, e3, hw, ha.map_left hcell⟩
        | row e' ne' t' xs' => obtain ⟨cs, h1, h2, h3⟩ := hb2; exact ⟨cs, h1, h2.mono fun _ _ hx => hx.frame hsub, h3⟩
        | map kt vt es =>
          obtain ⟨q, en, cl, e3, hw, es', hs, ha⟩ := hb2
          exact ⟨q, en, cl, e3, hw, es', hs, ha.mono fun p m ⟨h1, h2⟩ => ⟨h1.frame hsub, by have := hv1 _ _ h2; rwa [freezeV_valOf] at this⟩⟩
        | bld T bid =>
          obtain ⟨b, p, v, e3, hw, hp, hmb, hs⟩ := hb2
          cases hbb : Nat.beq bid id with
          | true =>
            rw [show freezeB id t xs (.bld T bid) = .box [.undef, .undef] by simp [freezeB, hbb]]
            exact ⟨b, T, _, e3, hw, by rcases hp with rfl | rfl <;> rfl, by obtain ⟨A, n, c, rfl⟩ := hs; rfl, trivial⟩
          | false =>
            rw [show freezeB id t xs (.bld T bid) = .bld T bid by simp [freezeB, hbb]]
            exact ⟨b, p, v, e3, hw, hp, by rw [upd_other _ _ _ _ (Nat.ne_of_beq_eq_false hbb)]; exact hmb, hs⟩
        | buf e l => exact hb2
  · have ne1 : id1 ≠ id := by rintro rfl; rw [upd_same] at h1; cases h1
    have ne2 : id2 ≠ id := by rintro rfl; rw [upd_same] at h2; cases h2
    rw [upd_other _ _ _ _ ne1] at h1
    rw [upd_other _ _ _ _ ne2] at h2
    exact h.sep _ _ _ _ _ h1 h2 h3 h4
  · refine ⟨?_, fun id' v' h1 h2 => ?_⟩
    · rcases hk with hk | hk
      · exact (h.imm k hk).1
      · exact (h.own _ _ _ hm hk).2
    · have ne1 : id' ≠ id := by rintro rfl; rw [upd_same] at h1; cases h1
      rw [upd_other _ _ _ _ ne1] at h1
      rcases hk with hk | hk
      · exact (h.imm k hk).2 _ _ h1 h2
      · exact ne1 (h.sep _ _ _ _ _ h1 hm h2 hk)
  · have ne1 : id' ≠ id := by rintro rfl; rw [upd_same] at h1; cases h1
    rw [upd_other _ _ _ _ ne1] at h1
    exact h.own _ _ _ h1 h2
  · obtain ⟨k1, k2, k3⟩ := h.kept id' v hk
    refine ⟨k1, k2, ?_⟩
    by_cases e2 : id' = id
    · subst e2; left; simp only [St.freeze, Nat.beq_refl, cond_true]
    · have hb : Nat.beq id' id = false := by cases hb : Nat.beq id' id with | false => rfl | true => exact absurd (Nat.eq_of_beq_eq_true hb) e2
      simp only [St.freeze, hb, cond_false, upd_other _ _ _ _ e2]
      refine k3.imp_left fun hn => ?_
      rw [hn]
  · have ne1 : id' ≠ id := by rintro rfl; rw [upd_same] at g1; cases g1
    rw [upd_other _ _ _ _ ne1] at g1
    exact (h.tabs k o hk).2 _ _ g1 g2

theorem Rel.frz {get : St → Option (List Cell)} : ∀ {n : Nat} {μ : Id → Option Value} {S : Nat → Prop} {st : St}, Rel nt w0 O μ S st a w → ∃ μ' S', (∀ k, S k → S' k) ∧ Rel nt w0 O μ' S' (frz n st get) a w
  | 0, μ, S, st, h => ⟨μ, S, fun _ => id, h⟩
  | n + 1, μ, S, st, h => by
    unfold Go.Proofs.YtjjepjfjikefiaaB.frz
    split
    · split
      · split
        · rename_i id _ e ne t xs hid
          obtain ⟨S', hs, h'⟩ := h.freeze hid
          obtain ⟨μ2, S2, hs2, h2⟩ := Rel.frz (get := get) (n := n) h'
          exact ⟨μ2, S2, fun k hk => hs2 k (hs k hk), h2⟩
        · exact ⟨μ, S, fun _ => _root_.id, h⟩
      · exact ⟨μ, S, fun _ => _root_.id, h⟩
    · exact ⟨μ, S, fun _ => _root_.id, h⟩
end
end Go.Proofs.YtjjepjfjikefiaaB
