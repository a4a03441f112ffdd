/- The core, part 17: making ready for a template; cuts. -/
import Derived.Test.YtjjepjfjikefiaaB16
set_option linter.unusedVariables false
namespace Go.Proofs.YtjjepjfjikefiaaB
open Go

section
variable {R : Type} {P : Program} {nt : Nat} {w0 : World} {O : Own} {μ : Id → Option Value} {S : Nat → Prop} {st : St} {a : Act} {w : World} {r : R}

theorem grown_refl (w : World) (row : Option Nat) : w.grownBy w row := ⟨rfl, rfl, rfl, Nat.le_refl _, fun _ _ _ => rfl⟩

theorem All2.set {α β : Type} {R : α → β → Prop} : ∀ {xs : List α} {ys : List β} (j : Nat) (x : α), All2 R xs ys → (∀ y, ys[j]? = some y → R x y) → All2 R (xs.set j x) ys
  | [], [], _, _, h, _ => by simp [All2]
  | _ :: _, y :: _, 0, x, ⟨_, hr⟩, h => ⟨h y (by simp), hr⟩
  | _ :: _, _ :: _, j + 1, x, ⟨h1, hr⟩, h => ⟨h1, All2.set j x hr fun y hy => h y (by simpa using hy)⟩
  | [], _ :: _, _, _, h, _ => h.elim
  | _ :: _, [], _, _, h, _ => h.elim

/-- one cell is told in other words -/
theorem Rel.setL (h : Rel nt w0 O μ S st a w) {l : Loc} {cs : List Cell} {j : Nat} {c0 c : Cell} (hl : getL st l = some cs) (hj : cs[j]? = some c0) (hk : (V1.c c0).known = true) (hc : ∀ v, CellRel μ S w c0 v → CellRel μ S w c v) :
    Rel nt w0 O μ S (setL st l j c) a w := by
  cases l with
  | tmp t =>
    unfold getL at hl
    unfold Go.Proofs.YtjjepjfjikefiaaB.setL
    simp only at hl ⊢
    split at hl
    · rename_i v hv
      simp only [Option.some.injEq] at hl
      subst hl

      have h0 := h.env t
      rw [hv] at h0
      refine h.known (t := t) (v := .one (setCell v j c)) ?_
      cases v with
      | c x =>
        simp only [V1.cells] at hj
        cases j with
        | zero => simp only [List.getElem?_cons_zero, Option.some.injEq] at hj; subst hj; exact fun _ => hc _ (h0 hk)
        | succ j => simp at hj
      | agg cs =>
        obtain ⟨arr, e, hall⟩ := h0 rfl
        refine fun _ => ⟨arr, e, hall.set j c fun y hy => hc y ?_⟩
        obtain ⟨y', hy', hr⟩ := hall.get hj
        rw [hy] at hy'
        cases hy'
        exact hr
    · cases hl
  | box id =>
    unfold getL at hl
    unfold Go.Proofs.YtjjepjfjikefiaaB.setL
    simp only at hl ⊢
    split at hl
    · rename_i cs' hb
      simp only [Option.some.injEq] at hl
      subst hl

      obtain ⟨hv, hm, b, ty, arr, e1, e2, hall⟩ := h.blks _ _ hb
      refine h.update hb hm (grown_refl w _) (nb := .box (cs'.set j c)) ⟨b, ty, arr, e1, e2, hall.set j c fun y hy => hc y ?_⟩
      obtain ⟨y', hy', hr⟩ := hall.get hj
      rw [hy] at hy'
      cases hy'
      exact hr
    · cases hl

theorem Rel.promote (h : Rel nt w0 O μ S st a w) {id : Id} (hid : st.heap id = none ∧ ¬ KeptId id) (e : TypeId) (t : Ty) :
    Rel nt w0 O (upd μ id (some (.slice none 0 0))) S { st with heap := upd st.heap id (some (.row e true t [])) } a w :=
  h.alloc hid (grown_refl w none) (fun k hk => by simp [blockOf] at hk) ⟨[], World.ownsRow_nil w 0 e t.sz, rfl, fun _ _ => rfl⟩

/-- a row goes on as its first n, and the window on them is the row -/
theorem Rel.trunc (h : Rel nt w0 O μ S st a w) {id n sz : Nat} {e : TypeId} {ne : Bool} {ty : Ty} {xs : List ty.den} (hid : st.heap id = some (.row e ne ty xs)) (hsz : sz = ty.sz) (hfx : fixedB id = false) {l : Loc} {cs : List Cell} {j : Nat} (hl : getL st l = some cs)
    (hj : cs[j]? = some (.win id 0 n sz)) : ∃ μ', Rel nt w0 O μ' S (Go.Proofs.YtjjepjfjikefiaaB.setL (st.trunc id e ty xs n) l j (.row id)) a w := by
  subst hsz
  obtain ⟨hv, hm, cells, hown, hrc, hne⟩ := h.blks _ _ hid
  have main : ∀ v, CellRel μ S w (.win id 0 n ty.sz) v → Rel nt w0 O (upd μ id (some v)) S (st.trunc id e ty xs n) a w := by
    rintro v ⟨A, c, N, cap, e1, e2, e3, e4⟩
    rcases e4 with ⟨g1, g2, g3, g4⟩ | ⟨b, g1, g2, g3⟩
    · rw [hm] at g1
      simp only [Option.some.injEq] at g1
      have hn : n = 0 := by omega
      subst hn g3 g4 e1
      have hx : xs = [] := by
        rcases hown.2 with ⟨_, q⟩ | ⟨_, _, _, q, _⟩
        · exact List.eq_nil_of_length_eq_zero q
        · rw [g1] at q; cases q
      subst hx
      refine h.renew hid hm (N := 0) hfx ⟨none, 0, g1⟩ (grown_refl w _) (fun k hk => by simp [blockOf] at hk) (nb := .row e false ty ([] : List ty.den)) ⟨[], World.ownsRow_nil w 0 e ty.sz, rfl, fun _ _ => rfl⟩
    · rw [hm] at g1
      simp only [Option.some.injEq] at g1
      obtain ⟨rfl, rfl⟩ := g3 rfl
      subst e1
      rcases hown.2 with ⟨q, _⟩ | ⟨g, cap2, cur, q, hb0, hw, hnc, hcm, hcs, htk⟩
      · rw [g1] at q; cases q
      · rw [g1] at q
        simp only [Value.slice.injEq, Option.some.injEq, Addr.mk.injEq, and_true] at q
        obtain ⟨rfl, rfl, rfl⟩ := q
        have hlen : (xs.take n).length = n := by rw [List.length_take]; omega
        have hcl := hown.1
        have hle : n * ty.sz ≤ xs.length * ty.sz := Nat.mul_le_mul_right _ (by omega)
        refine h.renew hid hm (N := xs.length) hfx ⟨_, _, g1⟩ (grown_refl w _) (fun k hk => ?_) (nb := .row e false ty (xs.take n)) ⟨cells.take (n * ty.sz), ⟨by rw [hlen, List.length_take]; omega, .inr ⟨b, c, cur, by rw [hlen], hb0, hw, by omega, hcm, hcs, ?_⟩⟩, hrc.take ty.sz (fun x c => Reads.length) n, fun hf => by cases hf⟩
        · simp only [blockOf, Option.some.injEq] at hk
          subst hk
          exact ⟨.inl (by rw [g1]; rfl), (Array.getElem?_eq_some_iff.1 hw).1⟩
        · rw [hlen, ← htk, List.take_take, Nat.min_eq_left hle]
  have rowrel : ∀ v, CellRel μ S w (.win id 0 n ty.sz) v → CellRel (upd μ id (some v)) S w (.row id) v := by
    rintro v ⟨A, c, N, cap, e1, _⟩
    exact ⟨upd_same _ _ _, A, n, c, e1⟩
  cases l with
  | tmp t =>
    unfold getL at hl
    simp only at hl
    split at hl
    · rename_i vv hvv
      simp only [Option.some.injEq] at hl
      subst hl
      have h0 := h.env t
      rw [hvv] at h0
      have eenv : (st.trunc id e ty xs n).env t = .one (killV id xs.length vv) := by
        show killA id xs.length (st.env t) = _
        rw [hvv]; rfl
      cases vv with
      | c x =>
        simp only [V1.cells] at hj
        cases j with
        | succ j => simp at hj
        | zero =>
          simp only [List.getElem?_cons_zero, Option.some.injEq] at hj
          subst hj
          have hv0 := h0 rfl
          refine ⟨upd μ id (some (a.tmps.getD t undef)), ?_⟩
          have h1 := main _ hv0
          unfold Go.Proofs.YtjjepjfjikefiaaB.setL
          simp only [eenv]
          exact h1.known (t := t) (v := .one (.c (.row id))) fun _ => rowrel _ hv0
      | agg cs =>
        obtain ⟨arr, e9, hall⟩ := h0 rfl
        obtain ⟨y, hy, hr⟩ := hall.get hj
        refine ⟨upd μ id (some y), ?_⟩
        have h1 := main _ hr
        have h2 := h1.env t
        rw [eenv] at h2
        obtain ⟨arr2, e10, hall2⟩ := h2 rfl
        unfold Go.Proofs.YtjjepjfjikefiaaB.setL
        simp only [eenv]
        refine h1.known (t := t) (v := .one (.agg ((cs.map (killC id xs.length)).set j (.row id)))) fun _ => ⟨arr2, e10, hall2.set j _ fun y' hy' => ?_⟩
        rw [e9] at e10
        cases e10
        rw [hy] at hy'
        cases hy'
        exact rowrel _ hr
    · cases hl
  | box id2 =>
    unfold getL at hl
    simp only at hl
    split at hl
    · rename_i cs' hb
      simp only [Option.some.injEq] at hl
      subst hl
      obtain ⟨hv2, hm2, b, ty2, arr, e1, e2, hall⟩ := h.blks _ _ hb
      obtain ⟨y, hy, hr⟩ := hall.get hj
      have hne2 : id2 ≠ id := by rintro rfl; rw [hid] at hb; cases hb
      refine ⟨upd μ id (some y), ?_⟩
      have h1 := main _ hr
      have eheap : (st.trunc id e ty xs n).heap id2 = some (.box (cs'.map (killC id xs.length))) := by
        show upd (killH id xs.length st.heap) id _ id2 = _
        rw [upd_other _ _ _ _ hne2]
        unfold killH
        rw [hb]; rfl
      obtain ⟨hv3, hm3, b3, ty3, arr3, e4, e5, hall3⟩ := h1.blks _ _ eheap
      have hm4 : upd μ id (some y) id2 = some hv2 := by rw [upd_other _ _ _ _ hne2]; exact hm2
      rw [hm4] at hm3
      simp only [Option.some.injEq] at hm3
      subst hm3
      rw [e1] at e4
      simp only [Value.pointer.injEq, Option.some.injEq, Addr.mk.injEq, and_true] at e4
      subst e4
      rw [e2] at e5
      simp only [Option.some.injEq, Obj.cells.injEq] at e5
      obtain ⟨rfl, rfl, _⟩ := e5
      unfold Go.Proofs.YtjjepjfjikefiaaB.setL
      simp only [eheap]
      refine h1.update eheap hm4 (grown_refl w _) (nb := .box ((cs'.map (killC id xs.length)).set j (.row id))) ⟨b, _, _, e1, e2, hall3.set j _ fun y' hy' => ?_⟩
      rw [hy] at hy'
      cases hy'
      exact rowrel _ hr
    · cases hl

theorem prepC_ok {p : List (Id × BS)} {loc : Loc} : ∀ {l : List CS} {j : Nat} {m : IdMap} {μ : Id → Option Value} {S : Nat → Prop} {st : St}, Rel nt w0 O μ S st a w →
    ∃ μ' S', (∀ k, S k → S' k) ∧ Rel nt w0 O μ' S' (prepC p loc l j m st).2 a w
  | [], _, _, μ, S, st, h => ⟨μ, S, fun _ => id, h⟩
  | .d t :: l, j, m, μ, S, st, h => by
    obtain ⟨μ1, S1, hs1, h1⟩ := h.frz (n := 8) (get := fun st => (getL st loc).map fun cs => (cs.drop j).take t.sz)
    obtain ⟨μ2, S2, hs2, h2⟩ := prepC_ok (l := l) (j := j + t.sz) (m := m) h1
    exact ⟨μ2, S2, fun k hk => hs2 k (hs1 k hk), h2⟩
  | .any :: l, j, m, μ, S, st, h => prepC_ok (l := l) h
  | .nilp :: l, j, m, μ, S, st, h => prepC_ok (l := l) h
  | .nilS :: l, j, m, μ, S, st, h => prepC_ok (l := l) h
  | .nilfn :: l, j, m, μ, S, st, h => prepC_ok (l := l) h
  | .nilif :: l, j, m, μ, S, st, h => prepC_ok (l := l) h
  | .err :: l, j, m, μ, S, st, h => prepC_ok (l := l) h
  | .clip _ :: l, j, m, μ, S, st, h => prepC_ok (l := l) h
  | .ptr t _ :: l, j, m, μ, S, st, h => by
    unfold prepC
    split
    · exact prepC_ok h
    · exact ⟨μ, S, fun _ => id, h⟩
  | .map t :: l, j, m, μ, S, st, h => by
    unfold prepC
    split
    · exact prepC_ok h
    · exact ⟨μ, S, fun _ => id, h⟩
  | .fn f caps :: l, j, m, μ, S, st, h => by
    unfold prepC
    split
    · exact prepC_ok h
    · exact ⟨μ, S, fun _ => id, h⟩
  | .row t :: l, j, m, μ, S, st, h => by
    unfold prepC
    split
    · exact prepC_ok h
    · rename_i hnil
      split
      · rename_i e ty _ hfree
        have h1 := h.promote ⟨hfree, fun hk => by have := hk.2; omega⟩ e ty
        obtain ⟨cs, hcs, hj⟩ := Option.bind_eq_some_iff.1 hnil
        refine prepC_ok (h1.setL (cs := cs) (j := j) (c0 := .nilS) ?_ hj rfl fun v hv => ?_)
        · cases loc with
          | tmp t' => exact hcs
          | box id =>
            simp only [getL] at hcs ⊢
            by_cases e : id = t + 7000000
            · subst e; rw [hfree] at hcs; cases hcs
            · rw [upd_other _ _ _ _ e]; exact hcs
        · exact ⟨by rw [upd_same]; exact congrArg some hv.symm, _, _, _, hv⟩
      · exact ⟨μ, S, fun _ => id, h⟩
    · rename_i id n sz hwin
      split
      · rename_i e ne ty xs _ hid
        cases hz : (Nat.beq sz ty.sz && !fixedB id) with
        | false => exact ⟨μ, S, fun _ => _root_.id, h⟩
        | true =>
          simp only [Bool.and_eq_true, Bool.not_eq_true'] at hz
          obtain ⟨cs, hcs, hj⟩ := Option.bind_eq_some_iff.1 hwin
          obtain ⟨μ1, h1⟩ := h.trunc hid (Nat.eq_of_beq_eq_true hz.1) hz.2 hcs hj
          exact prepC_ok h1
      · exact ⟨μ, S, fun _ => _root_.id, h⟩
    · exact ⟨μ, S, fun _ => id, h⟩

theorem prepEnv_ok {p : List (Id × BS)} : ∀ {l : List Slot} {m : IdMap} {μ : Id → Option Value} {S : Nat → Prop} {st : St}, Rel nt w0 O μ S st a w →
    ∃ μ' S', (∀ k, S k → S' k) ∧ Rel nt w0 O μ' S' (prepEnv p l m st).2 a w
  | [], m, μ, S, st, h => ⟨μ, S, fun _ => id, h⟩
  | s :: l, m, μ, S, st, h => by
    obtain ⟨μ1, S1, hs1, h1⟩ := prepC_ok (p := p) (loc := .tmp s.t) (l := s.l) (j := 0) (m := m) h
    obtain ⟨μ2, S2, hs2, h2⟩ := prepEnv_ok (p := p) (l := l) (m := (prepC p (.tmp s.t) s.l 0 m st).1) h1
    exact ⟨μ2, S2, fun k hk => hs2 k (hs1 k hk), h2⟩

theorem prepHeap_ok {p : List (Id × BS)} : ∀ {l : List (Id × BS)} {m : IdMap} {μ : Id → Option Value} {S : Nat → Prop} {st : St}, Rel nt w0 O μ S st a w →
    ∃ μ' S', (∀ k, S k → S' k) ∧ Rel nt w0 O μ' S' (prepHeap p l m st).2 a w
  | [], m, μ, S, st, h => ⟨μ, S, fun _ => id, h⟩
  | (t, .box bl) :: l, m, μ, S, st, h => by
    unfold prepHeap
    split
    · rename_i id _
      obtain ⟨μ1, S1, hs1, h1⟩ := prepC_ok (p := p) (loc := .box id) (l := bl) (j := 0) (m := m) h
      obtain ⟨μ2, S2, hs2, h2⟩ := prepHeap_ok (p := p) (l := l) (m := (prepC p (.box id) bl 0 m st).1) h1
      exact ⟨μ2, S2, fun k hk => hs2 k (hs1 k hk), h2⟩
    · exact ⟨μ, S, fun _ => id, h⟩
  | (t, .row _ _ _) :: l, m, μ, S, st, h => prepHeap_ok (l := l) h
  | (t, .map _ _) :: l, m, μ, S, st, h => prepHeap_ok (l := l) h
  | (t, .buf _) :: l, m, μ, S, st, h => prepHeap_ok (l := l) h
  | (t, .bld _ _) :: l, m, μ, S, st, h => by
    unfold prepHeap
    split
    · split
      · exact prepHeap_ok h
      · exact ⟨μ, S, fun _ => id, h⟩
    · exact ⟨μ, S, fun _ => id, h⟩

theorem prep_ok (p : Tpl) (h : Rel nt w0 O μ S st a w) : ∃ μ' S', (∀ k, S k → S' k) ∧ Rel nt w0 O μ' S' (prep p st).2 a w := by
  obtain ⟨μ1, S1, hs1, h1⟩ := prepEnv_ok (p := p.heap) (l := p.env) (m := []) h
  obtain ⟨μ2, S2, hs2, h2⟩ := prepHeap_ok (p := p.heap) (l := p.heap) (m := (prepEnv p.heap p.env [] st).1) h1
  exact ⟨μ2, S2, fun k hk => hs2 k (hs1 k hk), h2⟩

theorem mkHeap_key : ∀ {l : List (Id × BS)} {X : Type} {x : heapT l X} {t : Id}, (mkHeap l x).1 t ≠ none → ∃ q ∈ l, q.1 = t
  | [], X, x, t, h => absurd rfl h
  | (t', .box l') :: l, X, x, t, h => by
    by_cases e : t = t'
    · exact ⟨_, List.mem_cons_self, e.symm⟩
    · simp only [mkHeap, upd_other _ _ _ _ e] at h
      obtain ⟨q, hq, e⟩ := mkHeap_key h
      exact ⟨q, by simp [hq], e⟩
  | (t', .row _ _ _) :: l, X, x, t, h => by
    by_cases e : t = t'
    · exact ⟨_, List.mem_cons_self, e.symm⟩
    · simp only [mkHeap, upd_other _ _ _ _ e] at h
      obtain ⟨q, hq, e⟩ := mkHeap_key h
      exact ⟨q, by simp [hq], e⟩
  | (t', .map _ _) :: l, X, x, t, h => by
    by_cases e : t = t'
    · exact ⟨_, List.mem_cons_self, e.symm⟩
    · simp only [mkHeap, upd_other _ _ _ _ e] at h
      obtain ⟨q, hq, e⟩ := mkHeap_key h
      exact ⟨q, by simp [hq], e⟩
  | (t', .buf _) :: l, X, x, t, h => by
    by_cases e : t = t'
    · exact ⟨_, List.mem_cons_self, e.symm⟩
    · simp only [mkHeap, upd_other _ _ _ _ e] at h
      obtain ⟨q, hq, e⟩ := mkHeap_key h
      exact ⟨q, by simp [hq], e⟩
  | (t', .bld _ _) :: l, X, x, t, h => by
    by_cases e : t = t'
    · exact ⟨_, List.mem_cons_self, e.symm⟩
    · simp only [mkHeap, upd_other _ _ _ _ e] at h
      obtain ⟨q, hq, e⟩ := mkHeap_key h
      exact ⟨q, by simp [hq], e⟩
theorem rdC_rest {m : IdMap} : ∀ {l : List CS} {X : Type} {cs : List Cell} {x : Option X} {y : CST l X}, rdC m l cs x = some y → ∃ z, x = some z
  | [], X, cs, x, y, hr => by
    cases cs with
    | nil => exact ⟨y, hr⟩
    | cons c cs => simp [rdC] at hr
  | .d t :: l, X, cs, x, y, hr => by
    unfold rdC at hr
    split at hr
    · split at hr
      · rename_i z hz; exact rdC_rest hz
      · cases hr
    · cases hr
  | .any :: l, X, cs, x, y, hr => by
    cases cs with
    | nil => simp [rdC] at hr
    | cons c cs => simp only [rdC] at hr; exact rdC_rest hr
  | .row t :: l, X, cs, x, y, hr => by
    cases cs with
    | nil => simp [rdC] at hr
    | cons c cs => cases c <;> simp only [rdC] at hr <;> first | (cases hr; done) | exact rdC_rest (cond_some hr).2
  | .ptr t off :: l, X, cs, x, y, hr => by
    cases cs with
    | nil => simp [rdC] at hr
    | cons c cs => cases c <;> simp only [rdC] at hr <;> first | (cases hr; done) | exact rdC_rest (cond_some hr).2
  | .map t :: l, X, cs, x, y, hr => by
    cases cs with
    | nil => simp [rdC] at hr
    | cons c cs => cases c <;> simp only [rdC] at hr <;> first | (cases hr; done) | exact rdC_rest (cond_some hr).2
  | .fn f caps :: l, X, cs, x, y, hr => by
    cases cs with
    | nil => simp [rdC] at hr
    | cons c cs => cases c <;> simp only [rdC] at hr <;> first | (cases hr; done) | exact rdC_rest (cond_some hr).2
  | .nilS :: l, X, cs, x, y, hr => by
    cases cs with
    | nil => simp [rdC] at hr
    | cons c cs => cases c <;> simp only [rdC] at hr <;> first | (cases hr; done) | exact rdC_rest hr
  | .nilp :: l, X, cs, x, y, hr => by
    cases cs with
    | nil => simp [rdC] at hr
    | cons c cs => cases c <;> simp only [rdC] at hr <;> first | (cases hr; done) | exact rdC_rest hr
  | .nilfn :: l, X, cs, x, y, hr => by
    cases cs with
    | nil => simp [rdC] at hr
    | cons c cs => cases c <;> simp only [rdC] at hr <;> first | (cases hr; done) | exact rdC_rest hr
  | .nilif :: l, X, cs, x, y, hr => by
    cases cs with
    | nil => simp [rdC] at hr
    | cons c cs => cases c <;> simp only [rdC] at hr <;> first | (cases hr; done) | exact rdC_rest hr
  | .err :: l, X, cs, x, y, hr => by
    cases cs with
    | nil => simp [rdC] at hr
    | cons c cs =>
      cases c <;> simp only [rdC] at hr <;> try (cases hr; done)
      all_goals
        split at hr
        · rename_i z hz; exact rdC_rest hz
        · cases hr
  | .clip t :: l, X, cs, x, y, hr => by
    cases cs with
    | nil => simp [rdC] at hr
    | cons c cs =>
      cases c <;> simp only [rdC] at hr <;> try (cases hr; done)
      split at hr
      · split at hr
        · rename_i z hz; exact rdC_rest hz
        · cases hr
      · cases hr

theorem rdEnv_rest {m : IdMap} {env : Env} : ∀ {l : List Slot} {X : Type} {x : Option X} {y : envT l X}, rdEnv m env l x = some y → ∃ z, x = some z
  | [], X, x, y, hr => ⟨y, hr⟩
  | s :: l, X, x, y, hr => by
    unfold rdEnv at hr
    split at hr
    · cases hr
    · cases hagg : s.agg with
      | true => rw [hagg] at hr; cases hr
      | false => rw [hagg] at hr; obtain ⟨z, hz⟩ := rdC_rest hr; exact rdEnv_rest hz
    · cases hagg : s.agg with
      | false => rw [hagg] at hr; cases hr
      | true => rw [hagg] at hr; obtain ⟨z, hz⟩ := rdC_rest hr; exact rdEnv_rest hz
    · cases hr

theorem rdHeap_key {m : IdMap} {heap : Heap} : ∀ {l : List (Id × BS)} {X : Type} {x : Option X} {y : heapT l X}, rdHeap m heap l x = some y → ∀ q ∈ l, ∃ id, look m q.1 = some id ∧ heap id ≠ none
  | [], X, x, y, hr, q, hq => by simp at hq
  | (t, .box l) :: rs, X, x, y, hr, q, hq => by
    unfold rdHeap at hr
    split at hr
    · rename_i id hid
      split at hr
      · rename_i cs hcs
        obtain ⟨z, hz⟩ := rdC_rest hr
        rcases List.mem_cons.1 hq with rfl | hq
        · exact ⟨id, hid, by rw [hcs]; simp⟩
        · exact rdHeap_key hz q hq
      · cases hr
    · cases hr
  | (t, .row e n ty) :: rs, X, x, y, hr, q, hq => by
    unfold rdHeap at hr
    split at hr
    · rename_i id hid
      split at hr
      · rename_i e' n' ty' xs hcs
        replace hr := (cond_some hr).2
        split at hr
        · split at hr
          · rename_i z hz
            rcases List.mem_cons.1 hq with rfl | hq
            · exact ⟨id, hid, by rw [hcs]; simp⟩
            · exact rdHeap_key hz q hq
          · cases hr
        · cases hr
      · cases hr
    · cases hr
  | (t, .bld T bid) :: rs, X, x, y, hr, q, hq => by
    unfold rdHeap at hr
    split at hr
    · rename_i id hid
      split at hr
      · rename_i hcs
        replace hr := (cond_some hr).2
        rcases List.mem_cons.1 hq with rfl | hq
        · exact ⟨id, hid, by rw [hcs]; simp⟩
        · exact rdHeap_key hr q hq
      · cases hr
    · cases hr
  | (t, .buf e) :: rs, X, x, y, hr, q, hq => by
    unfold rdHeap at hr
    split at hr
    · rename_i id hid
      split at hr
      · rename_i hcs
        replace hr := (cond_some hr).2
        split at hr
        · rename_i z hz
          rcases List.mem_cons.1 hq with rfl | hq
          · exact ⟨id, hid, by rw [hcs]; simp⟩
          · exact rdHeap_key hz q hq
        · cases hr
      · cases hr
    · cases hr
  | (t, .map kt vt) :: rs, X, x, y, hr, q, hq => by
    unfold rdHeap at hr
    split at hr
    · rename_i id hid
      split at hr
      · rename_i hcs
        split at hr
        · split at hr
          · rename_i z hz
            rcases List.mem_cons.1 hq with rfl | hq
            · exact ⟨id, hid, by rw [hcs]; simp⟩
            · exact rdHeap_key hz q hq
          · cases hr
        · cases hr
      · cases hr
    · cases hr

theorem rd_kept {p : Tpl} {m : IdMap} {x : p.T} (h : Rel nt w0 O μ S st a w) (hr : rd m p st = some x) (hf : keptFits m p = true) : Rel nt w0 O (muOf m μ) S (mk p x) a w := by
  have h0 := rd_ok h hr
  refine ⟨h0.env, h0.size, h0.defers, h0.dom, h0.blks, h0.sep, h0.imm, h0.own, h0.os, h0.tape, h0.output, h0.grow, h0.frame, h0.sfrom, h0.pars, fun id v hk => ?_, h0.tabs, h0.tq⟩
  obtain ⟨k1, k2, k3⟩ := h.kept id v hk
  refine ⟨k1, k2, ?_⟩
  cases hid : (mk p x).heap id with
  | none => exact .inl rfl
  | some b =>
    right
    obtain ⟨q, hq, hqe⟩ := mkHeap_key (show (mkHeap p.heap (mkEnv p.env x).2).1 id ≠ none by rw [show (mkHeap p.heap (mkEnv p.env x).2).1 id = some b from hid]; simp)
    subst hqe
    have := List.all_eq_true.1 hf q hq
    rw [keptB_iff.2 k1] at this
    simp only [Bool.not_true, Bool.false_or] at this
    have hl := isAt_look this
    obtain ⟨z, hz⟩ := rdEnv_rest (cond_some hr).2
    obtain ⟨id', hl', hne⟩ := rdHeap_key hz q hq
    rw [hl] at hl'
    cases hl'
    simp only [muOf, hl, Option.bind_some]
    exact k3.resolve_left hne
theorem ext_ok {p : Tpl} {x : p.T} (h : Rel nt w0 O μ S st a w) (hx : ext p st = some x) : ∃ μ' S', Rel nt w0 O μ' S' (mk p x) a w := by
  obtain ⟨μ1, S1, _, h1⟩ := prep_ok p h
  exact ⟨_, _, rd_kept h1 (cond_some hx).2 (cond_some hx).1⟩

/-- what a cut owes, said of its template -/
theorem cut_ok {pg : Prog R} {Post : Act → World → Prop} {p : Tpl} {J : List Item → p.T → Option R}
    (hJ : ∀ todo (x : p.T) μ S a w, J todo x = some r → Rel pg.nt w0 O μ S (mk p x) a w → Ends P todo a w Post) {todo : List Item} (h : Rel pg.nt w0 O μ S st a w) (hc : cut p J todo st = some r) : Ends P todo a w Post := by
  rw [cut_eq] at hc
  split at hc
  · rename_i x hx
    obtain ⟨μ', S', h'⟩ := ext_ok h hx
    exact hJ todo x μ' S' a w hc h'
  · cases hc
end
end Go.Proofs.YtjjepjfjikefiaaB
