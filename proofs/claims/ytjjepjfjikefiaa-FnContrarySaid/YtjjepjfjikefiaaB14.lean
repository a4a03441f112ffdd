/- The core, part 14: a region's list; the run of a function. -/
import Derived.Test.YtjjepjfjikefiaaB13
import Derived.Orders
import Derived.Scope
set_option linter.unusedVariables false
namespace Go.Proofs.YtjjepjfjikefiaaB
open Go

section
open Go
variable {R : Type} {P : Program} {nt : Nat} {w0 : World} {O : Own} {μ : Id → Option Value} {S : Nat → Prop} {st : St} {a : Act} {w : World} {o : Oper} {K : St → Option R} {r : R} {Q : Exit → Act → World → Prop}

theorem Rel.known (h : Rel nt w0 O μ S st a w) {t : Nat} {v : AV} (hv : AVRel μ S w v (a.tmps.getD t undef)) : Rel nt w0 O μ S (st.put (some t) v) a w :=
  { h with
    env := fun x => by
      by_cases e : x = t
      · subst e; rw [show (st.put (some x) v).env x = v from upd_same _ _ _]; exact hv
      · rw [show (st.put (some t) v).env x = st.env x from upd_other _ _ _ _ e]; exact h.env x }

theorem skip_rel {v : Value} (h : AVRel μ S w skipA v) : v = .tuple #[] := by
  obtain ⟨arr, e, hall⟩ := h
  have : arr.toList = [] := by
    cases hh : arr.toList with
    | nil => rfl
    | cons _ _ => rw [hh] at hall; exact hall.elim
  rw [e, show arr = #[] by rw [← Array.toList_inj, this]]

theorem getD_some {tmps : Array Value} {t : Nat} {v : Value} (h : tmps.getD t undef = v) (hv : v ≠ undef) : tmps[t]? = some v := by
  rw [Array.getD_eq_getD_getElem?] at h
  cases ht : tmps[t]? with
  | none => rw [ht] at h; exact absurd h.symm hv
  | some u => rw [ht] at h; simp at h; rw [h]

theorem aops_ok {cx : Ctx R} (hT : TabOK P cx) (hn : nt = cx.nt) (hnp : O.np = cx.np) (hH : HandOK P nt cx) {ops : Array Oper} (hQ : ∀ a w, Next nt w0 O K r a w → Q .normal a w) :
    ∀ {os : List Oper} {μ : Id → Option Value} {S : Nat → Prop} {st : St} {a : Act} {w : World}, Rel nt w0 O μ S st a w → aops cx ops.toList os st K = some r → wpList P ops Q os a w
  | [], μ, S, st, a, w, h, hK => hQ a w ⟨st, μ, S, hK, h⟩
  | o :: os, μ, S, st, a, w, h, hK => by
    unfold aops at hK
    have hdb := (cond_some hK).1
    replace hK := (cond_some hK).2
    have hd : ∀ d, o.dst = some d → d < nt ∧ O.np ≤ d := by
      intro d hd
      rw [hd] at hdb
      simp only [Bool.and_eq_true] at hdb
      rw [hn, hnp]
      exact ⟨Nat.le_of_ble_eq_true hdb.1, Nat.le_of_ble_eq_true hdb.2⟩
    have go : ∀ {st1 : St} {K' : St → Option R}, Rel nt w0 O μ S st1 a w → aop cx o st1 (fun st => aops cx ops.toList os st K) = some r → o.wp P a w (wpList P ops Q os) Q := by
      intro st1 K' h1 hop
      refine Oper.wp_mono (K := Next nt w0 O (fun st => aops cx ops.toList os st K) r) ?_ (aop_ok hT hH h1 hd hop)
      rintro a' w' ⟨st', μ', S', hK', hr'⟩
      exact aops_ok hT hn hnp hH hQ hr' hK'
    have skip : ∀ {st1 : St}, Rel nt w0 O μ S st1 a w → aops cx ops.toList os (st1.put o.dst skipA) K = some r → wpList P ops Q os (a.put o.dst undef) w := by
      intro st1 h1 hop
      exact aops_ok hT hn hnp hH hQ (h1.put hd (v := skipA) (u := undef) ⟨#[], rfl, trivial⟩) hop
    unfold wpList
    split at hK
    · rename_i hg
      rw [if_pos (by simp [Region.wanted, hg])]
      exact .inl (go (K' := K) h hK)
    · rename_i j want hg
      split at hK
      · rename_i t op ty pos after g hoj
        have hoj' : (ops[j]?).bind (·.dst) = some t := by
          rw [← Array.getElem?_toList, hoj]; rfl
        split at hK
        · rename_i b hb
          have hbv := bool_of (S := S) (w := w) (μ := μ) (b := b) (v := a.tmps.getD t undef) (by have := h.env t; rw [hb] at this; exact this)
          have hy : yielded ops a.tmps j = some b := by
            simp [yielded, hoj', getD_some hbv (by cases b <;> simp [undef])]
          have hw : Region.wanted o (yielded ops a.tmps) = (b == want) := by
            simp only [Region.wanted, hg, hy]
            cases b <;> cases want <;> rfl
          rw [hw]
          have h1 : ∀ c, c = b → Rel nt w0 O μ S (st.put (some t) (bv c)) a w := fun c hc => by
            subst hc; exact h.known (by rw [hbv]; exact bool_rel c)
          cases b <;> cases want <;> simp only [cond_true, cond_false] at hK <;> simp
          · exact .inl (go (K' := K) (h1 false rfl) hK)
          · exact skip (h1 false rfl) hK
          · exact skip (h1 true rfl) hK
          · exact .inl (go (K' := K) (h1 true rfl) hK)
        · rename_i hb
          have hbv := skip_rel (μ := μ) (S := S) (w := w) (v := a.tmps.getD t undef) (by have := h.env t; rw [hb] at this; exact this)
          have hy : yielded ops a.tmps j = none := by
            simp only [yielded, hoj', Option.bind_some]
            rw [Array.getD_eq_getD_getElem?] at hbv
            cases ht : a.tmps[t]? with
            | none => rfl
            | some u => rw [ht] at hbv; simp at hbv; subst hbv; rfl
          have hw : Region.wanted o (yielded ops a.tmps) = false := by
            simp only [Region.wanted, hg, hy]
            cases want <;> rfl
          rw [hw]
          exact skip h hK
        · cases hK
      · cases hK

/-! ### The run -/
/-- from here on the function ends, and then it is so -/
def Ends (P : Program) (todo : List Item) (a : Act) (w : World) (Post : Act → World → Prop) : Prop :=
  ∀ (b : Frame) (cs : List Frame), ∃ a' w' todo', Post a' w' ∧ Steps P (lone (b.at a todo) cs w) (lone { b.at a' todo' with mode := .returning } cs w')

theorem Ends.step {todo todo' : List Item} {a' : Act} {w' : World} {Post : Act → World → Prop} (hs : ∀ (b : Frame) (cs : List Frame), step P (lone (b.at a todo) cs w) = .next (lone (b.at a' todo') cs w')) (h : Ends P todo' a' w' Post) : Ends P todo a w Post :=
  fun b cs => let ⟨a2, w2, t2, hp, st⟩ := h b cs; ⟨a2, w2, t2, hp, .head (hs b cs) st⟩

theorem ends_region {id : Nat} {ops : Array Oper} {k : List Item} {Post : Act → World → Prop} {Q : Act → World → Prop} (h : wpList P ops (fun e a w => e = .normal ∧ Q a w) ops.toList a w) (hQ : ∀ a w, Q a w → Ends P k a w Post) : Ends P (.code (.region id ops false) :: k) a w Post := by
  intro b cs
  obtain ⟨e, a', w', ⟨rfl, hq⟩, harr⟩ := wp_region_list (id := id) h b k cs
  obtain ⟨a2, w2, t2, hp, hs⟩ := hQ _ _ hq b cs
  exact ⟨a2, w2, t2, hp, Steps.trans harr hs⟩

/-- what the run's cuts and its end owe -/
structure RunOK (P : Program) (w0 : World) (O : Own) (pg : Prog R) (r : R) (Post : Act → World → Prop) : Prop where
  np : O.np = pg.np
  cut : ∀ id f, pg.cuts id = some f → ∀ ops draw k (μ : Id → Option Value) (S : Nat → Prop) (st : St) (a : Act) (w : World), Rel pg.nt w0 O μ S st a w → f (.code (.region id ops draw) :: k) st = some r → Ends P (.code (.region id ops draw) :: k) a w Post
  fin : ∀ (μ : Id → Option Value) (S : Nat → Prop) (st : St) (a : Act) (w : World), Rel pg.nt w0 O μ S st a w → pg.fin st = some r → Post a w

theorem arun_ok {pg : Prog R} (hT : TabOK P pg.toCtx) (hH : HandOK P pg.nt pg.toCtx) {Post : Act → World → Prop} (hR : RunOK P w0 O pg r Post) :
    ∀ (n : Nat) (todo : List Item) (μ : Id → Option Value) (S : Nat → Prop) (st : St) (a : Act) (w : World), Rel pg.nt w0 O μ S st a w → arun pg n todo st = some r → Ends P todo a w Post
  | 0, _, _, _, _, _, _, _, hK => by simp [arun] at hK
  | n + 1, todo, μ, S, st, a, w, h, hK => by
    have ih := arun_ok hT hH hR n
    unfold arun at hK
    split at hK
    · exact fun b cs => ⟨a, w, _, hR.fin _ _ _ _ _ h hK, .one step_end⟩
    · exact fun b cs => ⟨a, w, _, hR.fin _ _ _ _ _ h hK, .one step_ret⟩
    · exact .step (fun b cs => step_skip) (ih _ _ _ _ _ _ h hK)
    · exact .step (fun b cs => step_label) (ih _ _ _ _ _ _ h hK)
    · exact .step (fun b cs => step_inBlock) (ih _ _ _ _ _ _ h hK)
    · exact .step (fun b cs => step_inScope) (ih _ _ _ _ _ _ h hK)
    · exact .step (fun b cs => step_seq) (ih _ _ _ _ _ _ h hK)
    · rename_i c t e k
      split at hK
      · rename_i s
        split at hK
        · rename_i b hb
          have hbv := bool_of (S := S) (w := w) (μ := μ) (b := b) (v := a.tmps.getD s undef) (by have := h.env s; rw [hb] at this; exact this)
          cases b
          · exact .step (fun b cs => step_cond (t := false) hbv) (ih _ _ _ _ _ _ (h.known (by rw [hbv]; exact bool_rel false)) hK)
          · exact .step (fun b cs => step_cond (t := true) hbv) (ih _ _ _ _ _ _ (h.known (by rw [hbv]; exact bool_rel true)) hK)
        · cases hK
      · rename_i b
        cases b
        · exact .step (fun b cs => step_cond (t := false) rfl) (ih _ _ _ _ _ _ h hK)
        · exact .step (fun b cs => step_cond (t := true) rfl) (ih _ _ _ _ _ _ h hK)
      · cases hK
    · exact .step (fun b cs => step_block) (ih _ _ _ _ _ _ h hK)
    · exact .step (fun b cs => step_scope) (ih _ _ _ _ _ _ h hK)
    · exact .step (fun b cs => step_loop) (ih _ _ _ _ _ _ h hK)
    · exact .step (fun b cs => step_inLoop) (ih _ _ _ _ _ _ h hK)
    · split at hK
      · rename_i k' hk; exact .step (fun b cs => step_exit hk) (ih _ _ _ _ _ _ h hK)
      · cases hK
    · rename_i id ops draw k
      split at hK
      · rename_i f hf; exact hR.cut _ _ hf _ _ _ _ _ _ _ _ h hK
      · cases draw
        · refine ends_region (Q := Next pg.nt w0 O (fun st => arun pg n k st) r) (aops_ok hT rfl hR.np hH (fun a w hn => ⟨rfl, hn⟩) h hK) ?_
          rintro a' w' ⟨st', μ', S', hK', h'⟩
          exact ih _ _ _ _ _ _ h' hK'
        · cases hK
    · cases hK

theorem arun1_ok {pg : Prog R} (hT : TabOK P pg.toCtx) (hH : HandOK P pg.nt pg.toCtx) {Post : Act → World → Prop} (hR : RunOK P w0 O pg r Post) {n : Nat} {todo : List Item} (h : Rel pg.nt w0 O μ S st a w) (hK : arun1 pg n todo st = some r) : Ends P todo a w Post := by
  unfold arun1 at hK
  split at hK
  · rename_i id ops draw k
    cases draw
    · refine ends_region (Q := Next pg.nt w0 O (fun st => arun pg n k st) r) (aops_ok hT rfl hR.np hH (fun a w hn => ⟨rfl, hn⟩) h hK) ?_
      rintro a' w' ⟨st', μ', S', hK', h'⟩
      exact arun_ok hT hH hR n k _ _ _ _ _ h' hK'
    · cases hK
  · exact arun_ok hT hH hR n _ _ _ _ _ _ h hK
end
end Go.Proofs.YtjjepjfjikefiaaB
