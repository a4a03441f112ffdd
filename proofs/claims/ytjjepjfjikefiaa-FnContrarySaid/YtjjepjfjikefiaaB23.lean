/- The core, part 23: summaries keep what calls owe. -/
import Derived.Test.YtjjepjfjikefiaaB22
set_option linter.unusedVariables false
namespace Go.Proofs.YtjjepjfjikefiaaB
open Go

section
variable {R : Type} {P : Program} {nt : Nat} {w0 : World} {O : Own} {μ : Id → Option Value} {S : Nat → Prop} {st : St} {a : Act} {w : World} {r : R}

def MuSub (μ' μ : Id → Option Value) : Prop := ∀ id v, μ' id = some v → μ id = some v

theorem Rel.frz2 {get : St → Option (List Cell)} : ∀ {n : Nat} {μ : Id → Option Value} {S : Nat → Prop} {st : St}, Rel nt w0 O μ S st a w → ∃ μ' S', (∀ k, S k → S' k) ∧ MuSub μ' μ ∧ Rel nt w0 O μ' S' (Go.Proofs.YtjjepjfjikefiaaB.frz n st get) a w
  | 0, μ, S, st, h => ⟨μ, S, fun _ => id, fun _ _ => id, h⟩
  | n + 1, μ, S, st, h => by
    unfold Go.Proofs.YtjjepjfjikefiaaB.frz
    split
    · split
      · rename_i id _
        split
        · rename_i e ne t xs hid
          obtain ⟨S1, hs1, h1⟩ := h.freeze hid
          obtain ⟨μ2, S2, hs2, hm2, h2⟩ := Rel.frz2 (get := get) (n := n) h1
          refine ⟨μ2, S2, fun k hk => hs2 k (hs1 k hk), fun i v hv => ?_, h2⟩
          have := hm2 i v hv
          by_cases e : i = id
          · subst e; rw [upd_same] at this; cases this
          · rwa [upd_other _ _ _ _ e] at this
        · exact ⟨μ, S, fun _ h => h, fun _ _ h => h, h⟩
      · exact ⟨μ, S, fun _ h => h, fun _ _ h => h, h⟩
    · exact ⟨μ, S, fun _ h => h, fun _ _ h => h, h⟩

theorem prepC_np {loc : Loc} : ∀ {l : List CS} {j : Nat} {m : IdMap} {μ : Id → Option Value} {S : Nat → Prop} {st : St}, Rel nt w0 O μ S st a w →
    ∃ μ' S', (∀ k, S k → S' k) ∧ MuSub μ' μ ∧ Rel nt w0 O μ' S' (prepC [] loc l j m st).2 a w
  | [], _, _, μ, S, st, h => ⟨μ, S, fun _ => id, fun _ _ => id, h⟩
  | .d t :: l, j, m, μ, S, st, h => by
    obtain ⟨μ1, S1, hs1, hm1, h1⟩ := h.frz2 (n := 8) (get := fun st => (getL st loc).map fun cs => (cs.drop j).take t.sz)
    obtain ⟨μ2, S2, hs2, hm2, h2⟩ := prepC_np (l := l) (j := j + t.sz) (m := m) h1
    exact ⟨μ2, S2, fun k hk => hs2 k (hs1 k hk), fun i v hv => hm1 i v (hm2 i v hv), h2⟩
  | .any :: l, j, m, μ, S, st, h => prepC_np (l := l) h
  | .nilp :: l, j, m, μ, S, st, h => prepC_np (l := l) h
  | .nilS :: l, j, m, μ, S, st, h => prepC_np (l := l) h
  | .nilfn :: l, j, m, μ, S, st, h => prepC_np (l := l) h
  | .nilif :: l, j, m, μ, S, st, h => prepC_np (l := l) h
  | .err :: l, j, m, μ, S, st, h => prepC_np (l := l) h
  | .clip _ :: l, j, m, μ, S, st, h => prepC_np (l := l) h
  | .ptr t _ :: l, j, m, μ, S, st, h => by
    unfold prepC
    split
    · exact prepC_np h
    · exact ⟨μ, S, fun _ => id, fun _ _ => id, h⟩
  | .map t :: l, j, m, μ, S, st, h => by
    unfold prepC
    split
    · exact prepC_np h
    · exact ⟨μ, S, fun _ => id, fun _ _ => id, h⟩
  | .fn f caps :: l, j, m, μ, S, st, h => by
    unfold prepC
    split
    · exact prepC_np h
    · exact ⟨μ, S, fun _ => id, fun _ _ => id, h⟩
  | .row t :: l, j, m, μ, S, st, h => by
    unfold prepC
    split
    · exact prepC_np h
    · exact ⟨μ, S, fun _ => id, fun _ _ => id, h⟩
    · exact ⟨μ, S, fun _ => id, fun _ _ => id, h⟩
    · exact ⟨μ, S, fun _ => id, fun _ _ => id, h⟩

theorem prepEnv_np : ∀ {l : List Slot} {m : IdMap} {μ : Id → Option Value} {S : Nat → Prop} {st : St}, Rel nt w0 O μ S st a w →
    ∃ μ' S', (∀ k, S k → S' k) ∧ MuSub μ' μ ∧ Rel nt w0 O μ' S' (prepEnv [] l m st).2 a w
  | [], m, μ, S, st, h => ⟨μ, S, fun _ => id, fun _ _ => id, h⟩
  | s :: l, m, μ, S, st, h => by
    obtain ⟨μ1, S1, hs1, hm1, h1⟩ := prepC_np (loc := .tmp s.t) (l := s.l) (j := 0) (m := m) h
    obtain ⟨μ2, S2, hs2, hm2, h2⟩ := prepEnv_np (l := l) (m := (prepC [] (.tmp s.t) s.l 0 m st).1) h1
    exact ⟨μ2, S2, fun k hk => hs2 k (hs1 k hk), fun i v hv => hm1 i v (hm2 i v hv), h2⟩

theorem prepHeap_np : ∀ {l : List (Id × BS)} {m : IdMap} {μ : Id → Option Value} {S : Nat → Prop} {st : St}, Rel nt w0 O μ S st a w →
    ∃ μ' S', (∀ k, S k → S' k) ∧ MuSub μ' μ ∧ Rel nt w0 O μ' S' (prepHeap [] l m st).2 a w
  | [], m, μ, S, st, h => ⟨μ, S, fun _ => id, fun _ _ => id, h⟩
  | (t, .box bl) :: l, m, μ, S, st, h => by
    unfold prepHeap
    split
    · rename_i id _
      obtain ⟨μ1, S1, hs1, hm1, h1⟩ := prepC_np (loc := .box id) (l := bl) (j := 0) (m := m) h
      obtain ⟨μ2, S2, hs2, hm2, h2⟩ := prepHeap_np (l := l) (m := (prepC [] (.box id) bl 0 m st).1) h1
      exact ⟨μ2, S2, fun k hk => hs2 k (hs1 k hk), fun i v hv => hm1 i v (hm2 i v hv), h2⟩
    · exact ⟨μ, S, fun _ => id, fun _ _ => id, h⟩
  | (t, .row _ _ _) :: l, m, μ, S, st, h => prepHeap_np (l := l) h
  | (t, .map _ _) :: l, m, μ, S, st, h => prepHeap_np (l := l) h
  | (t, .buf _) :: l, m, μ, S, st, h => prepHeap_np (l := l) h
  | (t, .bld _ _) :: l, m, μ, S, st, h => by
    unfold prepHeap
    split
    · split
      · exact prepHeap_np h
      · exact ⟨μ, S, fun _ => id, fun _ _ => id, h⟩
    · exact ⟨μ, S, fun _ => id, fun _ _ => id, h⟩

theorem prepNP_ok (p : Tpl) (h : Rel nt w0 O μ S st a w) : ∃ μ' S', (∀ k, S k → S' k) ∧ MuSub μ' μ ∧ Rel nt w0 O μ' S' (prepNP p st).2 a w := by
  obtain ⟨μ1, S1, hs1, hm1, h1⟩ := prepEnv_np (l := p.env) (m := []) h
  obtain ⟨μ2, S2, hs2, hm2, h2⟩ := prepHeap_np (l := p.heap) (m := (prepEnv [] p.env [] st).1) h1
  exact ⟨μ2, S2, fun k hk => hs2 k (hs1 k hk), fun i v hv => hm1 i v (hm2 i v hv), h2⟩

/-- the callee's own state -/
theorem enter_ok {k : Nat} {pin : Tpl} {m : IdMap} {x : pin.T} {vals : Array Value} {st3 : St} (hP : Rel (k + nt) w0 O μ S st3 ⟨vals ++ a.tmps, a.defers⟩ w) (hx : rd m pin st3 = some x) (hmk : distinct (m.map (·.1)) = true)
    (hk : vals.size = k) (hs : pin.env.all (fun q => Nat.blt q.t k) = true) : Rel k w (ownOf O.tb m μ S) (muOf m μ) S (mk pin x) ⟨vals, []⟩ w := by
  have h := rd_ok hP hx
  refine ⟨fun t => ?_, hk, rfl, h.dom, h.blks, h.sep, h.imm, fun id hv b h1 h2 => ⟨.inr ?_, (h.own _ _ _ h1 h2).2⟩, rfl, rfl, rfl, Nat.le_refl _, fun _ _ _ => rfl, fun b hb => .inl hb, fun i hi => absurd hi (Nat.not_lt_zero i), fun t v hk => (keptOf_ok hk).imp_right fun h => h.imp_right .inr, h.tabs, h.tq⟩
  · rcases Nat.lt_or_ge t k with hlt | hge
    · have := h.env t
      rw [Array.getD_eq_getD_getElem?, Array.getElem?_append_left (by omega), ← Array.getD_eq_getD_getElem?] at this
      exact this
    · have : (mk pin x).env t = undefA := mkEnv_none fun s hs' => by
        have := List.all_eq_true.1 hs s hs'
        have : s.t < k := Nat.le_of_ble_eq_true this
        omega
      rw [this]
      exact fun hk => by cases hk
  · unfold muOf at h1
    cases hl : look m id with
    | none => rw [hl] at h1; cases h1
    | some i => rw [hl] at h1; exact ⟨id, i, hv, look_mem hl, h1, h2⟩

/-- the caller's own temporaries -/
theorem argBack {k : Nat} {vals : Array Value} {st3 : St} {μ0 : Id → Option Value} {S0 : Nat → Prop} (hP : Rel (k + nt) w0 O.free μ S st3 ⟨vals ++ a.tmps, a.defers⟩ w) (hk : vals.size = k) (h : Rel nt w0 O μ0 S0 st a w) : Rel nt w0 O μ S { env := fun t => st3.env (t + k), heap := st3.heap } a w := by
  refine ⟨fun t => ?_, h.size, h.defers, hP.dom, hP.blks, hP.sep, hP.imm, hP.own, hP.os, hP.tape, hP.output, hP.grow, hP.frame, hP.sfrom, h.pars, hP.kept, hP.tabs, hP.tq⟩
  have := hP.env (t + k)
  rw [Array.getD_eq_getD_getElem?, Array.getElem?_append_right (by omega), hk, Nat.add_sub_cancel, ← Array.getD_eq_getD_getElem?] at this
  exact this

theorem resV_ok {μ2 : Id → Option Value} {S2 : Nat → Prop} {ρ : Id → Id} (hρ : ∀ id v, μ id = some v → μ2 (ρ id) = some v) (hS : ∀ b, S b → S2 b) {e : Env} {U : Array Value} (he : ∀ t, AVRel μ S w (e t) (U.getD t undef)) :
    ∀ {n i : Nat} {vs : List V1}, resV ρ e i n = some vs → All2 (V1Rel μ2 S2 w) vs ((List.range' i n).map fun t => U.getD t undef)
  | 0, i, vs, h => by simp only [resV, Option.some.injEq] at h; subst h; trivial
  | n + 1, i, vs, h => by
    unfold resV at h
    split at h
    · rename_i v hv
      have hk := (cond_some h).1
      replace h := (cond_some h).2
      split at h
      · rename_i vs' hvs
        simp only [Option.some.injEq] at h
        subst h
        have h1 := he i
        rw [hv] at h1
        rw [List.range'_succ, List.map_cons]
        exact ⟨((h1 hk).ren hρ).frame fun b hb => ⟨hS b hb, rfl⟩, resV_ok hρ hS he hvs⟩
      · cases h
    · cases h

theorem resA_ok {vs : List V1} {us : Array Value} (h : All2 (V1Rel μ S w) vs us.toList) : AVRel μ S w (resA vs) (retV us) := by
  have hl := h.length
  rw [Array.length_toList] at hl
  unfold retV
  match vs, h, hl with
  | [v], h, hl =>
    have h1 : us.size = 1 := by simpa using hl.symm
    rw [dif_pos h1]
    obtain ⟨u, hu, hr⟩ := h.get (i := 0) rfl
    have : us[0]? = some u := by rw [← Array.getElem?_toList]; exact hu
    rw [(Array.getElem?_eq_some_iff.1 this).2]
    exact fun _ => hr
  | [], h, hl => rw [dif_neg (by simp at hl; omega)]; exact ⟨us, rfl, h⟩
  | _ :: _ :: _, h, hl => rw [dif_neg (by simp at hl; omega)]; exact ⟨us, rfl, h⟩
end
end Go.Proofs.YtjjepjfjikefiaaB
