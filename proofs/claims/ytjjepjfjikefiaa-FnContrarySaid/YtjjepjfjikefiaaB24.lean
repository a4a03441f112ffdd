/- The core, part 24: calls by summaries; tables of functions. -/
import Derived.Test.YtjjepjfjikefiaaB23
set_option linter.unusedVariables false
namespace Go.Proofs.YtjjepjfjikefiaaB
open Go

section
variable {R : Type} {P : Program} {nt : Nat} {w0 : World} {O : Own} {μ : Id → Option Value} {S : Nat → Prop} {st : St} {a : Act} {w : World} {r : R}

theorem callBack_ok {s : Summ} {dn : Nat} {m : IdMap} {x : s.pin.T} {y : s.pout.T} {K : AV → St → Option R} {vals us : Array Value} {w' w0' : World} {μ' : Id → Option Value} {S' Sin : Nat → Prop} {n2 n3 : Nat}
    (h3 : Rel nt w0 O μ S st a w) (hheld : ∀ t id, (t, id) ∈ m → look m t = some id ∧ st.heap id ≠ none) (hk : vals.size = s.k) (hus : us.size = s.nr) (hnp : s.np ≤ s.k)
    (hin : Rel n2 w0' (ownOf O.tb m μ Sin) (muOf m μ) Sin (mk s.pin x) ⟨vals, []⟩ w) (hout : Rel n3 w (ownOf O.tb m μ Sin) μ' S' (mk s.pout y) ⟨us ++ (vals.toList.take s.np).toArray, []⟩ w')
    (hS' : ∀ b, S' b → S b ∨ w.heap.size ≤ b ∨ (ownOf O.tb m μ Sin) b) (hkr : m.all nameOK = true) (hinj : ∀ {t t' id : Id}, (t, id) ∈ m → (t', id) ∈ m → t = t') (hK : callBack s dn m x st y K = some r) : NextV nt w0 O K r a (retV us) w' := by
  unfold callBack at hK
  simp only at hK
  have hc := (cond_some hK).1
  replace hK := (cond_some hK).2
  simp only [Bool.and_eq_true] at hc
  split at hK
  · rename_i vs lost hvs
    obtain ⟨hrel, hback⟩ := back_ok (base := 1000000000 + 1000 * dn) h3 hheld hk hus hnp hin hout hS' hkr (by omega) hinj hc.1 hc.2 rfl rfl
    refine ⟨_, _, _, _, hK, ?_, hrel⟩
    have := resV_ok (S2 := fun b => S b ∨ S' b) hback (fun b hb => .inr hb) (U := us ++ (vals.toList.take s.np).toArray) hout.env hvs
    refine resA_ok ?_
    have he : ((List.range' 0 s.nr).map fun t => (us ++ (vals.toList.take s.np).toArray).getD t undef) = us.toList := by
      apply List.ext_getElem?
      intro i
      rw [List.getElem?_map]
      rcases Nat.lt_or_ge i s.nr with hi | hi
      · rw [List.getElem?_range' hi]
        simp only [Option.map_some, Array.getElem?_toList, Nat.zero_add, Nat.one_mul]
        rw [Array.getD_eq_getD_getElem?, Array.getElem?_append_left (by omega), Array.getElem?_eq_getElem (by omega)]
        rfl
      · rw [List.getElem?_eq_none (by simpa using hi), Array.getElem?_toList, Array.getElem?_eq_none (by omega)]; rfl
    rw [he] at this
    exact this
  · cases hK

theorem callSum_ok {f : FuncId} {brw : Bool} {s : Summ} (hc : Con P f s.k s.nr s.np s.pin s.pout s.impl) {dn : Nat} {args : List AV} {vals : Array Value} {K : AV → St → Option R} (h : Rel nt w0 O μ S st a w) (ha : All2 (AVRel μ S w) args vals.toList)
    (hK : callSum brw s dn args st K = some r) : (callFunc f vals).run P w = .ok (.enter f vals) w ∧ Calls P f vals w fun e w' => ∃ u, e = .returned u ∧ NextV nt w0 O K r a u w' := by
  refine ⟨hc.enter vals w, ?_⟩
  unfold callSum at hK
  have hb := (cond_some hK).1
  replace hK := (cond_some hK).2
  simp only [Bool.and_eq_true] at hb
  have hlen := Nat.eq_of_beq_eq_true hb.1
  have hvk : vals.size = s.k := by rw [← Array.length_toList, ← ha.length, hlen]
  have hA := argSt_ok h ha hlen
  cases brw with
  | false =>
    simp only [cond_false] at hK
    obtain ⟨μ3, S3, hs3, hP⟩ := prep_ok s.pin hA
    generalize prep s.pin (argSt s.k args st) = q at hK hP
    obtain ⟨m, st3⟩ := q
    simp only at hK hP
    have hcc := (cond_some hK).1
    replace hK := (cond_some hK).2
    simp only [Bool.and_eq_true] at hcc
    split at hK
    · rename_i x hx
      obtain ⟨y, hy, hK⟩ := Option.bind_eq_some_iff.1 hK
      have hin := enter_ok hP hx hcc.1.1 hvk hb.2
      have h3 := argBack hP hvk h
      have hheld := held_of hx hcc.1.1
      have hinj : ∀ {t t' id : Id}, (t, id) ∈ m → (t', id) ∈ m → t = t' := fun h1 h2 => by
        have hfits := (cond_some hx).1
        replace hfits := (Bool.and_eq_true _ _ ▸ hfits).1
        simp only [fitsMap, Bool.and_eq_true] at hfits
        exact distinct_spec hfits.1 h1 h2
      intro cs
      obtain ⟨e, w', fr, ⟨us, hus, rfl, μ', S', hout⟩, hrest⟩ := hc.calls w (ownOf O.tb m μ3 S3) vals (muOf m μ3) S3 x y hvk rfl hin hy cs
      exact ⟨_, w', fr, ⟨_, rfl, callBack_ok h3 hheld hvk hus hc.le hin hout hout.sfrom hcc.2 hinj hK⟩, hrest⟩
    · cases hK
  | true =>
    simp only [cond_true] at hK
    obtain ⟨μ3, S3, hs3, hm3, hP⟩ := prepNP_ok s.pin hA
    generalize prepNP s.pin (argSt s.k args st) = q at hK hP
    obtain ⟨m, st3⟩ := q
    simp only at hK hP
    have hcc := (cond_some hK).1
    replace hK := (cond_some hK).2
    simp only [Bool.and_eq_true, Bool.not_true, Bool.false_or] at hcc
    split at hK
    · rename_i x hx
      obtain ⟨y, hy, hK⟩ := Option.bind_eq_some_iff.1 hK
      have hin := enter_ok hP hx hcc.1.1 hvk hb.2
      have hheld3 := held_of hx hcc.1.1
      have hinj : ∀ {t t' id : Id}, (t, id) ∈ m → (t', id) ∈ m → t = t' := fun h1 h2 => by
        have hfits := (cond_some hx).1
        replace hfits := (Bool.and_eq_true _ _ ▸ hfits).1
        simp only [fitsMap, Bool.and_eq_true] at hfits
        exact distinct_spec hfits.1 h1 h2
      have hmu : ∀ t id, (t, id) ∈ m → ∃ v, μ3 id = some v ∧ μ id = some v := by
        intro t id hm
        have hne := (hheld3 t id hm).2
        cases hh : st3.heap id with
        | none => exact absurd hh hne
        | some b =>
          obtain ⟨v, h1, _⟩ := hP.blks id b hh
          exact ⟨v, h1, hm3 id v h1⟩
      have hheld : ∀ t id, (t, id) ∈ m → look m t = some id ∧ st.heap id ≠ none := by
        intro t id hm
        refine ⟨(hheld3 t id hm).1, fun hn => ?_⟩
        obtain ⟨v, _, h2⟩ := hmu t id hm
        rw [h.dom id hn] at h2; cases h2
      have e1 : muOf m μ3 = muOf m μ := by
        funext t
        unfold muOf
        cases hl : look m t with
        | none => rfl
        | some id => obtain ⟨v, h1, h2⟩ := hmu t id (look_mem hl); simp [h1, h2]
      have e2 : ownOf O.tb m μ3 S3 = ownOf O.tb m μ S3 := by
        unfold ownOf
        rw [e1]
        congr 1
        funext b
        apply propext
        constructor
        · rintro ⟨t, id, hv, h1, h2, h3⟩
          obtain ⟨v, g1, g2⟩ := hmu t id h1
          rw [h2] at g1; cases g1
          exact ⟨t, id, hv, h1, g2, h3⟩
        · rintro ⟨t, id, hv, h1, h2, h3⟩
          obtain ⟨v, g1, g2⟩ := hmu t id h1
          rw [h2] at g2; cases g2
          exact ⟨t, id, hv, h1, g1, h3⟩
      have hin : Rel s.k w (ownOf O.tb m μ3 S3) (muOf m μ3) S3 (mk s.pin x) ⟨vals, []⟩ w := hin
      rw [e2, e1] at hin
      intro cs
      obtain ⟨e, w', fr, ⟨us, hus, rfl, μ', S', hout⟩, hrest⟩ := hc.calls w (ownOf O.tb m μ S3) vals (muOf m μ) S3 x y hvk rfl hin hy cs
      exact ⟨_, w', fr, ⟨_, rfl, callBack_ok h hheld hvk hus hc.le hin (rel_toFlat hcc.1.2 hout) (fun b hb => hb.elim) hcc.2 hinj hK⟩, hrest⟩
    · cases hK

/-! ### Tables of functions -/
abbrev Hand (R : Type) := FuncId → Nat → List AV → St → (AV → St → Option R) → Option R
def handNil {R : Type} : Hand R := fun _ _ _ _ _ => none
def handCons {R : Type} (f : FuncId) (brw : Bool) (s : Summ) (rest : Hand R) : Hand R := fun g dn args st K => bif Nat.beq g f then callSum brw s dn args st K else rest g dn args st K
theorem handNil_ok : HandF P nt (handNil : Hand R) := fun _ _ _ _ _ _ _ _ _ _ _ _ _ _ _ h => by cases h
theorem handCons_ok {f : FuncId} {brw : Bool} {s : Summ} {rest : Hand R} (hc : Con P f s.k s.nr s.np s.pin s.pout s.impl) (hr : HandF P nt rest) : HandF P nt (handCons f brw s rest) := by
  intro w0 O μ S st a w g dn args vals K r h ha hK
  unfold handCons at hK
  cases hb : Nat.beq g f with
  | true =>
    rw [hb] at hK
    have := Nat.eq_of_beq_eq_true hb
    subst this
    exact .inr (callSum_ok hc h ha hK)
  | false =>
    rw [hb] at hK
    exact hr w0 O μ S st a w g dn args vals K r h ha hK
end
end Go.Proofs.YtjjepjfjikefiaaB
