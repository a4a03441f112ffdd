/- The core, part 25: tables of types, looked over by the kernel. -/
import Derived.Test.YtjjepjfjikefiaaB24
set_option linter.unusedVariables false
namespace Go.Proofs.YtjjepjfjikefiaaB
open Go

def cellZero : Cell → Value → Bool
  | .d (.int k) n, v => match v with | .int k' m => decide (k = k') && decide ((n : Int) = m) | _ => false
  | .d .bool b, v => match v with | .bool b' => decide ((b : Bool) = b') | _ => false
  | .d .str s, v => match v with | .string x => decide ((s : List UInt8) = x.data.toList) | _ => false
  | .nilS, v => match v with | .slice none 0 0 => true | _ => false
  | .nilp, v => match v with | .pointer none => true | _ => false
  | .nilfn, v => match v with | .nilFunc => true | _ => false
  | .nilif, v => match v with | .nilIface => true | _ => false
  | .undef, v => v.oneCell'
  | _, _ => false
def zeroMatch : List Cell → List Value → Bool
  | [], [] => true
  | c :: cs, v :: vs => cellZero c v && zeroMatch cs vs
  | _, _ => false

theorem cellZero_ok {c : Cell} {v : Value} (h : cellZero c v = true) (μ : Id → Option Value) (S : Nat → Prop) (w : World) : CellRel μ S w c v := by
  unfold cellZero at h
  split at h
  · split at h
    · simp only [Bool.and_eq_true, decide_eq_true_eq] at h
      obtain ⟨rfl, rfl⟩ := h
      exact (rfl : [Value.int _ _] = _)
    · cases h
  · split at h
    · simp only [decide_eq_true_eq] at h
      subst h
      exact (rfl : [Value.bool _] = _)
    · cases h
  · split at h
    · simp only [decide_eq_true_eq] at h
      exact ⟨_, rfl, h.symm⟩
    · cases h
  · split at h
    · exact (rfl : Value.slice none 0 0 = _)
    · cases h
  · split at h
    · exact (rfl : Value.pointer none = _)
    · cases h
  · split at h
    · exact (rfl : Value.nilFunc = _)
    · cases h
  · split at h
    · exact (rfl : Value.nilIface = _)
    · cases h
  · exact h
  · cases h

theorem zeroMatch_ok : ∀ {cs : List Cell} {vs : List Value}, zeroMatch cs vs = true → ∀ (μ : Id → Option Value) (S : Nat → Prop) (w : World), All2 (CellRel μ S w) cs vs
  | [], [], _, _, _, _ => trivial
  | c :: cs, v :: vs, h, μ, S, w => by
    simp only [zeroMatch, Bool.and_eq_true] at h
    exact ⟨cellZero_ok h.1 μ S w, zeroMatch_ok h.2 μ S w⟩
  | [], _ :: _, h, _, _, _ => by simp [zeroMatch] at h
  | _ :: _, [], h, _, _, _ => by simp [zeroMatch] at h

def dfltMatch : Ty → List Value → Option (List Value)
  | .unit, vs => some vs
  | .last t, vs => dfltMatch t vs
  | .prod a b, vs => match dfltMatch a vs with | some vs => dfltMatch b vs | none => none
  | .int k, v :: vs => match v with | .int k' n => bif decide (k = k') && decide (n = 0) then some vs else none | _ => none
  | .bool, v :: vs => match v with | .bool false => some vs | _ => none
  | .str, v :: vs => match v with | .string s => bif s.data.toList.isEmpty then some vs else none | _ => none
  | .sl _, v :: vs => match v with | .slice none 0 0 => some vs | _ => none
  | _, [] => none

theorem dfltMatch_ok : ∀ {t : Ty} {vs rest : List Value}, dfltMatch t vs = some rest → ∃ v1, vs = v1 ++ rest ∧ ∀ S w, Reads S w t t.dflt v1
  | .unit, vs, rest, h => by simp only [dfltMatch, Option.some.injEq] at h; subst h; exact ⟨[], rfl, fun _ _ => rfl⟩
  | .last t, vs, rest, h => by
    obtain ⟨v1, e, h1⟩ := dfltMatch_ok (t := t) h
    exact ⟨v1, e, h1⟩
  | .prod a b, vs, rest, h => by
    unfold dfltMatch at h
    split at h
    · rename_i vs' ha
      obtain ⟨v1, rfl, h1⟩ := dfltMatch_ok ha
      obtain ⟨v2, rfl, h2⟩ := dfltMatch_ok h
      exact ⟨v1 ++ v2, by simp, fun S w => ⟨v1, v2, rfl, h1 S w, h2 S w⟩⟩
    · cases h
  | .int k, v :: vs, rest, h => by
    unfold dfltMatch at h
    split at h
    · have h1 := (cond_some h).1
      have h2 := (cond_some h).2
      simp only [Bool.and_eq_true, decide_eq_true_eq] at h1
      obtain ⟨rfl, rfl⟩ := h1
      simp only [Option.some.injEq] at h2
      subst h2
      exact ⟨[_], rfl, fun _ _ => (rfl : [Value.int _ _] = _)⟩
    · cases h
  | .bool, v :: vs, rest, h => by
    unfold dfltMatch at h
    split at h
    · simp only [Option.some.injEq] at h
      subst h
      exact ⟨[_], rfl, fun _ _ => (rfl : [Value.bool _] = _)⟩
    · cases h
  | .str, v :: vs, rest, h => by
    unfold dfltMatch at h
    split at h
    · rename_i s
      have h1 := (cond_some h).1
      have h2 := (cond_some h).2
      simp only [Option.some.injEq] at h2
      subst h2
      refine ⟨[_], rfl, fun _ _ => ⟨s, rfl, ?_⟩⟩
      cases hs : s.data.toList with
      | nil => rfl
      | cons _ _ => rw [hs] at h1; cases h1
    · cases h
  | .sl t, v :: vs, rest, h => by
    unfold dfltMatch at h
    split at h
    · simp only [Option.some.injEq] at h
      subst h
      exact ⟨[_], rfl, fun _ _ => ⟨none, 0, rfl, Nat.le_refl _, fun hn => absurd rfl hn⟩⟩
    · cases h
  | .int _, [], _, h => by simp [dfltMatch] at h
  | .bool, [], _, h => by simp [dfltMatch] at h
  | .str, [], _, h => by simp [dfltMatch] at h
  | .sl _, [], _, h => by simp [dfltMatch] at h

def dataB (P : Program) (t : TypeId) : Ty → Bool
  | .int k => match P.underlying t with | some (.int k') => decide (k' = k) | _ => false
  | .str => match P.underlying t with | some .string => true | _ => false
  | .bool => match P.underlying t with | some .bool => true | _ => false
  | _ => true
theorem dataB_ok {P : Program} {t : TypeId} {ty : Ty} (h : dataB P t ty = true) : DataOK P t ty := by
  cases ty <;> simp only [dataB, DataOK] at h ⊢
  · split at h
    · rename_i hu; simp only [decide_eq_true_eq] at h; rw [hu, h]
    · cases h
  · split at h
    · assumption
    · cases h
  · split at h
    · assumption
    · cases h

def kindB (P : Program) (t : TypeId) : TKind → Bool
  | .scalar => match P.underlying t with | some (.struct _) | some (.array _ _) | none => false | some _ => true
  | .struct fs => match P.underlying t with
    | some (.struct fields) => decide (fields.toList.mapM (fun (f : Field) => (P.info? f.type).map fun i => (f.offset, i.size)) = some fs) && fs.all (fun p => Nat.blt 0 p.2)
    | _ => false
  | .slice e => match P.underlying t with | some (.slice e') => Nat.beq e' e | _ => false
  | .iface => match P.underlying t with | some (.interface _) => true | _ => false
  | .bld _ => match P.underlying t with | some (.struct _) => true | _ => false
  | .map kt vt => match P.underlying t with
    | some (.map kT vT) => (match kt with | .int k => dataB P kT (.int k) | .str => dataB P kT .str | _ => false) &&
      (match P.info? vT with
        | some i => match i.zero with
          | some z => (match dfltMatch vt z.cells.toList with | some [] => true | _ => false) && (match z with | .agg _ => vt.isAgg | _ => !vt.isAgg && z.oneCell')
          | none => false
        | none => false)
    | _ => false
theorem kindB_ok {P : Program} {t : TypeId} {k : TKind} (h : kindB P t k = true) : KindOK P t k := by
  cases k with
  | scalar =>
    simp only [kindB] at h
    split at h
    all_goals first | (cases h; done) | skip
    rename_i d h1 h2 hu
    refine ⟨d, hu, ?_⟩
    cases d <;> first | rfl | exact (h1 _ rfl).elim | exact (h2 _ _ rfl).elim
  | struct fs =>
    simp only [kindB] at h
    split at h
    · rename_i fields hu
      simp only [Bool.and_eq_true, decide_eq_true_eq] at h
      exact ⟨fields, hu, h.1, h.2⟩
    · cases h
  | slice e =>
    simp only [kindB] at h
    split at h
    · rename_i e' hu; have := Nat.eq_of_beq_eq_true h; subst this; exact hu
    · cases h
  | iface =>
    simp only [kindB] at h
    split at h
    · rename_i ms hu; exact ⟨ms, hu⟩
    · cases h
  | bld e =>
    simp only [kindB] at h
    split at h
    · rename_i ms hu; exact ⟨ms, hu⟩
    · cases h
  | map kt vt =>
    simp only [kindB] at h
    split at h
    · rename_i kT vT hu
      simp only [Bool.and_eq_true] at h
      obtain ⟨h1, h2⟩ := h
      refine ⟨kT, vT, hu, ?_, ?_⟩
      · cases kt <;> simp only at h1 <;> first | exact dataB_ok h1 | cases h1
      · split at h2
        · rename_i i hi
          split at h2
          · rename_i z hz
            simp only [Bool.and_eq_true] at h2
            obtain ⟨h3, h4⟩ := h2
            refine ⟨i, z, hi, hz, ?_, ?_, ?_⟩
            · split at h3
              · rename_i hd
                obtain ⟨v1, e, hr⟩ := dfltMatch_ok hd
                rw [List.append_nil] at e
                rw [e]; exact hr
              · cases h3
            · intro ha
              split at h4
              · exact ⟨_, rfl⟩
              · rw [ha] at h4; simp at h4
            · intro ha
              split at h4
              · rw [ha] at h4; cases h4
              · simp only [Bool.and_eq_true] at h4; exact h4.2
          · cases h2
        · cases h2
    · cases h

def tiB (P : Program) (t : TypeId) (ti : TI) : Bool := match P.info? t with
  | some i => match i.zero with
    | some z => Nat.beq i.size ti.zero.length && Nat.beq i.bytes ti.bytes && zeroMatch ti.zero z.cells.toList && kindB P t ti.kind &&
      (match ti.data with
        | none => true
        | some ty => (match dfltMatch ty z.cells.toList with | some [] => true | _ => false) && Nat.beq ty.sz ti.zero.length && Nat.blt 0 ty.sz && (ty.isAgg == ti.agg) && dataB P t ty && Nat.blt 0 ti.bytes)
    | none => false
  | none => false
theorem tiB_ok {P : Program} {t : TypeId} {ti : TI} (h : tiB P t ti = true) : TIok P t ti := by
  unfold tiB at h
  split at h
  · rename_i i hi
    split at h
    · rename_i z hz
      simp only [Bool.and_eq_true] at h
      obtain ⟨⟨⟨⟨h1, h2⟩, h3⟩, h4⟩, h5⟩ := h
      refine ⟨⟨i, z, hi, hz, Nat.eq_of_beq_eq_true h1, Nat.eq_of_beq_eq_true h2, fun μ S w => zeroMatch_ok h3 μ S w, fun ty hty S w => ?_⟩, kindB_ok h4, fun ty hty => ?_⟩
      · rw [hty] at h5
        simp only [Bool.and_eq_true] at h5
        obtain ⟨⟨⟨⟨⟨g1, g2⟩, g3⟩, g4⟩, g5⟩, g6⟩ := h5
        split at g1
        · rename_i hd
          obtain ⟨v1, e, hr⟩ := dfltMatch_ok hd
          rw [List.append_nil] at e
          rw [e]; exact hr S w
        · cases g1
      · rw [hty] at h5
        simp only [Bool.and_eq_true] at h5
        obtain ⟨⟨⟨⟨⟨g1, g2⟩, g3⟩, g4⟩, g5⟩, g6⟩ := h5
        exact ⟨Nat.eq_of_beq_eq_true g2, Nat.le_of_ble_eq_true g3, by simpa using g4, dataB_ok g5, Nat.le_of_ble_eq_true g6⟩
    · cases h
  · cases h

def eqFieldsB (P : Program) : Nat → List Ty → List Field → Bool
  | _, [], [] => true
  | j, ty :: ts, f :: fs => decide (f.name ≠ "_") && dataB P f.type ty && (match ty with | .int _ | .bool | .str => true | _ => false) && Nat.beq f.offset j && eqFieldsB P (j + 1) ts fs
  | _, _, _ => false
theorem eqFieldsB_ok {P : Program} : ∀ {ts : List Ty} {fs : List Field} {j : Nat}, eqFieldsB P j ts fs = true →
    All2 (fun (ty : Ty) (f : Field) => f.name ≠ "_" ∧ DataOK P f.type ty ∧ (match ty with | .int _ | .bool | .str => true | _ => false) = true) ts fs ∧ ∀ (i : Nat) (f : Field), fs[i]? = some f → f.offset = j + i
  | [], [], j, _ => ⟨trivial, fun i f h => by simp at h⟩
  | ty :: ts, f :: fs, j, h => by
    simp only [eqFieldsB, Bool.and_eq_true, decide_eq_true_eq] at h
    obtain ⟨⟨⟨⟨h1, h2⟩, h3⟩, h4⟩, h5⟩ := h
    obtain ⟨g1, g2⟩ := eqFieldsB_ok h5
    refine ⟨⟨⟨h1, dataB_ok h2, h3⟩, g1⟩, fun i f' hf => ?_⟩
    cases i with
    | zero => simp only [List.getElem?_cons_zero, Option.some.injEq] at hf; subst hf; simpa using Nat.eq_of_beq_eq_true h4
    | succ i => simp only [List.getElem?_cons_succ] at hf; rw [g2 i f' hf]; omega
  | [], _ :: _, j, h => by simp [eqFieldsB] at h
  | _ :: _, [], j, h => by simp [eqFieldsB] at h
def eqB (P : Program) (t : TypeId) (ts : List Ty) : Bool := (match P.underlying t with | some (.struct _) => true | _ => false) && !P.stoodInHeld t && !P.eqGuardType P.depth t && eqFieldsB P 0 ts (P.fieldsOf t).toList
theorem eqB_ok {P : Program} {t : TypeId} {ts : List Ty} (h : eqB P t ts = true) : EqOK P t ts := by
  simp only [eqB, Bool.and_eq_true, Bool.not_eq_true'] at h
  obtain ⟨⟨⟨h1, h2⟩, h3⟩, h4⟩ := h
  obtain ⟨g1, g2⟩ := eqFieldsB_ok h4
  refine ⟨?_, h2, h3, g1, fun j f hf => by simpa using g2 j f hf⟩
  split at h1
  · rename_i fs hu; rw [hu]; simp [Program.fieldsOf, hu]
  · cases h1

abbrev Tab := List (Nat × TI)
def tabOf : Tab → Nat → Option TI
  | [], _ => none
  | (t, ti) :: l, x => bif Nat.beq x t then some ti else tabOf l x
def tabB (P : Program) : Tab → Bool
  | [] => true
  | (t, ti) :: l => tiB P t ti && (match ti.eqf with | some ts => eqB P t ts | none => true) && tabB P l
theorem tabOf_mem : ∀ {l : Tab} {t : Nat} {ti : TI}, tabOf l t = some ti → (t, ti) ∈ l
  | [], _, _, h => by simp [tabOf] at h
  | (t', ti') :: l, t, ti, h => by
    unfold tabOf at h
    cases hb : Nat.beq t t' with
    | true =>
      rw [hb] at h
      simp only [cond_true, Option.some.injEq] at h
      rw [Nat.eq_of_beq_eq_true hb, h]; simp
    | false => rw [hb] at h; exact List.mem_cons_of_mem _ (tabOf_mem h)
theorem tabB_mem {P : Program} : ∀ {l : Tab}, tabB P l = true → ∀ q ∈ l, tiB P q.1 q.2 = true ∧ ∀ ts, q.2.eqf = some ts → eqB P q.1 ts = true
  | [], _, q, hq => by simp at hq
  | p :: l, h, q, hq => by
    simp only [tabB, Bool.and_eq_true] at h
    rcases List.mem_cons.1 hq with rfl | hq
    · refine ⟨h.1.1, fun ts hts => ?_⟩
      have := h.1.2
      rw [hts] at this
      exact this
    · exact tabB_mem h.2 q hq
theorem tab_ok {R : Type} {P : Program} {l : Tab} (h : tabB P l = true) {cx : Ctx R} (hc : cx.tb = tabOf l) : TabOK P cx where
  ti := fun t ti ht => tiB_ok (tabB_mem h _ (tabOf_mem (hc ▸ ht))).1
  eq := fun t ts ht => by
    rw [hc] at ht
    unfold eqfOf at ht
    split at ht
    · rename_i ti hti; exact eqB_ok ((tabB_mem h _ (tabOf_mem hti)).2 ts ht)
    · cases ht
end Go.Proofs.YtjjepjfjikefiaaB
