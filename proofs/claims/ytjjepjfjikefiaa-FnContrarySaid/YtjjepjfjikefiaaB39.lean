/- The core, part 39: drawn regions in which what is read is taken first. -/
import Derived.Test.YtjjepjfjikefiaaB28
import Derived.OrdersHeld
set_option linter.unusedVariables false
namespace Go.Proofs.YtjjepjfjikefiaaB
open Go

section
variable {R : Type} {P : Program} {nt : Nat} {w0 w1 : World} {O : Own} {μ μ1 : Id → Option Value} {S : Nat → Prop} {st : St} {a : Act} {w : World} {o : Oper} {K : St → Option R} {r : R} {Q : Exit → Act → World → Prop}

/-! ### Calls told from data to data -/
def dataCS : CS → Bool
  | .d _ | .any | .nilp | .nilfn | .nilif | .err => true
  | _ => false
def dataPin (p : Tpl) : Bool := p.heap.isEmpty && p.env.all fun s => s.l.all dataCS
theorem prepC_data {p : List (Id × BS)} {loc : Loc} : ∀ {l : List CS} {j : Nat} {m : IdMap} {st : St}, l.all dataCS = true → (prepC p loc l j m st).1 = m
  | [], _, _, _, _ => rfl
  | c :: l, j, m, st, h => by
    simp only [List.all_cons, Bool.and_eq_true] at h
    cases c <;> first | (simp [dataCS] at h; done) | exact prepC_data (l := l) h.2
theorem prepEnv_data {p : List (Id × BS)} : ∀ {l : List Slot} {m : IdMap} {st : St}, (l.all fun s => s.l.all dataCS) = true → (prepEnv p l m st).1 = m
  | [], _, _, _ => rfl
  | s :: l, m, st, h => by
    simp only [List.all_cons, Bool.and_eq_true] at h
    have h1 := prepC_data (p := p) (loc := .tmp s.t) (j := 0) (m := m) (st := st) h.1
    show (prepEnv p l (prepC p (.tmp s.t) s.l 0 m st).1 (prepC p (.tmp s.t) s.l 0 m st).2).1 = m
    rw [h1]
    exact prepEnv_data h.2
theorem prepNP_data {p : Tpl} (h : dataPin p = true) (st : St) : (prepNP p st).1 = [] := by
  simp only [dataPin, Bool.and_eq_true, List.isEmpty_iff] at h
  unfold prepNP
  have h1 := prepEnv_data (p := []) (m := []) (st := st) h.2
  generalize prepEnv [] p.env [] st = q at h1 ⊢
  obtain ⟨m, st'⟩ := q
  simp only at h1 ⊢
  subst h1
  rw [h.1]
  rfl

theorem callData_ok {f : FuncId} {s : Summ} (hc : Con P f s.k s.nr s.np s.pin s.pout s.impl) (hdp : dataPin s.pin = true) (hqh : s.pout.heap = []) {dn : Nat} {args : List AV} {vals : Array Value} {KV : AV → St → Option R} (h : Rel nt w0 O μ S st a w) (ha : All2 (AVRel μ S w) args vals.toList)
    (hK : callSum true s dn args st KV = some r) : (callFunc f vals).run P w = .ok (.enter f vals) w ∧ Calls P f vals w fun e w' => ∃ u, e = .returned u ∧ (∃ v st' S', KV v st' = some r ∧ AVRel μ S' w' v u ∧ Rel nt w0 O μ S' st' a w') ∧ ∀ k, k < w.heap.size → w'.heap[k]? = w.heap[k]? := by
  refine ⟨hc.enter vals w, ?_⟩
  unfold callSum at hK
  have hb := (cond_some hK).1
  replace hK := (cond_some hK).2
  simp only [Bool.and_eq_true] at hb
  have hlen := Nat.eq_of_beq_eq_true hb.1
  have hvk : vals.size = s.k := by rw [← Array.length_toList, ← ha.length, hlen]
  have hA := argSt_ok h ha hlen
  simp only [cond_true] at hK
  obtain ⟨μ3, S3, hs3, hm3, hP⟩ := prepNP_ok s.pin hA
  have hm0 := prepNP_data hdp (argSt s.k args st)
  generalize prepNP s.pin (argSt s.k args st) = q at hK hP hm0
  obtain ⟨m, st3⟩ := q
  simp only at hK hP hm0
  subst hm0
  have hcc := (cond_some hK).1
  replace hK := (cond_some hK).2
  simp only [Bool.and_eq_true, Bool.not_true, Bool.false_or] at hcc
  split at hK
  · rename_i x hx
    obtain ⟨y, hy, hK⟩ := Option.bind_eq_some_iff.1 hK
    have hin := enter_ok hP hx hcc.1.1 hvk hb.2
    have e1 : muOf [] μ3 = muOf [] μ := rfl
    have hown : ∀ b, ¬ (ownOf O.tb [] μ S3).o b := by
      rintro b ⟨t, id, hv, h1, _⟩
      cases h1
    have e2 : ownOf O.tb [] μ3 S3 = ownOf O.tb [] μ S3 := by
      unfold ownOf
      congr 1
      funext b
      apply propext
      constructor <;> (rintro ⟨t, id, hv, h1, _⟩; cases h1)
    have hin : Rel s.k w (ownOf O.tb [] μ3 S3) (muOf [] μ3) S3 (mk s.pin x) ⟨vals, []⟩ w := hin
    rw [e2, e1] at hin
    intro cs
    obtain ⟨e, w', fr, ⟨us, hus, rfl, μ', S', hout⟩, hrest⟩ := hc.calls w (ownOf O.tb [] μ S3) vals (muOf [] μ) S3 x y hvk rfl hin hy cs
    refine ⟨_, w', fr, ⟨_, rfl, ?_, fun k hk => hout.frame k hk (hown k)⟩, hrest⟩
    have hout := rel_toFlat hcc.1.2 hout
    unfold callBack at hK
    simp only at hK
    have hc2 := (cond_some hK).1
    replace hK := (cond_some hK).2
    simp only [Bool.and_eq_true] at hc2
    split at hK
    · rename_i vs lost hvs
      obtain ⟨hrel, hback⟩ := back_ok (base := 1000000000 + 1000 * dn) h (fun t id hm => by cases hm) hvk hus hc.le hin hout (fun b hb => hb.elim) hcc.2 (by omega) (fun h1 _ => by cases h1) hc2.1 hc2.2 rfl rfl
      have hmm : newMap (1000000000 + 1000 * dn) [] s.pout.heap = [] := by rw [hqh]; rfl
      have hmu : backMu [] (newMap (1000000000 + 1000 * dn) [] s.pout.heap) μ μ' = μ := by rw [hmm]; rfl
      rw [hmu] at hrel hback
      refine ⟨_, _, _, hK, ?_, hrel⟩
      have := resV_ok (S2 := fun b => S b ∨ False) hback (fun b hb => .inr hb) (U := us ++ (vals.toList.take s.np).toArray) hout.env hvs
      refine resA_ok ?_
      have he : ((List.range' 0 s.nr).map fun t => (us ++ (vals.toList.take s.np).toArray).getD t undef) = us.toList := by
        apply List.ext_getElem?
        intro i
        rw [List.getElem?_map]
        rcases Nat.lt_or_ge i s.nr with hi | hi
        · rw [List.getElem?_range' hi]
          simp only [Option.map_some, Array.getElem?_toList, Nat.zero_add, Nat.one_mul]
          rw [Array.getD_eq_getD_getElem?, Array.getElem?_append_left (by omega), Array.getElem?_eq_getElem (by omega)]
          rfl
        · rw [List.getElem?_eq_none (by simpa using hi), Array.getElem?_toList, Array.getElem?_eq_none (by omega)]; rfl
      rw [he] at this
      exact this
    · cases hK
  · cases hK

/-! ### What the handler owes of such calls -/
def HandD (P : Program) (nt : Nat) (q : FuncId → Bool) (hd : Hand R) : Prop :=
  ∀ (w0 : World) (O : Own) (μ : Id → Option Value) (S : Nat → Prop) (st : St) (a : Act) (w : World) (g : FuncId) (dn : Nat) (args : List AV) (vals : Array Value) (K : AV → St → Option R) (r : R), q g = true →
    Rel nt w0 O μ S st a w → All2 (AVRel μ S w) args vals.toList → hd g dn args st K = some r →
      (callFunc g vals).run P w = .ok (.enter g vals) w ∧ Calls P g vals w fun e w' => ∃ u, e = .returned u ∧ (∃ v st' S', K v st' = some r ∧ AVRel μ S' w' v u ∧ Rel nt w0 O μ S' st' a w') ∧ ∀ k, k < w.heap.size → w'.heap[k]? = w.heap[k]?
theorem handNil_D {q : FuncId → Bool} : HandD P nt q (handNil : Hand R) := fun _ _ _ _ _ _ _ _ _ _ _ _ _ _ _ _ h => by cases h
/-- one function more, of which it is asked -/
theorem handAt_D {f : FuncId} {dns : List Nat} {s : Summ} {q : FuncId → Bool} {rest : Hand R} (hc : Con P f s.k s.nr s.np s.pin s.pout s.impl) (hdp : dataPin s.pin = true) (hqh : s.pout.heap = []) (hr : HandD P nt q rest) : HandD P nt q (handAt f dns true s rest) := by
  intro w0 O μ S st a w g dn args vals K r hq h ha hK
  unfold handAt at hK
  cases hb : (Nat.beq g f && hasId dns dn) with
  | true =>
    rw [hb] at hK
    simp only [Bool.and_eq_true] at hb
    have := Nat.eq_of_beq_eq_true hb.1
    subst this
    exact callData_ok hc hdp hqh h ha hK
  | false =>
    rw [hb] at hK
    exact hr w0 O μ S st a w g dn args vals K r hq h ha hK
/-- one function more, of which it is not -/
theorem handAt_D' {f : FuncId} {dns : List Nat} {brw : Bool} {s : Summ} {q : FuncId → Bool} {rest : Hand R} (hq' : q f = false) (hr : HandD P nt q rest) : HandD P nt q (handAt f dns brw s rest) := by
  intro w0 O μ S st a w g dn args vals K r hq h ha hK
  unfold handAt at hK
  cases hb : (Nat.beq g f && hasId dns dn) with
  | true =>
    simp only [Bool.and_eq_true] at hb
    have := Nat.eq_of_beq_eq_true hb.1
    subst this
    rw [hq'] at hq
    cases hq
  | false =>
    rw [hb] at hK
    exact hr w0 O μ S st a w g dn args vals K r hq h ha hK

/-! ### What comes in several orders -/
theorem all_of {β : Type} {l L : List (Option β)} {F : Option β} (h : l = L) (hL : ∀ q ∈ L, ∀ y, F = some y → q = some y) : ∀ q ∈ l, ∀ y, F = some y → q = some y := by rw [h]; exact hL
theorem all_nil {β : Type} {F : Option β} : ∀ q ∈ ([] : List (Option β)), ∀ y, F = some y → q = some y := fun _ h => by cases h
theorem all_cons {β : Type} {l : List (Option β)} {F a : Option β} (h : ∀ y, F = some y → a = some y) (hl : ∀ q ∈ l, ∀ y, F = some y → q = some y) : ∀ q ∈ a :: l, ∀ y, F = some y → q = some y := fun q hq => by
  rcases List.mem_cons.1 hq with rfl | hq
  · exact h
  · exact hl q hq
theorem cond_someI {β : Type} {c : Bool} {x z : Option β} {y : β} : (bif c then x else z) = some y ↔ (c = true ∧ x = some y) ∨ (c = false ∧ z = some y) := by cases c <;> simp

/-! ### Orders -/
def isLoad (o : Oper) : Bool := match o.op with | .load _ _ => true | _ => false
/-- an operation whose guard says that it is not carried out -/
def skipG (all : List Oper) (o : Oper) (st : St) : Bool := match o.guard with
  | none => false
  | some (j, want) => match all[j]? with
    | some { dst := some t, .. } => match st.env t with
      | .one (.c (.d .bool b)) => bif want then !b else b
      | .tup [] => true
      | _ => false
    | _ => false
/-- a load that may be taken first: from what is not written in the region -/
def loadFirst (D : List Id) (o : Oper) (st : St) : Bool := match o.op with
  | .load _ x => match ev st x with
    | some (.one (.c (.cptr _ _ _))) => true
    | some (.one (.c (.ptr id _))) => !hasId D id
    | some (.one (.c (.eptr id _ _ _))) => !hasId D id
    | _ => false
  | _ => false
/-- what may come up in such a region -/
def quiet0 (tb : Nat → Option TI) (q : FuncId → Bool) (D : List Id) (o : Oper) (st : St) : Bool := pureOp tb o || match o.op with
  | .load _ _ => true
  | .store _ x _ => match ev st x with
    | some (.one (.c (.ptr id _))) => hasId D id
    | some (.one (.c (.eptr id _ _ _))) => hasId D id
    | _ => false
  | .call c => match c.callee with | .value (.func f) => q f | _ => false
  | .makeMap _ none => true
  | .insert _ m (.const (.int _ _)) (.const (.int _ _)) => match ev st m with
    | some (.one (.c (.map id))) => hasId D id
    | _ => false
  | .lookup _ _ _ _ => true
  | _ => false
def quietAt (tb : Nat → Option TI) (q : FuncId → Bool) (D : List Id) (all : List Oper) (o : Oper) (st : St) : Bool := quiet0 tb q D o st || skipG all o st
def firstAt (D : List Id) (all : List Oper) (o : Oper) (st : St) : Bool := loadFirst D o st || skipG all o st
def firstQ (tb : Nat → Option TI) (ops : Array Oper) (nq : List Nat) (listed : Array Bool) : Option Nat :=
  (Region.ready .any ops listed).find? fun i => (match ops[i]? with | some o => pureOp tb o || (isLoad o && !hasId nq i) | none => false) && Region.free .any ops listed i
def ordsQ (tb : Nat → Option TI) (ops : Array Oper) (nq : List Nat) : Nat → Bool → Array Bool → List (List (Nat × Bool))
  | 0, _, listed => match Region.ready .any ops listed with
    | [] => [[]]
    | _ => [[(ops.size, false)]]
  | n + 1, ph, listed => match bif ph then firstQ tb ops nq listed else firstPure tb ops listed with
    | some i => (ordsQ tb ops nq n ph (listed.setIfInBounds i true)).map ((i, match ops[i]? with | some o => !pureOp tb o | none => false) :: ·)
    | none => match Region.ready .any ops listed with
      | [] => [[]]
      | rs => rs.flatMap fun i => (ordsQ tb ops nq n false (listed.setIfInBounds i true)).map ((i, false) :: ·)
def aopsQ (cx : Ctx R) (q : FuncId → Bool) (D : List Id) (all : List Oper) : List (Nat × Bool) → St → (St → Option R) → Option R
  | [], st, K => K st
  | (i, b) :: σ, st, K => match all[i]? with
    | some o => bif quietAt cx.tb q D all o st && (!b || firstAt D all o st) then aopG cx all o st fun st => aopsQ cx q D all σ st K else none
    | none => none
theorem ordsQ_ne (tb : Nat → Option TI) (ops : Array Oper) (nq : List Nat) : ∀ (n : Nat) (ph : Bool) (listed : Array Bool), ∃ σ, σ ∈ ordsQ tb ops nq n ph listed
  | 0, ph, listed => by unfold ordsQ; split <;> simp
  | n + 1, ph, listed => by
    unfold ordsQ
    split
    · rename_i i _
      obtain ⟨σ, h⟩ := ordsQ_ne tb ops nq n ph (listed.setIfInBounds i true)
      exact ⟨_, List.mem_map.2 ⟨σ, h, rfl⟩⟩
    · split
      · simp
      · rename_i rs hne
        cases hrs : Region.ready .any ops listed with
        | nil => exact absurd hrs hne
        | cons i is =>
          obtain ⟨σ, h⟩ := ordsQ_ne tb ops nq n false (listed.setIfInBounds i true)
          exact ⟨_, List.mem_flatMap.2 ⟨i, by simp, List.mem_map.2 ⟨σ, h, rfl⟩⟩⟩
/-- from the orders that begin with i: one state behind it -/
theorem ordsQ_step {cx : Ctx R} {cs : Ctx St} {cv' : Hand (AV × St)} {q : FuncId → Bool} {D : List Id} (htb : cs.tb = cx.tb) (hnt : cs.nt = cx.nt) (hnp : cs.np = cx.np) (h1 : HandNat cx.hd cv') (h2 : HandNat cs.hd cv') {ops : Array Oper} {i : Nat} {b : Bool} {oi : Oper} (hi : ops[i]? = some oi)
    {l : List (List (Nat × Bool))} (hne : ∃ σ, σ ∈ l) (hall : ∀ σ ∈ l, aopsQ cx q D ops.toList ((i, b) :: σ) st K = some r) :
    quietAt cx.tb q D ops.toList oi st = true ∧ (b = true → firstAt D ops.toList oi st = true) ∧ ∃ s, aopG cs ops.toList oi st some = some s ∧ ∀ σ ∈ l, aopsQ cx q D ops.toList σ s K = some r := by
  have hi' : ops.toList[i]? = some oi := by rw [Array.getElem?_toList]; exact hi
  have hev : ∀ σ ∈ l, (quietAt cx.tb q D ops.toList oi st && (!b || firstAt D ops.toList oi st)) = true ∧ (aopG cs ops.toList oi st some).bind (fun st => aopsQ cx q D ops.toList σ st K) = some r := by
    intro σ hσ
    have := hall σ hσ
    unfold aopsQ at this
    simp only [hi'] at this
    have hc := cond_some this
    rw [aopG_nat cx cs cv' htb hnt hnp h1 h2] at hc
    exact hc
  obtain ⟨σ0, hσ0⟩ := hne
  obtain ⟨hq, h0⟩ := hev σ0 hσ0
  obtain ⟨s, hs, _⟩ := Option.bind_eq_some_iff.1 h0
  simp only [Bool.and_eq_true, Bool.or_eq_true, Bool.not_eq_true'] at hq
  refine ⟨hq.1, fun hb => hq.2.resolve_left (by rw [hb]; simp), s, hs, fun σ hσ => ?_⟩
  have := (hev σ hσ).2
  rw [hs] at this
  exact this

/-! ### One operation -/
theorem load_gen (h : Rel nt w0 O μ S st a w) {t : TypeId} {x : Operand} (ho : o.op = .load t x) {ti : TI} (hti : TIok P t ti) {p : Cell} (hx : ev st x = some (cv p)) {cs : List Cell} (hp : pointee st.heap p = some cs)
    {v : V1} (hv : (ti.agg = true ∧ ti.zero.length ≤ cs.length ∧ v = .agg (cs.take ti.zero.length)) ∨ (ti.agg = false ∧ ∃ c cs', cs = c :: cs' ∧ v = .c c)) :
    ∃ u b off, CellRel μ S w p (.pointer (some ⟨b, off, none⟩)) ∧ AVRel μ S w (.one v) u ∧ ∀ w', w'.heap[b]? = w.heap[b]? → (execOp a.eval o).run P w' = .ok (.value u) w' := by
  have hk : (V1.c p).known = true := by cases p <;> first | rfl | (simp [pointee] at hp)
  have hcell := cell_of (ev_ok h hx) hk
  obtain ⟨b, off, vals, hval, hat, hall⟩ := pointee_ok h hcell hp
  rw [hval] at hcell
  have hlen := hall.length
  rcases hv with ⟨ha, hle, rfl⟩ | ⟨ha, c, cs', rfl, rfl⟩
  · refine ⟨.agg (vals.take ti.zero.length).toArray, b, off, hcell, AVRel.of_V1 (c := .agg _) ⟨_, rfl, by simpa using hall.take ti.zero.length⟩, fun w' hw' => ?_⟩
    have hl : (vals.take ti.zero.length).length = ti.zero.length := by rw [List.length_take]; omega
    have hr := run_loadCells_list (P := P) w' ⟨b, off, none⟩ (vals.take ti.zero.length) (fun j u hj => by
      rw [add_plain]
      rw [List.getElem?_take] at hj
      split at hj
      · exact hat.frame hw' j u hj
      · cases hj)
    rw [hl] at hr
    simp [execOp, ho, Instr.loadAt, Instr.sureAddr, hval, loadVar, hti.kind.agg, ha, size_run hti, hr]
  · cases vals with
    | nil => exact hall.elim
    | cons u us =>
      refine ⟨u, b, off, hcell, AVRel.of_V1 (c := .c c) hall.1, fun w' hw' => ?_⟩
      have hc := hat.frame hw' 0 u (by simp)
      simp only [Nat.add_zero] at hc
      simp [execOp, ho, Instr.loadAt, Instr.sureAddr, hval, loadVar, hti.kind.agg, ha, hc]

def RBlk (μ1 : Id → Option Value) (D : List Id) (k : Nat) : Prop := ∃ id hv, hasId D id = true ∧ μ1 id = some hv ∧ blockOf hv = some k
def Still (μ1 : Id → Option Value) (D : List Id) (w1 w' : World) : Prop := w1.heap.size ≤ w'.heap.size ∧ ∀ k, k < w1.heap.size → ¬ RBlk μ1 D k → w'.heap[k]? = w1.heap[k]?

/-- what stood at the start is as it was; all else is new -/
def SubF (w1 : World) (μ μ1 : Id → Option Value) : Prop := ∀ i v, μ i = some v → μ1 i = some v ∨ ∀ k, blockOf v = some k → w1.heap.size ≤ k
theorem SubF.blk {D : List Id} {μ : Id → Option Value} (h : SubF w1 μ μ1) {id : Id} {v : Value} (hv : μ id = some v) (hD : hasId D id = true) {k : Nat} (hk : blockOf v = some k) : w1.heap.size ≤ k ∨ RBlk μ1 D k := by
  rcases h id v hv with h | h
  · exact .inr ⟨id, v, hD, h, hk⟩
  · exact .inl (h k hk)
/-- a load, in the abstract machine -/
theorem load_split {cs : Ctx St} {s : St} {t : TypeId} {x : Operand} (hK : (match cs.tb t, ev st x with
    | some ti, some (.one (.c p)) => match pointee st.heap p with
      | some cs => bif ti.agg then (bif Nat.ble ti.zero.length cs.length then some (st.put o.dst (.one (.agg (cs.take ti.zero.length)))) else none) else (match cs with | c :: _ => some (st.put o.dst (cv c)) | [] => none)
      | none => none
    | _, _ => none) = some s) : ∃ ti p cl v, cs.tb t = some ti ∧ ev st x = some (cv p) ∧ pointee st.heap p = some cl ∧
      ((ti.agg = true ∧ ti.zero.length ≤ cl.length ∧ v = V1.agg (cl.take ti.zero.length)) ∨ (ti.agg = false ∧ ∃ c cs', cl = c :: cs' ∧ v = V1.c c)) ∧ s = st.put o.dst (.one v) := by
  split at hK
  · rename_i ti p hti hx
    split at hK
    · rename_i cl hp
      cases hagg : ti.agg with
      | true =>
        simp only [hagg, cond_true] at hK
        have hle := (cond_some hK).1; replace hK := (cond_some hK).2
        simp only [Option.some.injEq] at hK
        exact ⟨ti, p, cl, _, hti, hx, hp, .inl ⟨hagg, Nat.le_of_ble_eq_true hle, rfl⟩, hK.symm⟩
      | false =>
        simp only [hagg, cond_false] at hK
        split at hK
        · rename_i c cs'
          simp only [Option.some.injEq] at hK
          exact ⟨ti, p, _, _, hti, hx, hp, .inr ⟨hagg, c, cs', rfl, rfl⟩, hK.symm⟩
        · cases hK
    · cases hK
  · cases hK

theorem skipG_ok {ops : Array Oper} (h : Rel nt w0 O μ S st a w) (hs : skipG ops.toList o st = true) : Region.wanted o (yielded ops a.tmps) = false := by
  unfold skipG at hs
  split at hs
  · cases hs
  · rename_i j want hg
    split at hs
    · rename_i t op ty pos after g hoj
      have hoj' : (ops[j]?).bind (·.dst) = some t := by
        rw [← Array.getElem?_toList, hoj]; rfl
      split at hs
      · rename_i b hb
        have hbv := bool_of (S := S) (w := w) (μ := μ) (b := b) (v := a.tmps.getD t undef) (by have := h.env t; rw [hb] at this; exact this)
        have hy : yielded ops a.tmps j = some b := by
          simp [yielded, hoj', getD_some hbv (by cases b <;> simp [undef])]
        simp only [Region.wanted, hg, hy]
        cases b <;> cases want <;> first | rfl | cases hs
      · rename_i hb
        have hbv := skip_rel (μ := μ) (S := S) (w := w) (v := a.tmps.getD t undef) (by have := h.env t; rw [hb] at this; exact this)
        have hy : yielded ops a.tmps j = none := by
          simp only [yielded, hoj', Option.bind_some]
          rw [Array.getD_eq_getD_getElem?] at hbv
          cases ht : a.tmps[t]? with
          | none => rfl
          | some u => rw [ht] at hbv; simp at hbv; subst hbv; rfl
        simp only [Region.wanted, hg, hy]
        cases want <;> rfl
      · cases hs
    · cases hs
/-- in a region whose other operations leave what it reads as it is, it yields the same -/
theorem loadFirst_ok {cs : Ctx St} (hT : TabOK P cs) (hn : nt = cs.nt) (hnp : O.np = cs.np) {ops : Array Oper} {D : List Id} {S1 : Nat → Prop} {s : St} (hl : firstAt D ops.toList o st = true)
    (h : Rel nt w0 O μ1 S1 st a w1) (hK : aopG cs ops.toList o st some = some s) : ∃ u, YieldsIf P ops (Still μ1 D w1) o u a ∧ Rel nt w0 O μ1 S1 s (a.put o.dst u) w1 := by
  obtain ⟨hd, hc⟩ := aopG_cases hn hnp h hK
  rcases hc with ⟨hwant, hK⟩ | ⟨hwant, rfl⟩
  rotate_left
  · exact ⟨undef, .inr ⟨hwant, rfl⟩, h.put hd (v := skipA) (u := undef) ⟨#[], rfl, trivial⟩⟩
  unfold firstAt at hl
  rw [Bool.or_eq_true] at hl
  replace hl := hl.resolve_right fun hs => by rw [skipG_ok h hs] at hwant; cases hwant
  unfold loadFirst at hl
  split at hl
  · rename_i t x hop
    unfold aop at hK
    simp only [hop] at hK
    obtain ⟨ti, p, cl, v, hti, hx, hp, hv, rfl⟩ := load_split hK
    obtain ⟨u, b, off, hcell, hav, hrun⟩ := load_gen h hop (hT.ti _ _ hti) hx hp hv
    have hb : b < w1.heap.size ∧ ¬ RBlk μ1 D b := by
      rw [hx] at hl
      have key : ∀ id hv, μ1 id = some hv → blockOf hv = some b → hasId D id = false → b < w1.heap.size ∧ ¬ RBlk μ1 D b := by
        intro id hv h1 h2 h3
        refine ⟨(h.own _ _ _ h1 h2).2, ?_⟩
        rintro ⟨id', hv', g1, g2, g3⟩
        have := h.sep _ _ _ _ _ h1 g2 h2 g3
        subst this
        rw [g1] at h3; cases h3
      cases p <;> simp only [Bool.not_eq_true', Bool.false_eq_true] at hl
      · obtain ⟨b', h1, h2⟩ := hcell
        simp only [Value.pointer.injEq, Option.some.injEq, Addr.mk.injEq, and_true] at h2
        obtain ⟨rfl, _⟩ := h2
        exact key _ _ h1 rfl hl
      · obtain ⟨b', N, cap, h1, _, h2⟩ := hcell
        simp only [Value.pointer.injEq, Option.some.injEq, Addr.mk.injEq, and_true] at h2
        obtain ⟨rfl, _⟩ := h2
        exact key _ _ h1 rfl hl
      · obtain ⟨b', o', cells, h2, hS, _⟩ := hcell
        simp only [Value.pointer.injEq, Option.some.injEq, Addr.mk.injEq, and_true] at h2
        obtain ⟨rfl, _⟩ := h2
        refine ⟨(h.imm _ hS).1, ?_⟩
        rintro ⟨id', hv', g1, g2, g3⟩
        exact (h.imm _ hS).2 _ _ g2 g3
    refine ⟨u, .inl ⟨hwant, fun w' hw' => hrun w' (hw'.2 b hb.1 hb.2)⟩, h.put hd hav⟩
  · cases hl

theorem store_gen (h : Rel nt w0 O μ S st a w) (hd : ∀ d, o.dst = some d → d < nt ∧ O.np ≤ d) {t : TypeId} {x y : Operand} (ho : o.op = .store t x y) {ti : TI} (hti : TIok P t ti) {p : Cell} (hx : ev st x = some (cv p)) {cs : List Cell} (hy : cellsV st y = some cs)
    (hl : cs.length = ti.zero.length) {hp : Heap} (hs : astore st.heap p cs = some hp) : ∃ b off w', a.eval x = .pointer (some ⟨b, off, none⟩) ∧ (execOp a.eval o).run P w = .ok .skip w' ∧ Rel nt w0 O μ S (({ st with heap := hp } : St).put o.dst skipA) (a.put o.dst undef) w' ∧ w.grownBy w' (some b) := by
  have hk : (V1.c p).known = true := by cases p <;> first | rfl | (simp [astore] at hs)
  have hcs := cellsV_ok h hy
  obtain ⟨b, off, w', hv, hrun, hrel, hg⟩ := astore_ok (P := P) h (cell_of (ev_ok h hx) hk) hcs hs
  have hsz : (a.eval y).cells.size = ti.zero.length := by rw [← Array.length_toList, ← hcs.length, hl]
  refine ⟨b, off, w', hv, ?_, hrel.put hd (v := skipA) (u := undef) ⟨#[], rfl, trivial⟩, hg⟩
  simp [execOp, ho, Instr.storeAt, Instr.sureAddr, hv, storeVar, size_run hti, hsz, hrun]

theorem Still.grown {D : List Id} {w' : World} {row : Option Nat} (h : Still μ1 D w1 w) (hg : w.grownBy w' row) (hr : ∀ k, row = some k → w1.heap.size ≤ k ∨ RBlk μ1 D k) : Still μ1 D w1 w' :=
  ⟨Nat.le_trans h.1 hg.size, fun k hk hn => (hg.block k (Nat.lt_of_lt_of_le hk h.1) fun e => (hr k e.symm).elim (fun h => by omega) hn).trans (h.2 k hk hn)⟩

theorem quiet_step {cs : Ctx St} (hT : TabOK P cs) (hn : nt = cs.nt) (hnp : O.np = cs.np) {q : FuncId → Bool} (hD : HandD P nt q cs.hd) {ops : Array Oper} {i : Nat} (hi : ops[i]? = some o) {D : List Id} (hq : quietAt cs.tb q D ops.toList o st = true)
    (h : Rel nt w0 O μ S st a w) (hsub : SubF w1 μ μ1) (hSW : Still μ1 D w1 w) {s : St} (hK : aopG cs ops.toList o st some = some s) :
    wpOp P ops Q i (fun a' w' => Still μ1 D w1 w' ∧ ∃ μ' S', SubF w1 μ' μ1 ∧ Rel nt w0 O μ' S' s a' w') a w := by
  have hK0 := hK
  obtain ⟨hd, hc⟩ := aopG_cases hn hnp h hK
  rcases hc with ⟨hwant, hK⟩ | ⟨hwant, rfl⟩
  rotate_left
  · have hy : YieldsIf P ops (fun _ => True) o undef a := .inr ⟨hwant, rfl⟩
    exact hy.wpOp hi trivial ⟨hSW, μ, S, hsub, h.put hd (v := skipA) (u := undef) ⟨#[], rfl, trivial⟩⟩
  unfold quietAt at hq
  rw [Bool.or_eq_true] at hq
  replace hq := hq.resolve_right fun hs => by rw [skipG_ok h hs] at hwant; cases hwant
  unfold quiet0 at hq
  cases hp : pureOp cs.tb o with
  | true =>
    obtain ⟨u, hy, h'⟩ := pure_yields hT hn hnp hp h hK0
    exact (hy.yieldsIf (S := fun _ => True)).wpOp hi trivial ⟨hSW, μ, S, hsub, h'⟩
  | false =>
    rw [hp, Bool.false_or] at hq
    unfold aop at hK
    split at hq
    · rename_i t x hop
      simp only [hop] at hK
      obtain ⟨ti, p, cl, v, hti, hx, hp, hv, rfl⟩ := load_split hK
      obtain ⟨u, b, off, _, hav, hrun⟩ := load_gen h hop (hT.ti _ _ hti) hx hp hv
      have hy : YieldsIf P ops (fun w' => w' = w) o u a := .inl ⟨hwant, fun w' e => by subst e; exact hrun _ rfl⟩
      exact hy.wpOp hi rfl ⟨hSW, μ, S, hsub, h.put hd hav⟩
    · rename_i t x y hop
      have key : ∀ (st1 : St) (μ' : Id → Option Value) (S' : Nat → Prop), SubF w1 μ' μ1 → Rel nt w0 O μ' S' st1 a w → (∀ b off, a.eval x = .pointer (some ⟨b, off, none⟩) → w1.heap.size ≤ b ∨ RBlk μ1 D b) →
          (match cs.tb t, ev st1 x, cellsV st1 y with
          | some ti, some (.one (.c p)), some cl => bif Nat.beq cl.length ti.zero.length then (match astore st1.heap p cl with | some h => some (({ st1 with heap := h } : St).put o.dst skipA) | none => none) else none
          | _, _, _ => none) = some s → wpOp P ops Q i (fun a' w' => Still μ1 D w1 w' ∧ ∃ μ' S', SubF w1 μ' μ1 ∧ Rel nt w0 O μ' S' s a' w') a w := by
        intro st1 μ' S' hsub1 h1 hblk hK
        split at hK
        · rename_i ti p cl hti hx hy
          have hle := (cond_some hK).1; replace hK := (cond_some hK).2
          split at hK
          · rename_i hp hs
            simp only [Option.some.injEq] at hK
            subst hK
            obtain ⟨b, off, w', hv, hrun, hrel, hgr⟩ := store_gen h1 hd hop (hT.ti _ _ hti) hx hy (Nat.eq_of_beq_eq_true hle) hs
            unfold wpOp
            simp only [hi, hwant, if_true]
            left
            unfold Oper.wp
            rw [hrun]
            exact ⟨hSW.grown hgr (fun k e => by simp only [Option.some.injEq] at e; subst e; exact hblk _ _ hv), μ', S', hsub1, hrel⟩
          · cases hK
        · cases hK
      simp only [hop] at hK
      split at hq
      · rename_i id off hx
        simp only [hx] at hK
        refine key st μ S hsub h (fun b off' e => ?_) (by rw [hx]; exact hK)
        obtain ⟨b', h1, h2⟩ := cell_of (ev_ok h hx) rfl
        rw [e] at h2
        simp only [Value.pointer.injEq, Option.some.injEq, Addr.mk.injEq, and_true] at h2
        obtain ⟨rfl, _⟩ := h2
        exact hsub.blk h1 hq rfl
      · rename_i id ix off sz hx
        simp only [hx] at hK
        obtain ⟨μ', S', _, hm2, h1⟩ := h.frz2 (n := 8) (get := fun st => cellsV st y)
        refine key _ μ' S' (fun id v hv => hsub _ _ (hm2 _ _ hv)) h1 (fun b off' e => ?_) hK
        obtain ⟨b', N, cap, h1, _, h2⟩ := cell_of (ev_ok h hx) rfl
        rw [e] at h2
        simp only [Value.pointer.injEq, Option.some.injEq, Addr.mk.injEq, and_true] at h2
        obtain ⟨rfl, _⟩ := h2
        exact hsub.blk h1 hq rfl
      · cases hq
    · rename_i c hop
      split at hq
      · rename_i f hcal
        simp only [hop] at hK
        split at hK
        · rename_i args hargs
          simp only [hcal] at hK
          have hall := evArgs_map h hargs
          have hcall : All2 (AVRel μ S w) (args ++ ([] : List (Id × Nat)).map fun (i, j) => cv (.ptr i j)) (c.args.map a.eval).toList := by simpa using hall
          obtain ⟨hen, hcs⟩ := hD w0 O μ S st a w f _ _ _ _ _ hq h hcall hK
          unfold wpOp
          simp only [hi, hwant, if_true]
          left
          unfold Oper.wp
          have hrun : (execOp a.eval o).run P w = .ok (.enter f (c.args.map a.eval)) w := by
            have hev : a.eval (.func f) = .func (.func f) #[] #[] := rfl
            simp [execOp, hop, resolve, hcal, invoke, Deferred.ofValue, hev, hen]
          rw [hrun]
          refine hcs.mono fun e w' ⟨u, he, ⟨v, st', S', hKv, hv, hrel⟩, hfr⟩ => ?_
          subst he
          simp only [Option.some.injEq] at hKv
          subst hKv
          exact ⟨⟨Nat.le_trans hSW.1 (by
            rcases Nat.lt_or_ge w'.heap.size w.heap.size with hlt | hge
            · have := hfr w'.heap.size hlt
              rw [Array.getElem?_eq_none (Nat.le_refl _), Array.getElem?_eq_getElem hlt] at this
              cases this
            · exact hge), fun k hk hnb => (hfr k (Nat.lt_of_lt_of_le hk hSW.1)).trans (hSW.2 k hk hnb)⟩, μ, S', hsub, hrel.put hd hv⟩
        · cases hK
      · cases hq
    · rename_i t hop
      simp only [hop] at hK
      split at hK
      · rename_i ti hti
        split at hK
        · rename_i kt vt hkind
          obtain ⟨hid, hK⟩ := new_ok hK
          simp only [Option.some.injEq] at hK
          subst hK
          obtain ⟨hrun, hrel⟩ := makeMap_gen (P := P) h hd hop (kt := kt) (vt := vt) hid.1 hid.2
          unfold wpOp
          simp only [hi, hwant, if_true]
          left
          unfold Oper.wp
          rw [hrun]
          refine ⟨hSW.grown (grown_alloc w _) (fun k e => by cases e), _, S, fun i' v' hv' => ?_, hrel⟩
          by_cases e : i' = (o.dst.getD 0)
          · subst e
            rw [upd_same] at hv'
            obtain rfl := Option.some.inj hv'
            exact .inr fun k hk => by simp only [blockOf, Option.some.injEq] at hk; subst hk; exact hSW.1
          · rw [upd_other _ _ _ _ e] at hv'
            exact hsub _ _ hv'
        · cases hK
      · cases hK
    · rename_i t m k1 n1 k2 n2 hop
      simp only [hop] at hK
      have hfr : frz 8 st (fun st => cellsV st (.const (.int k2 n2))) = st := rfl
      rw [hfr] at hK
      split at hq
      · rename_i id hm
        rw [hm] at hK
        simp only [show v1 st (.const (.int k1 n1)) = some (.c (.d (.int k1) n1)) from rfl, show v1 st (.const (.int k2 n2)) = some (.c (.d (.int k2) n2)) from rfl] at hK
        split at hK
        · rename_i kt vt es hid
          split at hK
          · rename_i kd vd hkd hvd
            have hf := (cond_some hK).1; replace hK := (cond_some hK).2
            simp only [Bool.and_eq_true] at hf
            simp only [Option.some.injEq] at hK
            subst hK
            obtain ⟨w', g, hrun, hgr, hmu, hrel⟩ := mapPut_gen (P := P) h hd (.inl hop) (mapFits_ok hT.ti hf.1) hm hid rfl hkd rfl hvd hf.2
            unfold wpOp
            simp only [hi, hwant, if_true]
            left
            unfold Oper.wp
            rw [hrun]
            exact ⟨hSW.grown hgr (fun k e => by simp only [Option.some.injEq] at e; subst e; exact hsub.blk hmu hq rfl), μ, S, hsub, hrel⟩
          · cases hK
        · cases hK
      · cases hq
    · rename_i t m k1 ok hop
      simp only [hop] at hK
      split at hK
      · rename_i id kc hm hkc
        split at hK
        · rename_i kt vt es hid
          split at hK
          · rename_i kd hkd
            have hf := (cond_some hK).1; replace hK := (cond_some hK).2
            obtain ⟨u, hrun, hr⟩ := lookup_gen (P := P) h hd hop (mapFits_ok hT.ti hf) hm hid hkc hkd (v := bif ok then .tup [valOf vt (mapGet kt vt es kd), .c (.d .bool (mapHas kt vt es kd))] else .one (valOf vt (mapGet kt vt es kd))) rfl
            have hs : s = st.put o.dst (bif ok then .tup [valOf vt (mapGet kt vt es kd), .c (.d .bool (mapHas kt vt es kd))] else .one (valOf vt (mapGet kt vt es kd))) := by
              cases ok <;> exact (Option.some.inj hK).symm
            subst hs
            have hy : YieldsIf P ops (fun w' => w' = w) o u a := .inl ⟨hwant, fun w' e => by subst e; exact hrun⟩
            exact hy.wpOp hi rfl ⟨hSW, μ, S, hsub, h.put hd hr⟩
          · cases hK
        · cases hK
      · cases hK
    · cases hq

theorem quiet_ok2 {cx : Ctx R} {cs : Ctx St} {cv' : Hand (AV × St)} (hT : TabOK P cs) (hn : nt = cs.nt) (hnp0 : O.np = cs.np) {q : FuncId → Bool} (hD : HandD P nt q cs.hd) (htb : cs.tb = cx.tb) (hnt : cs.nt = cx.nt) (hnp : cs.np = cx.np) (h1 : HandNat cx.hd cv') (h2 : HandNat cs.hd cv')
    {ops : Array Oper} (hsel : Region.noSelect ops = true) (hQ : ∀ a w, Next nt w0 O K r a w → Q .normal a w) (hQp : ∀ c a w, ¬ Q (.panic c) a w) {D : List Id} {nq : List Nat} :
    ∀ (n : Nat) (listed : Array Bool) {μ : Id → Option Value} {S : Nat → Prop} {st : St} {a : Act} {w : World}, Rel nt w0 O μ S st a w → SubF w1 μ μ1 → Still μ1 D w1 w → (∀ σ ∈ ordsQ cs.tb ops nq n false listed, aopsQ cx q D ops.toList σ st K = some r) → wpAnyH P .any ops Q (Still μ1 D w1) n listed a w
  | 0, listed, μ, S, st, a, w, h, hsub, hSW, hall => by
    unfold ordsQ at hall
    split at hall
    · rename_i hr
      exact ⟨hr, hQ a w ⟨st, μ, S, by simpa [aopsQ] using hall [] (by simp), h⟩⟩
    · have := hall [(ops.size, false)] (by simp)
      simp [aopsQ] at this
  | n + 1, listed, μ, S, st, a, w, h, hsub, hSW, hall => by
    unfold ordsQ at hall
    simp only [cond_false] at hall
    split at hall
    · rename_i i hfp
      have hmem := List.mem_of_find?_eq_some hfp
      have hpr := List.find?_some hfp
      simp only [Bool.and_eq_true] at hpr
      cases hoi : ops[i]? with
      | none => rw [hoi] at hpr; cases hpr.1
      | some oi =>
        rw [hoi] at hpr hall
        obtain ⟨_, _, s, hs, hrest⟩ := ordsQ_step htb hnt hnp h1 h2 hoi (l := ordsQ cs.tb ops nq n false (listed.setIfInBounds i true)) (ordsQ_ne cs.tb ops nq n false _) (fun σ hσ => hall _ (List.mem_map.2 ⟨σ, hσ, rfl⟩))
        obtain ⟨u, hy, h'⟩ := pure_yields hT hn hnp0 hpr.1 h hs
        exact wpAnyH_take hoi hsel hpr.2 (by simpa using hmem) (fun c a w hq => absurd hq (hQp _ _ _)) hy.yieldsIf hSW (quiet_ok2 hT hn hnp0 hD htb hnt hnp h1 h2 hsel hQ hQp n _ h' hsub hSW hrest)
    · split at hall
      · rename_i hr
        exact wpAnyH_done hr (hQ a w ⟨st, μ, S, by simpa [aopsQ] using hall [] (by simp), h⟩) (n + 1)
      · rename_i rs hne
        refine wpAnyH_all rfl hne fun i hi => ?_
        have hlt : i < ops.size := by simpa using (List.mem_filter.1 hi).1
        have hoi : ops[i]? = some ops[i] := Array.getElem?_eq_getElem hlt
        obtain ⟨hq, _, s, hs, hrest⟩ := ordsQ_step htb hnt hnp h1 h2 hoi (l := ordsQ cs.tb ops nq n false (listed.setIfInBounds i true)) (ordsQ_ne cs.tb ops nq n false _) (fun σ hσ => hall _ (List.mem_flatMap.2 ⟨i, hi, List.mem_map.2 ⟨σ, hσ, rfl⟩⟩))
        rw [← htb] at hq
        refine wpOp_mono ?_ (quiet_step (Q := Q) hT hn hnp0 hD hoi hq h hsub hSW hs)
        rintro a' w' ⟨hS', μ', S', hsub', hr'⟩
        exact ⟨hS', quiet_ok2 hT hn hnp0 hD htb hnt hnp h1 h2 hsel hQ hQp n _ hr' hsub' hS' hrest⟩

theorem quiet_ok1 {cx : Ctx R} {cs : Ctx St} {cv' : Hand (AV × St)} (hT : TabOK P cs) (hn : nt = cs.nt) (hnp0 : O.np = cs.np) {q : FuncId → Bool} (hD : HandD P nt q cs.hd) (htb : cs.tb = cx.tb) (hnt : cs.nt = cx.nt) (hnp : cs.np = cx.np) (h1 : HandNat cx.hd cv') (h2 : HandNat cs.hd cv')
    {ops : Array Oper} (hsel : Region.noSelect ops = true) (hQ : ∀ a w, Next nt w0 O K r a w → Q .normal a w) (hQp : ∀ c a w, ¬ Q (.panic c) a w) {D : List Id} {nq : List Nat} {S1 : Nat → Prop} :
    ∀ (n : Nat) (listed : Array Bool) {st : St} {a : Act}, Rel nt w0 O μ1 S1 st a w1 → (∀ σ ∈ ordsQ cs.tb ops nq n true listed, aopsQ cx q D ops.toList σ st K = some r) → wpAnyH P .any ops Q (Still μ1 D w1) n listed a w1
  | 0, listed, st, a, h, hall => by
    unfold ordsQ at hall
    split at hall
    · rename_i hr
      exact ⟨hr, hQ a w1 ⟨st, μ1, S1, by simpa [aopsQ] using hall [] (by simp), h⟩⟩
    · have := hall [(ops.size, false)] (by simp)
      simp [aopsQ] at this
  | n + 1, listed, st, a, h, hall => by
    have hSW : Still μ1 D w1 w1 := ⟨Nat.le_refl _, fun _ _ _ => rfl⟩
    unfold ordsQ at hall
    simp only [cond_true] at hall
    split at hall
    · rename_i i hfp
      have hmem := List.mem_of_find?_eq_some hfp
      have hpr := List.find?_some hfp
      simp only [Bool.and_eq_true] at hpr
      cases hoi : ops[i]? with
      | none => rw [hoi] at hpr; cases hpr.1
      | some oi =>
        rw [hoi] at hpr hall
        obtain ⟨hq, hb, s, hs, hrest⟩ := ordsQ_step htb hnt hnp h1 h2 hoi (l := ordsQ cs.tb ops nq n true (listed.setIfInBounds i true)) (ordsQ_ne cs.tb ops nq n true _) (fun σ hσ => hall _ (List.mem_map.2 ⟨σ, hσ, rfl⟩))
        cases hp : pureOp cs.tb oi with
        | true =>
          obtain ⟨u, hy, h'⟩ := pure_yields hT hn hnp0 hp h hs
          exact wpAnyH_take hoi hsel hpr.2 (by simpa using hmem) (fun c a w hq => absurd hq (hQp _ _ _)) hy.yieldsIf hSW (quiet_ok1 hT hn hnp0 hD htb hnt hnp h1 h2 hsel hQ hQp n _ h' hrest)
        | false =>
          have hl := hb (by show (!pureOp cs.tb oi) = true; rw [hp]; rfl)
          obtain ⟨u, hy, h'⟩ := loadFirst_ok hT hn hnp0 hl h hs
          exact wpAnyH_take hoi hsel hpr.2 (by simpa using hmem) (fun c a w hq => absurd hq (hQp _ _ _)) hy hSW (quiet_ok1 hT hn hnp0 hD htb hnt hnp h1 h2 hsel hQ hQp n _ h' hrest)
    · split at hall
      · rename_i hr
        exact wpAnyH_done hr (hQ a w1 ⟨st, μ1, S1, by simpa [aopsQ] using hall [] (by simp), h⟩) (n + 1)
      · rename_i rs hne
        refine wpAnyH_all rfl hne fun i hi => ?_
        have hlt : i < ops.size := by simpa using (List.mem_filter.1 hi).1
        have hoi : ops[i]? = some ops[i] := Array.getElem?_eq_getElem hlt
        obtain ⟨hq, _, s, hs, hrest⟩ := ordsQ_step htb hnt hnp h1 h2 hoi (l := ordsQ cs.tb ops nq n false (listed.setIfInBounds i true)) (ordsQ_ne cs.tb ops nq n false _) (fun σ hσ => hall _ (List.mem_flatMap.2 ⟨i, hi, List.mem_map.2 ⟨σ, hσ, rfl⟩⟩))
        rw [← htb] at hq
        refine wpOp_mono ?_ (quiet_step (Q := Q) hT hn hnp0 hD hoi hq h (fun _ _ h => .inl h) hSW hs)
        rintro a' w' ⟨hS', μ', S', hsub', hr'⟩
        exact ⟨hS', quiet_ok2 hT hn hnp0 hD htb hnt hnp h1 h2 hsel hQ hQp n _ hr' hsub' hS' hrest⟩

/-- the orders that matter of such a region ahead -/
def arunQ (pg : Prog R) (q : FuncId → Bool) (D : List Id) (nq : List Nat) (n : Nat) (todo : List Item) (st : St) : List (Option R) := match todo with
  | .code (.region _ ops true) :: k => bif Region.noSelect ops then (ordsQ pg.tb ops nq ops.size true (Array.replicate ops.size false)).map fun σ => aopsQ pg.toCtx q D ops.toList σ st fun st => arun pg n k st else [none]
  | _ => [none]

theorem arunQ_ok {pg : Prog R} {cv' : Hand (AV × St)} {hs : Hand St} {q : FuncId → Bool} {D : List Id} {nq : List Nat} (hm : P.follows .mixedOrders = true) (hT : TabOK P pg.toCtx) (hH : HandOK P pg.nt pg.toCtx) (hHs : HandD P pg.nt q hs) (h1 : HandNat pg.hd cv') (h2 : HandNat hs cv')
    {Post : Act → World → Prop} (hR : RunOK P w0 O pg r Post) {n : Nat} {todo : List Item} (h : Rel pg.nt w0 O μ S st a w)
    (hK : ∀ q' ∈ arunQ pg q D nq n todo st, q' = some r) : Ends P todo a w Post := by
  unfold arunQ at hK
  split at hK
  · rename_i id ops k
    cases hsel : Region.noSelect ops with
    | false =>
      rw [hsel] at hK
      exact absurd (hK none (by simp)) (by simp)
    | true =>
      rw [hsel] at hK
      simp only [cond_true] at hK
      have hall : ∀ σ ∈ ordsQ pg.tb ops nq ops.size true (Array.replicate ops.size false), aopsQ pg.toCtx q D ops.toList σ st (fun st => arun pg n k st) = some r := by
        intro σ hσ
        exact hK _ (List.mem_map_of_mem (f := fun σ => aopsQ pg.toCtx q D ops.toList σ st fun st => arun pg n k st) hσ)
      have hany := quiet_ok1 (Q := fun e a w => e = .normal ∧ Next pg.nt w0 O (fun st => arun pg n k st) r a w) (cx := pg.toCtx) (cs := { nt := pg.nt, np := pg.np, tb := pg.tb, hd := hs }) (cv' := cv') ⟨hT.ti, hT.eq⟩ rfl hR.np hHs rfl rfl rfl h1 h2 hsel
        (fun a w hn => ⟨rfl, hn⟩) (fun c a w hq => by cases hq.1) (D := D) (nq := nq) ops.size (Array.replicate ops.size false) h.drew hall
      intro b cs
      obtain ⟨e, a', w', ⟨rfl, st', μ', S', hK', h'⟩, harr⟩ := wp_region_held (id := id) hm hany b k cs
      obtain ⟨a2, w2, t2, hp, hs⟩ := arun_ok hT hH hR n k _ _ _ _ _ h' hK' b cs
      exact ⟨a2, w2, t2, hp, Steps.trans harr hs⟩
  · exact absurd (hK none (by simp)) (by simp)

theorem good_quiet {f : FuncId} {pg : Prog R} {l : List (Nat × (List Item → St → Option R))} {cv' : Hand (AV × St)} {hs : Hand St} {q : FuncId → Bool} {D : List Id} {nq : List Nat} (hm : P.follows .mixedOrders = true) (hp : Parts P f pg l) (hHs : HandD P pg.nt q hs) (h1 : HandNat pg.hd cv') (h2 : HandNat hs cv')
    {Post : Act → World → Prop} (hR : RunOK P w0 O pg r Post) {n : Nat} {T : List Item} {p : Tpl} {F : p.T → Option R}
    (seg : ∀ x, ∀ q' ∈ arunQ pg q D nq n T (mk p x), ∀ y, F x = some y → q' = some y) : Good P pg.nt w0 O Post r T p F :=
  fun x μ S a w hF h => arunQ_ok hm hp.tab hp.hand hHs h1 h2 hR h fun q' hq => seg x q' hq r hF
end
end Go.Proofs.YtjjepjfjikefiaaB
