/- The core, part 40: drawn regions whose last operation comes behind all others. -/
import Derived.Test.YtjjepjfjikefiaaB39
import Derived.Test.YtjjepjfjikefiaaB34
set_option linter.unusedVariables false
namespace Go.Proofs.YtjjepjfjikefiaaB
open Go

section
variable {P : Program} {ops : Array Oper} {L : Nat}

/-- those that an operation comes behind -/
def onsOf (o : Oper) : List Nat := (o.after.toList.filter fun e => Region.binds .any e).map (·.on)
def addOns (ops : Array Oper) (acc : List Nat) (j : Nat) : List Nat := match ops[j]? with
  | some o => (onsOf o).foldl (fun acc i => bif hasId acc i then acc else i :: acc) acc
  | none => acc
def under (ops : Array Oper) : Nat → List Nat → List Nat
  | 0, s => s
  | k + 1, s => under ops k (s.foldl (addOns ops) s)
/-- an operation that does nothing, in the place of one -/
def noopOf (o : Oper) : Oper := { dst := none, op := .move (.const (.bool true)), type := o.type, pos := o.pos, after := o.after, guard := none }
def cutAtL (ops : Array Oper) (L : Nat) : Array Oper := match ops[L]? with
  | some o => ops.setIfInBounds L (noopOf o)
  | none => ops
def lastOK (ops : Array Oper) (L : Nat) : Bool := match ops[L]? with
  | some o => ((List.range ops.size).all fun j => Nat.beq j L || hasId (under ops ops.size (onsOf o)) j) &&
      ((List.range ops.size).all fun j => match ops[j]? with
        | some oj => (onsOf oj).all (fun i => Nat.blt i j) && (match oj.guard with | some (g, _) => !Nat.beq g L | none => true)
        | none => true)
  | none => false

def Listed (listed : Array Bool) (j : Nat) : Prop := listed.getD j false = true
def DownC (ops : Array Oper) (listed : Array Bool) : Prop := ∀ j o, ops[j]? = some o → Listed listed j → ∀ i ∈ onsOf o, Listed listed i

theorem onsOf_mem {o : Oper} {i : Nat} : i ∈ onsOf o ↔ ∃ e ∈ o.after, Region.binds .any e = true ∧ e.on = i := by
  unfold onsOf
  simp [List.mem_map, List.mem_filter, Array.mem_toList_iff, and_assoc]
theorem under_listed {listed : Array Bool} (hd : DownC ops listed) : ∀ (k : Nat) (s : List Nat), (∀ j ∈ s, Listed listed j) → ∀ j ∈ under ops k s, Listed listed j
  | 0, s, h => h
  | k + 1, s, h => by
    refine under_listed hd k _ ?_
    have inner : ∀ (l acc : List Nat), (∀ j ∈ l, Listed listed j) → (∀ j ∈ acc, Listed listed j) → ∀ j ∈ l.foldl (fun acc i => bif hasId acc i then acc else i :: acc) acc, Listed listed j := by
      intro l
      induction l with
      | nil => intro acc _ ha; exact ha
      | cons i l ih =>
        intro acc hl ha
        rw [List.foldl_cons]
        refine ih _ (fun j hj => hl j (by simp [hj])) ?_
        cases hasId acc i
        · intro j hj
          rcases List.mem_cons.1 hj with rfl | hj
          · exact hl _ (by simp)
          · exact ha j hj
        · exact ha
    have outer : ∀ (l acc : List Nat), (∀ j ∈ l, Listed listed j) → (∀ j ∈ acc, Listed listed j) → ∀ j ∈ l.foldl (addOns ops) acc, Listed listed j := by
      intro l
      induction l with
      | nil => intro acc _ ha; exact ha
      | cons i l ih =>
        intro acc hl ha
        rw [List.foldl_cons]
        refine ih _ (fun j hj => hl j (by simp [hj])) ?_
        unfold addOns
        split
        · rename_i o ho
          exact inner _ _ (fun q hq => hd i o ho (hl i (by simp)) q hq) ha
        · exact ha
    exact outer s s h h

theorem cutAtL_size : (cutAtL ops L).size = ops.size := by unfold cutAtL; split <;> simp
theorem cutAtL_ne {i : Nat} (h : i ≠ L) : (cutAtL ops L)[i]? = ops[i]? := by
  unfold cutAtL
  split
  · rw [Array.getElem?_setIfInBounds_ne (fun e => h e.symm)]
  · rfl
theorem cutAtL_at {o : Oper} (h : ops[L]? = some o) : (cutAtL ops L)[L]? = some (noopOf o) := by
  have hlt : L < ops.size := (Array.getElem?_eq_some_iff.1 h).1
  unfold cutAtL
  rw [h]
  simp [hlt]
theorem cutAtL_after (i : Nat) : ((cutAtL ops L)[i]?).map (·.after) = (ops[i]?).map (·.after) := by
  by_cases h : i = L
  · subst h
    cases ho : ops[i]? with
    | none => unfold cutAtL; rw [ho]; simp [ho]
    | some o => rw [cutAtL_at ho]; rfl
  · rw [cutAtL_ne h]
theorem cutAtL_ready (listed : Array Bool) : Region.ready .any (cutAtL ops L) listed = Region.ready .any ops listed := by
  unfold Region.ready
  rw [cutAtL_size]
  congr 1
  funext i
  have := cutAtL_after (ops := ops) (L := L) i
  cases h1 : (cutAtL ops L)[i]? with
  | none => cases h2 : ops[i]? with
    | none => rfl
    | some o => rw [h1, h2] at this; cases this
  | some o1 => cases h2 : ops[i]? with
    | none => rw [h1, h2] at this; cases this
    | some o =>
      rw [h1, h2] at this
      simp only [Option.map_some, Option.some.injEq] at this
      simp only [Option.map_some, Option.getD_some, this]

/-- the last that is not listed comes up -/
theorem ready_some (hl : ∀ (j : Nat) (o : Oper), ops[j]? = some o → ∀ i ∈ onsOf o, i < j) {listed : Array Bool} (hs : listed.size = ops.size) : ∀ (j : Nat), j < ops.size → ¬ Listed listed j → Region.ready .any ops listed ≠ []
  | j, hj, hn, hr => by
    have hoj : ops[j]? = some ops[j] := Array.getElem?_eq_getElem hj
    have hgt : listed.getD j true = false := by
      unfold Listed at hn
      have hj' : j < listed.size := by omega
      simp only [Array.getD_eq_getD_getElem?, Array.getElem?_eq_getElem hj', Option.getD_some, Bool.not_eq_true] at hn ⊢
      exact hn
    by_cases hall : ∀ i ∈ onsOf ops[j], Listed listed i
    · have : j ∈ Region.ready .any ops listed := mem_ready.2 ⟨hgt, _, hoj, fun e he hb => hall e.on (onsOf_mem.2 ⟨e, he, hb, rfl⟩)⟩
      rw [hr] at this
      cases this
    · simp only [Classical.not_forall] at hall
      obtain ⟨i, hi, hni⟩ := hall
      have := hl j _ hoj i hi
      exact ready_some hl hs i (by omega) hni hr

theorem wp_flip {o : Oper} {a : Act} {w : World} {K : Act → World → Prop} {X X' : Act → World → Prop} (h : o.wp P a w K fun e a w => e = .normal ∧ X' a w) : o.wp P a w K fun e a w => e = .normal ∧ X a w := by
  unfold Oper.wp at *
  generalize (execOp a.eval o).run P w = res at *
  cases res with
  | ok n w' =>
    cases n <;> simp only [Oper.upon] at h ⊢ <;> try exact h
    refine Calls.mono h fun e w'' he => ?_
    cases e with
    | returned u => exact he
    | panicked c => cases he.1
    | outgrown => obtain ⟨_, _, h1, _⟩ := he; cases h1
  | halt x w' =>
    cases x <;> simp only [Oper.upon] at h ⊢
    case panic v => cases h.1

theorem yielded_cut {j : Nat} (h : j ≠ L) (t : Array Value) : yielded (cutAtL ops L) t j = yielded ops t j := by
  unfold yielded
  rw [cutAtL_ne h]

theorem wpOp_cut {i : Nat} (hi : i ≠ L) (hg : ∀ o : Oper, ops[i]? = some o → ∀ g b, o.guard = some (g, b) → g ≠ L) {K : Act → World → Prop} {a : Act} {w : World} {X X' : Act → World → Prop}
    (h : wpOp P (cutAtL ops L) (fun e a w => e = .normal ∧ X' a w) i K a w) : wpOp P ops (fun e a w => e = .normal ∧ X a w) i K a w := by
  unfold wpOp at *
  rw [cutAtL_ne hi] at h
  cases ho : ops[i]? with
  | none => rw [ho] at h; exact h
  | some o =>
    rw [ho] at h
    simp only at h ⊢
    have hw : Region.wanted o (yielded (cutAtL ops L) a.tmps) = Region.wanted o (yielded ops a.tmps) := by
      unfold Region.wanted
      cases hgd : o.guard with
      | none => rfl
      | some p =>
        obtain ⟨g, b⟩ := p
        simp only
        rw [yielded_cut (hg o ho g b hgd)]
    rw [hw] at h
    split
    · rename_i hwt
      rw [if_pos hwt] at h
      rcases h with h | ⟨_, _, _, h, _⟩
      · exact .inl (wp_flip h)
      · cases h
    · rename_i hwt
      rw [if_neg hwt] at h
      exact h

theorem listed_set {listed : Array Bool} {i j : Nat} (hi : i < listed.size) : Listed (listed.setIfInBounds i true) j ↔ j = i ∨ Listed listed j := by
  unfold Listed
  simp only [Array.getD_eq_getD_getElem?]
  by_cases h : j = i
  · subst h; simp [hi]
  · rw [Array.getElem?_setIfInBounds_ne (fun e => h e.symm)]
    simp [h]

theorem any_last {oL : Oper} (hL : ops[L]? = some oL) (hlast : lastOK ops L = true) {X : Act → World → Prop} :
    ∀ (n : Nat) (listed : Array Bool) (a : Act) (w : World), listed.size = ops.size → DownC ops listed → ¬ Listed listed L →
      wpAny P .any (cutAtL ops L) (fun e a w => e = .normal ∧ wpOp P ops (fun e a w => e = .normal ∧ X a w) L X a w) n listed a w →
      wpAny P .any ops (fun e a w => e = .normal ∧ X a w) n listed a w := by
  unfold lastOK at hlast
  rw [hL] at hlast
  simp only [Bool.and_eq_true, List.all_eq_true, List.mem_range, Bool.or_eq_true] at hlast
  obtain ⟨hcov, hrest⟩ := hlast
  have hLt : L < ops.size := (Array.getElem?_eq_some_iff.1 hL).1
  have hlow : ∀ (j : Nat) (o : Oper), ops[j]? = some o → ∀ i ∈ onsOf o, i < j := by
    intro j o ho i hi
    have := hrest j (Array.getElem?_eq_some_iff.1 ho).1
    rw [ho] at this
    simp only [Bool.and_eq_true, List.all_eq_true] at this
    exact Nat.le_of_ble_eq_true (this.1 i hi)
  have hgd : ∀ (j : Nat) (o : Oper), ops[j]? = some o → ∀ g b, o.guard = some (g, b) → g ≠ L := by
    intro j o ho g b hg e
    have := hrest j (Array.getElem?_eq_some_iff.1 ho).1
    rw [ho] at this
    simp only [hg, Bool.and_eq_true] at this
    rw [e, Nat.beq_refl] at this
    exact absurd this.2 (by simp)
  intro n
  induction n with
  | zero =>
    intro listed a w hs hd hnl h
    exact absurd (cutAtL_ready (L := L) listed ▸ h.1) (ready_some hlow hs L hLt hnl)
  | succ n ih =>
    intro listed a w hs hd hnl h
    have hne := ready_some hlow hs L hLt hnl
    refine ⟨fun hr => absurd hr hne, fun i hi => ?_⟩
    have hall := h.2 i (by rw [cutAtL_ready]; exact hi)
    obtain ⟨h0, o, ho, hon⟩ := mem_ready.1 hi
    have hilt : i < listed.size := by rw [hs]; exact (Array.getElem?_eq_some_iff.1 ho).1
    have hdone : ∀ q ∈ onsOf o, Listed listed q := by
      intro q hq
      obtain ⟨e, he, hb, rfl⟩ := onsOf_mem.1 hq
      exact hon e he hb
    by_cases hiL : i = L
    · subst hiL
      rw [hL] at ho
      obtain rfl := Option.some.inj ho
      have hoth : ∀ j, j < ops.size → j ≠ i → Listed listed j := by
        intro j hj hji
        rcases hcov j hj with h1 | h1
        · exact absurd (Nat.eq_of_beq_eq_true h1) hji
        · refine under_listed hd ops.size _ hdone j ?_
          unfold hasId at h1
          obtain ⟨x, hx, hxj⟩ := List.any_eq_true.1 h1
          rw [← Nat.eq_of_beq_eq_true hxj]; exact hx
      have hr0 : Region.ready .any ops (listed.setIfInBounds i true) = [] := by
        rw [List.eq_nil_iff_forall_not_mem]
        intro j hj
        obtain ⟨g0, oj, hoj, _⟩ := mem_ready.1 hj
        have hjlt : j < ops.size := (Array.getElem?_eq_some_iff.1 hoj).1
        have : Listed (listed.setIfInBounds i true) j := (listed_set hilt).2 (by
          by_cases e : j = i
          · exact .inl e
          · exact .inr (hoth j hjlt e))
        unfold Listed at this
        have hj' : j < (listed.setIfInBounds i true).size := by simp; omega
        simp only [Array.getD_eq_getD_getElem?, Array.getElem?_eq_getElem hj', Option.getD_some] at this g0
        rw [this] at g0; cases g0
      have hnoop : wpOp P ops (fun e a w => e = .normal ∧ X a w) i X a w := by
        unfold wpOp at hall
        rw [cutAtL_at hL] at hall
        simp only at hall
        rw [if_pos (by rfl)] at hall
        rcases hall with hall | ⟨_, _, _, h1, _⟩
        · have : (execOp a.eval (noopOf oL)).run P w = .ok (.value (.bool true)) w := by simp [execOp, noopOf, Act.eval]
          unfold Oper.wp at hall
          rw [this, Oper.upon_value] at hall
          have hput : a.put (noopOf oL).dst (.bool true) = a := rfl
          rw [hput] at hall
          cases n with
          | zero => exact hall.2.2
          | succ m => exact (hall.1 (by rw [cutAtL_ready]; exact hr0)).2
        · cases h1
      exact wpOp_mono (fun a' w' hX => wpAny_done hr0 ⟨rfl, hX⟩ n) hnoop
    · refine wpOp_mono (fun a' w' h' => ih _ a' w' (by simp [hs]) ?_ ?_ h') (wpOp_cut hiL (fun o' ho' => hgd i o' ho') hall)
      · intro j oj hoj hj q hq
        rw [listed_set hilt] at hj ⊢
        rcases hj with rfl | hj
        · rw [hoj] at ho
          obtain rfl := Option.some.inj ho
          exact .inr (hdone q hq)
        · exact .inr (hd j oj hoj hj q hq)
      · rw [listed_set hilt]
        rintro (e | e)
        · exact hiL e.symm
        · exact hnl e
end

section
variable {R : Type} {P : Program} {nt : Nat} {w0 w1 : World} {O : Own} {μ μ1 : Id → Option Value} {S : Nat → Prop} {st : St} {a : Act} {w : World} {o : Oper} {K : St → Option R} {r : R} {Q : Exit → Act → World → Prop}
/-- the orders that matter of such a region ahead: what its last operation does comes behind -/
def arunL (pg : Prog R) (q : FuncId → Bool) (D : List Id) (nq : List Nat) (n : Nat) (todo : List Item) (st : St) : List (Option R) := match todo with
  | .code (.region _ ops true) :: k => match ops[ops.size - 1]? with
    | some oL => bif lastOK ops (ops.size - 1) && Region.noSelect (cutAtL ops (ops.size - 1)) then
        (ordsQ pg.tb (cutAtL ops (ops.size - 1)) nq ops.size true (Array.replicate ops.size false)).map fun σ => aopsQ pg.toCtx q D (cutAtL ops (ops.size - 1)).toList σ st fun st => aopG pg.toCtx ops.toList oL st fun st => arun pg n k st
      else [none]
    | none => [none]
  | _ => [none]

theorem arunL_ok {pg : Prog R} {cv' : Hand (AV × St)} {hs : Hand St} {q : FuncId → Bool} {D : List Id} {nq : List Nat} (hm : P.follows .mixedOrders = true) (hT : TabOK P pg.toCtx) (hH : HandOK P pg.nt pg.toCtx) (hHs : HandD P pg.nt q hs) (h1 : HandNat pg.hd cv') (h2 : HandNat hs cv')
    {Post : Act → World → Prop} (hR : RunOK P w0 O pg r Post) {n : Nat} {todo : List Item} (h : Rel pg.nt w0 O μ S st a w)
    (hK : ∀ q' ∈ arunL pg q D nq n todo st, q' = some r) : Ends P todo a w Post := by
  unfold arunL at hK
  split at hK
  · rename_i id ops k
    split at hK
    · rename_i oL hoL
      cases hc : lastOK ops (ops.size - 1) && Region.noSelect (cutAtL ops (ops.size - 1)) with
      | false => rw [hc] at hK; exact absurd (hK none (by simp)) (by simp)
      | true =>
        rw [hc] at hK
        simp only [Bool.and_eq_true] at hc
        simp only [cond_true] at hK
        have hall : ∀ σ ∈ ordsQ pg.tb (cutAtL ops (ops.size - 1)) nq ops.size true (Array.replicate ops.size false), aopsQ pg.toCtx q D (cutAtL ops (ops.size - 1)).toList σ st (fun st => aopG pg.toCtx ops.toList oL st fun st => arun pg n k st) = some r := by
          intro σ hσ
          exact hK _ (List.mem_map_of_mem (f := fun σ => aopsQ pg.toCtx q D (cutAtL ops (ops.size - 1)).toList σ st fun st => aopG pg.toCtx ops.toList oL st fun st => arun pg n k st) hσ)
        have hany := quiet_ok1 (P := P) (Q := fun e a w => e = .normal ∧ wpOp P ops (fun e a w => e = .normal ∧ Next pg.nt w0 O (fun st => arun pg n k st) r a w) (ops.size - 1) (Next pg.nt w0 O (fun st => arun pg n k st) r) a w) (cx := pg.toCtx) (cs := { nt := pg.nt, np := pg.np, tb := pg.tb, hd := hs }) (cv' := cv') ⟨hT.ti, hT.eq⟩ rfl hR.np hHs rfl rfl rfl h1 h2 hc.2
          (fun a w ⟨st', μ', S', hK', h'⟩ => ⟨rfl, aopG_ok hT rfl hR.np hH hoL h' hK'⟩) (fun c a w hq => by cases hq.1) (D := D) (nq := nq) ops.size (Array.replicate ops.size false) h.drew hall
        have hlt : ops.size - 1 < ops.size := (Array.getElem?_eq_some_iff.1 hoL).1
        have hno : ∀ j, ¬ Listed (Array.replicate ops.size false) j := by
          intro j hj
          unfold Listed at hj
          rw [Array.getD_eq_getD_getElem?, Array.getElem?_replicate] at hj
          split at hj <;> cases hj
        have hplain := any_last hoL hc.1 ops.size (Array.replicate ops.size false) a _ (by simp) (fun j o ho hj => absurd hj (hno j)) (hno _) (wpAny_of_held _ _ _ _ hany)
        intro b cs
        obtain ⟨e, a', w', ⟨rfl, st', μ', S', hK', h'⟩, harr⟩ := wp_region_any (id := id) hm hplain b k cs
        obtain ⟨a2, w2, t2, hp, hs⟩ := arun_ok hT hH hR n k _ _ _ _ _ h' hK' b cs
        exact ⟨a2, w2, t2, hp, Steps.trans harr hs⟩
    · exact absurd (hK none (by simp)) (by simp)
  · exact absurd (hK none (by simp)) (by simp)

theorem good_last {f : FuncId} {pg : Prog R} {l : List (Nat × (List Item → St → Option R))} {cv' : Hand (AV × St)} {hs : Hand St} {q : FuncId → Bool} {D : List Id} {nq : List Nat} (hm : P.follows .mixedOrders = true) (hp : Parts P f pg l) (hHs : HandD P pg.nt q hs) (h1 : HandNat pg.hd cv') (h2 : HandNat hs cv')
    {Post : Act → World → Prop} (hR : RunOK P w0 O pg r Post) {n : Nat} {T : List Item} {p : Tpl} {F : p.T → Option R}
    (seg : ∀ x, ∀ q' ∈ arunL pg q D nq n T (mk p x), ∀ y, F x = some y → q' = some y) : Good P pg.nt w0 O Post r T p F :=
  fun x μ S a w hF h => arunL_ok hm hp.tab hp.hand hHs h1 h2 hR h fun q' hq => seg x q' hq r hF

/-! ### The methods of a builder among such calls -/
theorem bldHd_nat {fW fL fS : FuncId} {T e : TypeId} {rest : Hand R} {rest' : Hand (AV × St)} (hr : HandNat rest rest') : HandNat (bldHd fW fL fS T e rest : Hand R) (bldHd fW fL fS T e rest' : Hand (AV × St)) := by
  intro g dn args st K
  have h := hr g dn args st K
  unfold bldHd
  cases Nat.beq g fW <;> cases Nat.beq g fL <;> cases Nat.beq g fS <;> simp only [cond_true, cond_false] <;> (repeat' split) <;> first | exact h | rfl | (simp only [cond_bind, Option.bind_some, Option.bind_none]; done) | simp_all
theorem bldHd_D {fW fL fS : FuncId} {T e : TypeId} {q : FuncId → Bool} {rest : Hand R} (hW : q fW = false) (hL : q fL = false) (hS : q fS = false) (hrest : HandD P nt q rest) : HandD P nt q (bldHd fW fL fS T e rest : Hand R) := by
  intro w0 O μ S st a w g dn args vals K r hq h ha hK
  have key : ∀ f, q f = false → Nat.beq g f = false := by
    intro f hf
    cases hb : Nat.beq g f with
    | false => rfl
    | true =>
      have := Nat.eq_of_beq_eq_true hb
      subst this
      rw [hf] at hq; cases hq
  unfold bldHd at hK
  rw [key _ hW, key _ hL, key _ hS] at hK
  exact hrest w0 O μ S st a w g dn args vals K r hq h ha hK
end
end Go.Proofs.YtjjepjfjikefiaaB
