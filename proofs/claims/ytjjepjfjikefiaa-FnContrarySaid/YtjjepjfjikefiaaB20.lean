/- The core, part 20: what a call leaves behind. -/
import Derived.Test.YtjjepjfjikefiaaB19
set_option linter.unusedVariables false
namespace Go.Proofs.YtjjepjfjikefiaaB
open Go

/-! ### Other names -/
def renC (ρ : Id → Id) : Cell → Cell
  | .row id => .row (ρ id)
  | .win id lo n sz => .win (ρ id) lo n sz
  | .eptr id i off sz => .eptr (ρ id) i off sz
  | .ptr id off => .ptr (ρ id) off
  | .map id => .map (ρ id)
  | .fn f caps => .fn f (caps.map fun p => (ρ p.1, p.2))
  | c => c
def renV (ρ : Id → Id) : V1 → V1
  | .c x => .c (renC ρ x)
  | .agg cs => .agg (cs.map (renC ρ))
def renB (ρ : Id → Id) : Blk → Blk
  | .box cs => .box (cs.map (renC ρ))
  | .bld T bid => .bld T (ρ bid)
  | b => b
/-- no longer known: whatever refers to one of these -/
def hasId (l : List Id) (id : Id) : Bool := l.any fun x => Nat.beq x id
def lostC (l : List Id) : Cell → Cell
  | .row id => bif hasId l id then .undef else .row id
  | .win id lo n sz => bif hasId l id then .undef else .win id lo n sz
  | .eptr id i off sz => bif hasId l id then .undef else .eptr id i off sz
  | .ptr id off => bif hasId l id then .undef else .ptr id off
  | .map id => bif hasId l id then .undef else .map id
  | .fn f caps => bif caps.any (fun p => hasId l p.1) then .undef else .fn f caps
  | c => c
def lostV (l : List Id) : V1 → V1
  | .c x => .c (lostC l x)
  | .agg cs => .agg (cs.map (lostC l))
def lostA (l : List Id) : AV → AV
  | .one v => .one (lostV l v)
  | .tup vs => .tup (vs.map (lostV l))
def lostB (l : List Id) : Blk → Blk
  | .box cs => .box (cs.map (lostC l))
  | .bld T bid => bif hasId l bid then .box [.undef, .undef] else .bld T bid
  | b => b
def lookR : IdMap → Id → Option Id
  | [], _ => none
  | (t, id) :: m, x => bif Nat.beq x id then some t else lookR m x
/-- the names that a callee's blocks get -/
def newMap (base : Nat) (m : IdMap) : List (Id × BS) → IdMap
  | [] => []
  | (t, _) :: l => (t, (look m t).getD (base + t)) :: newMap base m l
def freshAll (heap : Heap) (m : IdMap) : IdMap → Bool
  | [] => true
  | (t, id) :: l => (match look m t with | some _ => true | none => (heap id).isNone) && freshAll heap m l
/-- does parameter i show that this name's header is the same? -/
def pinCaps (t : Id) : List (Id × Nat) → List (Id × Nat) → Bool
  | p :: l, q :: l' => (Nat.beq p.1 t && Nat.beq q.1 t) || pinCaps t l l'
  | _, _ => false
def pinC (a b : Cell) (t : Id) : Bool := match a, b with
  | .row x, .row y => Nat.beq x t && Nat.beq y t
  | .ptr x _, .ptr y _ => Nat.beq x t && Nat.beq y t
  | .map x, .map y => Nat.beq x t && Nat.beq y t
  | .fn _ l, .fn _ l' => pinCaps t l l'
  | _, _ => false
def pinCs (t : Id) : List Cell → List Cell → Bool
  | a :: l, b :: l' => pinC a b t || pinCs t l l'
  | _, _ => false
def pinAt (a b : AV) (t : Id) : Bool := match a, b with
  | .one (.c x), .one (.c y) => pinC x y t
  | .one (.agg xs), .one (.agg ys) => pinCs t xs ys
  | _, _ => false
/-- a box or a map of the parameters' that is still there has kept its name -/
def notRow : Blk → Bool
  | .row _ _ _ _ => false
  | .buf _ _ => false
  | _ => true
def keptIn (h1 h2 : Heap) (t : Id) : Bool := (match h1 t with | some b => notRow b || fixedB t | none => false) && (h2 t).isSome
/-- names that a callee may have for what comes in: what is fixed stays fixed -/
def nameOK (q : Id × Id) : Bool := keptB q.1 && (!fixedB q.2 || fixedB q.1)
def pinned (e1 e2 : Env) (nr t : Nat) : Nat → Bool
  | 0 => false
  | i + 1 => pinAt (e1 i) (e2 (nr + i)) t || pinned e1 e2 nr t i
def lostIds (h1 h2 : Heap) (e1 e2 : Env) (nr np : Nat) : IdMap → List Id
  | [] => []
  | (t, id) :: m => bif keptIn h1 h2 t || pinned e1 e2 nr t np then lostIds h1 h2 e1 e2 nr np m else id :: lostIds h1 h2 e1 e2 nr np m
def backHeap (m mm : IdMap) (lost : List Id) (h3 hc : Heap) : Heap := fun id => match lookR mm id with
  | some t => (hc t).map (renB fun x => (look mm x).getD 0)
  | none => bif hasId (m.map (·.2)) id then none else (h3 id).map (lostB lost)

section
variable {R : Type} {P : Program} {nt : Nat} {w0 : World} {O : Own} {μ : Id → Option Value} {S : Nat → Prop} {st : St} {a : Act} {w : World} {r : R}

theorem hasId_iff {l : List Id} {id : Id} : hasId l id = true ↔ id ∈ l := by
  unfold hasId
  rw [List.any_eq_true]
  constructor
  · rintro ⟨x, hx, hb⟩; rw [← Nat.eq_of_beq_eq_true hb]; exact hx
  · exact fun h => ⟨id, h, Nat.beq_refl id⟩

/-- renamed cells -/
theorem CellRel.ren {μ2 : Id → Option Value} {ρ : Id → Id} (hρ : ∀ id v, μ id = some v → μ2 (ρ id) = some v) {c : Cell} {v : Value} (h : CellRel μ S w c v) : CellRel μ2 S w (renC ρ c) v := by
  cases c with
  | row id => exact ⟨hρ _ _ h.1, h.2⟩
  | ptr id off => obtain ⟨b, h1, h2⟩ := h; exact ⟨b, hρ _ _ h1, h2⟩
  | map id => exact ⟨hρ _ _ h.1, h.2⟩
  | win id lo n sz =>
    obtain ⟨A, c, N, cap, h1, h2, h3, h4⟩ := h
    refine ⟨A, c, N, cap, h1, h2, h3, h4.imp (fun ⟨g1, g2⟩ => ⟨hρ _ _ g1, g2⟩) fun ⟨b, g1, g2⟩ => ⟨b, hρ _ _ g1, g2⟩⟩
  | eptr id i off sz => obtain ⟨b, N, cap, h1, h2⟩ := h; exact ⟨b, N, cap, hρ _ _ h1, h2⟩
  | fn f caps =>
    obtain ⟨vs, h1, h2⟩ := h
    refine ⟨vs, h1, ?_⟩
    clear h1
    generalize vs.toList = l at h2
    induction caps generalizing l with
    | nil => cases l with
      | nil => trivial
      | cons _ _ => exact h2.elim
    | cons p caps ih => cases l with
      | nil => exact h2.elim
      | cons u l =>
        obtain ⟨⟨b, g1, g2⟩, g3⟩ := h2
        exact ⟨⟨b, hρ _ _ g1, g2⟩, ih _ g3⟩
  | _ => exact h

theorem V1Rel.ren {μ2 : Id → Option Value} {ρ : Id → Id} (hρ : ∀ id v, μ id = some v → μ2 (ρ id) = some v) {c : V1} {v : Value} (h : V1Rel μ S w c v) : V1Rel μ2 S w (renV ρ c) v := by
  cases c with
  | c x => exact CellRel.ren hρ h
  | agg cs => obtain ⟨arr, e, hall⟩ := h; exact ⟨arr, e, All2.map_left (f := renC ρ) (fun x y hxy => CellRel.ren hρ hxy) hall⟩

theorem BlkRel.ren {μ2 : Id → Option Value} {ρ : Id → Id} (hρ : ∀ id v, μ id = some v → μ2 (ρ id) = some v) {hv : Value} {b : Blk} (h : BlkRel μ S w hv b) : BlkRel μ2 S w hv (renB ρ b) := by
  cases b with
  | box cs => obtain ⟨b, ty, arr, e1, e2, hall⟩ := h; exact ⟨b, ty, arr, e1, e2, All2.map_left (f := renC ρ) (fun x y hxy => CellRel.ren hρ hxy) hall⟩
  | row e n t xs => exact h
  | map kt vt es => obtain ⟨r, en, cl, e1, e2, es', hs, hall⟩ := h; exact ⟨r, en, cl, e1, e2, es', hs, hall.mono fun p m ⟨q1, q2⟩ => ⟨q1, valOf_mu q2⟩⟩
  | bld T bid => obtain ⟨b, p, v, e1, e2, e3, e4, e5⟩ := h; exact ⟨b, p, v, e1, e2, e3, hρ _ _ e4, e5⟩
  | buf e l => exact h

/-- cells of which some are no longer known -/
theorem CellRel.lost {μ2 : Id → Option Value} {l : List Id} (hl : ∀ id v, μ id = some v → id ∉ l → μ2 id = some v) {c : Cell} {v : Value} (h : CellRel μ S w c v) : CellRel μ2 S w (lostC l c) v := by
  have h1 := h.oneCell
  have key : ∀ {id}, hasId l id = false → id ∉ l := fun hb hm => by rw [hasId_iff.2 hm] at hb; cases hb
  cases c with
  | row id =>
    cases hb : hasId l id with
    | true => rw [show lostC l (.row id) = .undef by simp [lostC, hb]]; exact h1
    | false =>
      rw [show lostC l (.row id) = .row id by simp [lostC, hb]]
      exact ⟨hl _ _ h.1 (key hb), h.2⟩
  | ptr id off =>
    cases hb : hasId l id with
    | true => rw [show lostC l (.ptr id off) = .undef by simp [lostC, hb]]; exact h1
    | false =>
      rw [show lostC l (.ptr id off) = .ptr id off by simp [lostC, hb]]
      obtain ⟨b, g1, g2⟩ := h; exact ⟨b, hl _ _ g1 (key hb), g2⟩
  | map id =>
    cases hb : hasId l id with
    | true => rw [show lostC l (.map id) = .undef by simp [lostC, hb]]; exact h1
    | false =>
      rw [show lostC l (.map id) = .map id by simp [lostC, hb]]
      exact ⟨hl _ _ h.1 (key hb), h.2⟩
  | win id lo n sz =>
    cases hb : hasId l id with
    | true => rw [show lostC l (.win id lo n sz) = .undef by simp [lostC, hb]]; exact h1
    | false =>
      rw [show lostC l (.win id lo n sz) = .win id lo n sz by simp [lostC, hb]]
      obtain ⟨A, c, N, cap, h1, h2, h3, h4⟩ := h
      exact ⟨A, c, N, cap, h1, h2, h3, h4.imp (fun ⟨g1, g2⟩ => ⟨hl _ _ g1 (key hb), g2⟩) fun ⟨b, g1, g2⟩ => ⟨b, hl _ _ g1 (key hb), g2⟩⟩
  | eptr id i off sz =>
    cases hb : hasId l id with
    | true => rw [show lostC l (.eptr id i off sz) = .undef by simp [lostC, hb]]; exact h1
    | false =>
      rw [show lostC l (.eptr id i off sz) = .eptr id i off sz by simp [lostC, hb]]
      obtain ⟨b, N, cap, g1, g2⟩ := h; exact ⟨b, N, cap, hl _ _ g1 (key hb), g2⟩
  | fn f caps =>
    cases hb : caps.any (fun p => hasId l p.1) with
    | true => rw [show lostC l (.fn f caps) = .undef by simp only [lostC, hb, cond_true]]; exact h1
    | false =>
      rw [show lostC l (.fn f caps) = .fn f caps by simp only [lostC, hb, cond_false]]
      obtain ⟨vs, g1, g2⟩ := h
      refine ⟨vs, g1, ?_⟩
      clear g1 h1
      generalize vs.toList = us at g2
      induction caps generalizing us with
      | nil => cases us with
        | nil => trivial
        | cons _ _ => exact g2.elim
      | cons p caps ih => cases us with
        | nil => exact g2.elim
        | cons u us =>
          simp only [List.any_cons, Bool.or_eq_false_iff] at hb
          obtain ⟨⟨b, q1, q2⟩, q3⟩ := g2
          exact ⟨⟨b, hl _ _ q1 (key hb.1), q2⟩, ih hb.2 _ q3⟩
  | _ => exact h

theorem V1Rel.lost {μ2 : Id → Option Value} {l : List Id} (hl : ∀ id v, μ id = some v → id ∉ l → μ2 id = some v) {c : V1} {v : Value} (h : V1Rel μ S w c v) : V1Rel μ2 S w (lostV l c) v := by
  cases c with
  | c x => exact CellRel.lost hl h
  | agg cs => obtain ⟨arr, e, hall⟩ := h; exact ⟨arr, e, All2.map_left (f := lostC l) (fun x y hxy => CellRel.lost hl hxy) hall⟩
theorem lostV_known {l : List Id} {c : V1} (h : (lostV l c).known = true) : c.known = true := by
  cases c with
  | c x => cases x <;> first | rfl | exact h
  | agg cs => rfl
theorem AVRel.lost {μ2 : Id → Option Value} {l : List Id} (hl : ∀ id v, μ id = some v → id ∉ l → μ2 id = some v) {c : AV} {v : Value} (h : AVRel μ S w c v) : AVRel μ2 S w (lostA l c) v := by
  cases c with
  | one x => exact fun hk => V1Rel.lost hl (h (lostV_known hk))
  | tup vs => obtain ⟨arr, e, hall⟩ := h; exact ⟨arr, e, All2.map_left (f := lostV l) (fun x y hxy => V1Rel.lost hl hxy) hall⟩
theorem BlkRel.lost {μ2 : Id → Option Value} {l : List Id} (hl : ∀ id v, μ id = some v → id ∉ l → μ2 id = some v) {hv : Value} {b : Blk} (h : BlkRel μ S w hv b) : BlkRel μ2 S w hv (lostB l b) := by
  cases b with
  | box cs => obtain ⟨b, ty, arr, e1, e2, hall⟩ := h; exact ⟨b, ty, arr, e1, e2, All2.map_left (f := lostC l) (fun x y hxy => CellRel.lost hl hxy) hall⟩
  | row e n t xs => exact h
  | map kt vt es => obtain ⟨r, en, cl, e1, e2, es', hs, hall⟩ := h; exact ⟨r, en, cl, e1, e2, es', hs, hall.mono fun p m ⟨q1, q2⟩ => ⟨q1, valOf_mu q2⟩⟩
  | bld T bid =>
    obtain ⟨b, p, v, e1, e2, e3, e4, e5⟩ := h
    cases hb : hasId l bid with
    | true =>
      rw [show lostB l (.bld T bid) = .box [.undef, .undef] by simp [lostB, hb]]
      exact ⟨b, T, _, e1, e2, by rcases e3 with rfl | rfl <;> rfl, by obtain ⟨A, n, c, rfl⟩ := e5; rfl, trivial⟩
    | false =>
      rw [show lostB l (.bld T bid) = .bld T bid by simp [lostB, hb]]
      exact ⟨b, p, v, e1, e2, e3, hl _ _ e4 (fun hm => by rw [hasId_iff.2 hm] at hb; cases hb), e5⟩
  | buf e l => exact h

theorem lookR_mem : ∀ {m : IdMap} {t id : Id}, lookR m id = some t → (t, id) ∈ m
  | [], _, _, h => by simp [lookR] at h
  | (t', id') :: m, t, id, h => by
    unfold lookR at h
    cases hb : Nat.beq id id' with
    | true =>
      rw [hb] at h
      simp only [cond_true, Option.some.injEq] at h
      rw [Nat.eq_of_beq_eq_true hb, h]; simp
    | false => rw [hb] at h; exact List.mem_cons_of_mem _ (lookR_mem h)
theorem lookR_none : ∀ {m : IdMap} {id : Id}, lookR m id = none → ∀ t, (t, id) ∉ m
  | [], _, _, _ => by simp
  | (t', id') :: m, id, h, t => by
    unfold lookR at h
    cases hb : Nat.beq id id' with
    | true => rw [hb] at h; cases h
    | false =>
      rw [hb] at h
      intro hm
      rcases List.mem_cons.1 hm with e | e
      · simp only [Prod.mk.injEq] at e
        rw [e.2, Nat.beq_refl] at hb; cases hb
      · exact lookR_none h t e

theorem newMap_mem {base : Nat} {m : IdMap} : ∀ {l : List (Id × BS)} {t id : Id}, (t, id) ∈ newMap base m l → id = (look m t).getD (base + t)
  | [], _, _, h => by simp [newMap] at h
  | (t', b) :: l, t, id, h => by
    rcases List.mem_cons.1 h with e | e
    · simp only [Prod.mk.injEq] at e; rw [e.1, e.2]
    · exact newMap_mem e
theorem newMap_look {base : Nat} {m : IdMap} : ∀ {l : List (Id × BS)} {t : Id}, (∃ q ∈ l, q.1 = t) → look (newMap base m l) t = some ((look m t).getD (base + t))
  | [], _, ⟨q, hq, _⟩ => by simp at hq
  | (t', b) :: l, t, ⟨q, hq, e⟩ => by
    show (bif Nat.beq t t' then some ((look m t').getD (base + t')) else look (newMap base m l) t) = _
    cases hb : Nat.beq t t' with
    | true => rw [Nat.eq_of_beq_eq_true hb]; rfl
    | false =>
      rw [cond_false]
      rcases List.mem_cons.1 hq with rfl | hq
      · rw [← e, Nat.beq_refl] at hb; cases hb
      · exact newMap_look ⟨q, hq, e⟩
theorem fresh_mem {heap : Heap} {m : IdMap} : ∀ {l : IdMap} {t id : Id}, freshAll heap m l = true → (t, id) ∈ l → (∃ i, look m t = some i) ∨ heap id = none
  | [], _, _, _, h => by simp at h
  | (t', id') :: l, t, id, hf, h => by
    simp only [freshAll, Bool.and_eq_true] at hf
    rcases List.mem_cons.1 h with e | e
    · simp only [Prod.mk.injEq] at e
      rw [e.1, e.2]
      cases hl : look m t' with
      | some i => exact .inl ⟨i, rfl⟩
      | none => rw [hl] at hf; exact .inr (by simpa using hf.1)
    · exact fresh_mem hf.2 e

end
end Go.Proofs.YtjjepjfjikefiaaB
