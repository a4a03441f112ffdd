/- The core, part 41: drawn regions in which a map is filled: in whatever order, it is the same map. -/
import Derived.Test.YtjjepjfjikefiaaB40
set_option linter.unusedVariables false
namespace Go.Proofs.YtjjepjfjikefiaaB
open Go

section
variable {kt vt : Ty}
def putAll (kt vt : Ty) (es ps : List (kt.den × vt.den)) : List (kt.den × vt.den) := ps.foldl (fun es p => mapPut kt vt es p.1 p.2) es
theorem putAll_same {desc : TypeDesc} (hk : KeyDesc kt desc) : ∀ (ps : List (kt.den × vt.den)) {es es' : List (kt.den × vt.den)}, SameMap kt vt es es' → SameMap kt vt (putAll kt vt es ps) (putAll kt vt es' ps)
  | [], _, _, h => h
  | p :: ps, _, _, h => putAll_same hk ps (h.put hk p.1 p.2)
theorem putAll_move {desc : TypeDesc} (hk : KeyDesc kt desc) (q : kt.den × vt.den) : ∀ (ps es : List (kt.den × vt.den)), (∀ p ∈ ps, p.1 ≠ q.1) → SameMap kt vt (putAll kt vt (mapPut kt vt es q.1 q.2) ps) (mapPut kt vt (putAll kt vt es ps) q.1 q.2)
  | [], es, _ => SameMap.same
  | p :: ps, es, h => (putAll_same hk ps (SameMap.swap hk es (fun e => h p (by simp) e.symm) q.2 p.2)).trans (putAll_move hk q ps (mapPut kt vt es p.1 p.2) fun x hx => h x (by simp [hx]))
theorem putAll_take {desc : TypeDesc} (hk : KeyDesc kt desc) (q : kt.den × vt.den) (l1 l2 es : List (kt.den × vt.den)) (h : ∀ p ∈ l1, p.1 ≠ q.1) : SameMap kt vt (putAll kt vt (mapPut kt vt es q.1 q.2) (l1 ++ l2)) (putAll kt vt es (l1 ++ q :: l2)) := by
  unfold putAll
  rw [List.foldl_append, List.foldl_append, List.foldl_cons]
  exact putAll_same hk l2 (putAll_move hk q l1 es h)
theorem upd_upd {α : Type} (f : Nat → α) (d : Nat) (u v : α) : upd (upd f d u) d v = upd f d v := by
  funext x
  by_cases h : x = d
  · subst h; rw [upd_same, upd_same]
  · rw [upd_other _ _ _ _ h, upd_other _ _ _ _ h, upd_other _ _ _ _ h]
theorem upd_eta {α : Type} (f : Nat → α) (d : Nat) (v : α) (h : f d = v) : upd f d v = f := by
  funext x
  by_cases e : x = d
  · subst e; rw [upd_same]; exact h.symm
  · rw [upd_other _ _ _ _ e]
theorem All2.split {α β : Type} {R : α → β → Prop} : ∀ {l1 : List α} {x : α} {l2 : List α} {ys : List β}, All2 R (l1 ++ x :: l2) ys → ∃ q1 y q2, ys = q1 ++ y :: q2 ∧ All2 R l1 q1 ∧ R x y ∧ All2 R l2 q2
  | [], x, l2, y :: ys, h => ⟨[], y, ys, rfl, trivial, h.1, h.2⟩
  | [], x, l2, [], h => h.elim
  | a :: l1, x, l2, y :: ys, h => by
    obtain ⟨q1, z, q2, e, h1, h2, h3⟩ := All2.split (l1 := l1) h.2
    exact ⟨y :: q1, z, q2, by rw [e]; rfl, ⟨h.1, h1⟩, h2, h3⟩
  | a :: l1, x, l2, [], h => h.elim
end

/-! ### An operation that fills a map -/
def insOf (o : Oper) : Option (TypeId × Nat × IntKind × Int × IntKind × Int) := match o.op, o.guard, o.dst with
  | .insert t (.tmp x) (.const (.int k n)) (.const (.int k' n')), none, none => some (t, x, k, n, k', n')
  | _, _, _ => none
theorem insOf_eq {o : Oper} {t : TypeId} {x : Nat} {k : IntKind} {n : Int} {k' : IntKind} {n' : Int} (h : insOf o = some (t, x, k, n, k', n')) : o.op = .insert t (.tmp x) (.const (.int k n)) (.const (.int k' n')) ∧ o.guard = none ∧ o.dst = none := by
  unfold insOf at h
  split at h
  · rename_i h1 h2 h3
    simp only [Option.some.injEq, Prod.mk.injEq] at h
    obtain ⟨rfl, rfl, rfl, rfl, rfl, rfl⟩ := h
    exact ⟨h1, h2, h3⟩
  · cases h
def insN (all : List Oper) (j : Nat) : Option (Nat × Int) := match all[j]? with
  | some o => match insOf o with | some (_, x, _, n, _, _) => some (x, n) | none => none
  | none => none
def Eff (tb : Nat → Option TI) (all : List Oper) (x : Nat) (kt vt : Ty) (j : Nat) (p : kt.den × vt.den) : Prop := ∃ o t k n k' n', all[j]? = some o ∧ insOf o = some (t, x, k, n, k', n') ∧
  cellD kt (.d (.int k) n) = some p.1 ∧ asmAll vt [.d (.int k') n'] = some p.2 ∧ mapFits (tb t) kt vt = true ∧ (V1.c (.d (.int k') n')).fits vt = true

theorem eff_run {cs : Ctx St} {all : List Oper} {x : Nat} {kt vt : Ty} {j : Nat} {p : kt.den × vt.den} {st : St} {id : Id} {e : List (kt.den × vt.den)} (hE : Eff cs.tb all x kt vt j p) (hx : st.env x = cv (.map id)) (hid : st.heap id = some (.map kt vt e)) :
    ∃ o, all[j]? = some o ∧ aopG cs all o st some = some { st with heap := upd st.heap id (some (.map kt vt (mapPut kt vt e p.1 p.2))) } ∧ ∀ (q : FuncId → Bool) (D : List Id), hasId D id = true → quietAt cs.tb q D all o st = true := by
  obtain ⟨o, t, k, n, k', n', ho, hi, h1, h2, h3, h4⟩ := hE
  obtain ⟨e1, e2, e3⟩ := insOf_eq hi
  have hm : ev st (.tmp x) = some (cv (.map id)) := by show some (st.env x) = _; rw [hx]
  refine ⟨o, ho, ?_, fun q D hD => ?_⟩
  · unfold aopG
    rw [e2, e3]
    simp only [cond_true]
    unfold aop
    simp only [e1]
    have hfr : frz 8 st (fun st => cellsV st (.const (.int k' n'))) = st := rfl
    rw [hfr, hm]
    simp only [show v1 st (.const (.int k n)) = some (.c (.d (.int k) n)) from rfl, show v1 st (.const (.int k' n')) = some (.c (.d (.int k') n')) from rfl, hid]
    rw [h1, show (V1.c (.d (.int k') n')).cells = [.d (.int k') n'] from rfl, h2]
    simp only [h3, h4, Bool.and_self, cond_true, e3]
    rfl
  · unfold quietAt quiet0
    simp only [e1, hm]
    rw [hD]
    simp
theorem eff_of {cs : Ctx St} {all : List Oper} {j : Nat} {o : Oper} (ho : all[j]? = some o) {t : TypeId} {x : Nat} {k : IntKind} {n : Int} {k' : IntKind} {n' : Int} (hi : insOf o = some (t, x, k, n, k', n')) {st s : St} (h : aopG cs all o st some = some s) :
    ∃ id kt vt e p, st.env x = cv (.map id) ∧ st.heap id = some (.map kt vt e) ∧ Eff cs.tb all x kt vt j p ∧ s = { st with heap := upd st.heap id (some (.map kt vt (mapPut kt vt e p.1 p.2))) } := by
  obtain ⟨e1, e2, e3⟩ := insOf_eq hi
  unfold aopG at h
  rw [e2, e3] at h
  simp only [cond_true] at h
  unfold aop at h
  simp only [e1] at h
  have hfr : frz 8 st (fun st => cellsV st (.const (.int k' n'))) = st := rfl
  rw [hfr] at h
  simp only [show ev st (.tmp x) = some (st.env x) from rfl, show v1 st (.const (.int k n)) = some (.c (.d (.int k) n)) from rfl, show v1 st (.const (.int k' n')) = some (.c (.d (.int k') n')) from rfl] at h
  split at h
  · rename_i id kc xv hx hkc hxv
    simp only [Option.some.injEq] at hx hkc hxv
    cases hkc
    subst hxv
    split at h
    · rename_i kt vt e hid
      split at h
      · rename_i kd vd hkd hvd
        have hf := (cond_some h).1
        replace h := (cond_some h).2
        simp only [Bool.and_eq_true] at hf
        simp only [e3, Option.some.injEq] at h
        exact ⟨id, kt, vt, e, (kd, vd), hx, hid, ⟨o, t, k, n, k', n', ho, hi, hkd, hvd, hf.1, hf.2⟩, h.symm⟩
      · cases h
    · cases h
  · cases h

def runG (cs : Ctx St) (all : List Oper) : List Nat → St → Option St
  | [], st => some st
  | i :: is, st => match all[i]? with
    | some o => (aopG cs all o st some).bind fun s => runG cs all is s
    | none => none
theorem runG_eff {cs : Ctx St} {all : List Oper} {x : Nat} {kt vt : Ty} {id : Id} : ∀ (rs : List Nat) (st s : St) (e : List (kt.den × vt.den)), (∀ j ∈ rs, ∃ o t k n k' n', all[j]? = some o ∧ insOf o = some (t, x, k, n, k', n')) → st.env x = cv (.map id) → st.heap id = some (.map kt vt e) →
    runG cs all rs st = some s → ∃ ps, All2 (Eff cs.tb all x kt vt) rs ps ∧ s = { st with heap := upd st.heap id (some (.map kt vt (putAll kt vt e ps))) }
  | [], st, s, e, _, _, hid, h => by
    simp only [runG, Option.some.injEq] at h
    subst h
    exact ⟨[], trivial, by show st = { st with heap := upd st.heap id (some (.map kt vt e)) }; rw [upd_eta _ _ _ hid]⟩
  | j :: rs, st, s, e, hall, hx, hid, h => by
    obtain ⟨o, t, k, n, k', n', ho, hi⟩ := hall j (by simp)
    unfold runG at h
    rw [ho] at h
    obtain ⟨s1, h1, h2⟩ := Option.bind_eq_some_iff.1 h
    obtain ⟨id', kt', vt', e', p, g1, g2, g3, g4⟩ := eff_of ho hi h1
    rw [hx] at g1
    have : id = id' := by
      have := g1
      simp only [cv, AV.one.injEq, V1.c.injEq, Cell.map.injEq] at this
      exact this
    subst this
    rw [hid] at g2
    simp only [Option.some.injEq, Blk.map.injEq] at g2
    obtain ⟨rfl, rfl, g2⟩ := g2
    obtain rfl := eq_of_heq g2
    subst g4
    obtain ⟨ps, q1, q2⟩ := runG_eff rs { st with heap := upd st.heap id (some (.map kt vt (mapPut kt vt e p.1 p.2))) } s (mapPut kt vt e p.1 p.2) (fun i hi => hall i (by simp [hi])) hx (upd_same _ _ _) h2
    exact ⟨p :: ps, ⟨g3, q1⟩, by rw [q2]; simp only [upd_upd]; rfl⟩

/-! ### What is listed -/
def setAll (listed : Array Bool) (D : List Nat) : Array Bool := D.foldl (fun l i => l.setIfInBounds i true) listed
theorem setAll_get : ∀ (D : List Nat) (listed : Array Bool) (j : Nat), (setAll listed D)[j]? = if j ∈ D then (listed[j]?).map (fun _ => true) else listed[j]?
  | [], listed, j => by simp [setAll]
  | i :: D, listed, j => by
    show (setAll (listed.setIfInBounds i true) D)[j]? = _
    rw [setAll_get D]
    by_cases h : j = i
    · subst h
      rw [Array.getElem?_setIfInBounds_self]
      by_cases hl : j < listed.size
      · rw [if_pos hl, Array.getElem?_eq_getElem hl]; simp
      · rw [if_neg hl, Array.getElem?_eq_none (by omega)]; simp
    · rw [Array.getElem?_setIfInBounds_ne (fun e => h e.symm)]
      simp [h]
theorem setAll_congr {listed : Array Bool} {D D' : List Nat} (h : ∀ j, j ∈ D ↔ j ∈ D') : setAll listed D = setAll listed D' := by
  apply Array.ext_getElem?
  intro j
  rw [setAll_get, setAll_get]
  simp only [h j]
theorem setAll_snoc (listed : Array Bool) (D : List Nat) (j : Nat) : setAll listed (D ++ [j]) = (setAll listed D).setIfInBounds j true := by simp [setAll]
theorem memR {ops : Array Oper} {listed : Array Bool} {j : Nat} : j ∈ Region.ready .any ops listed ↔ listed[j]? = some false ∧ ∃ o, ops[j]? = some o ∧ ∀ e ∈ o.after, Region.binds .any e = true → listed[e.on]? = some true := by
  have h1 : ∀ i, listed.getD i true = false ↔ listed[i]? = some false := by
    intro i
    rw [Array.getD_eq_getD_getElem?]
    cases listed[i]? <;> simp
  have h2 : ∀ i, listed.getD i false = true ↔ listed[i]? = some true := by
    intro i
    rw [Array.getD_eq_getD_getElem?]
    cases listed[i]? <;> simp
  rw [mem_ready]
  simp only [h1, h2]
def cnt (listed : Array Bool) : Nat := listed.toList.count false
theorem cnt_set {listed : Array Bool} {i : Nat} (h : listed[i]? = some false) : cnt (listed.setIfInBounds i true) + 1 = cnt listed := by
  have hl : i < listed.size := (Array.getElem?_eq_some_iff.1 h).1
  have he : listed[i] = false := (Array.getElem?_eq_some_iff.1 h).2
  unfold cnt
  rw [Array.toList_setIfInBounds, List.count_set (by simpa using hl)]
  have hpos : 0 < listed.toList.count false := List.count_pos_iff.2 (by
    rw [← he]
    exact Array.getElem_mem_toList hl)
  have : listed.toList[i]'(by simpa using hl) = false := by simpa using he
  rw [this]
  simp only [beq_self_eq_true, if_true, show (true == false) = false from rfl, Bool.false_eq_true, if_false]
  omega

/-! ### Which operations fill one map, and then alone may come up -/
def distN : List Int → Bool
  | [] => true
  | x :: r => r.all (fun y => !decide (y = x)) && distN r
def grpOK (ops : Array Oper) (listed : Array Bool) (rs : List Nat) : Bool := match rs with
  | [] => false
  | g0 :: _ => match insN ops.toList g0 with
    | none => false
    | some (x, _) => rs.all (fun j => match insN ops.toList j with | some (y, _) => Nat.beq y x | none => false) &&
        distN (rs.map fun j => ((insN ops.toList j).map (·.2)).getD 0) &&
        rs.all fun g => match Region.ready .any ops (setAll listed (rs.filter fun j => !Nat.beq j g)) with | [a] => Nat.beq a g | _ => false
theorem insN_some {all : List Oper} {j y : Nat} {n : Int} (h : insN all j = some (y, n)) : ∃ o t k k' n', all[j]? = some o ∧ insOf o = some (t, y, k, n, k', n') := by
  unfold insN at h
  split at h
  · rename_i o ho
    split at h
    · rename_i t x k m k' n' hi
      simp only [Option.some.injEq, Prod.mk.injEq] at h
      obtain ⟨rfl, rfl⟩ := h
      exact ⟨o, t, k, k', n', ho, hi⟩
    · cases h
  · cases h
theorem eff_key {tb : Nat → Option TI} {all : List Oper} {x : Nat} {kt vt : Ty} {j : Nat} {p : kt.den × vt.den} (h : Eff tb all x kt vt j p) : ∃ k, ∃ hk : kt = .int k, p.1 = hk ▸ (show Int from ((insN all j).map (·.2)).getD 0) := by
  obtain ⟨o, t, k, n, k', n', ho, hi, h1, _⟩ := h
  have hn : insN all j = some (x, n) := by unfold insN; rw [ho]; simp only [hi]
  rw [hn]
  replace h1 : castTo kt (.int k) n = some p.1 := h1
  unfold castTo at h1
  split at h1
  · rename_i e
    subst e
    simp only [Option.some.injEq] at h1
    exact ⟨k, rfl, h1.symm⟩
  · cases h1
theorem pairs_distinct {tb : Nat → Option TI} {all : List Oper} {x : Nat} {kt vt : Ty} : ∀ {rs : List Nat} {ps : List (kt.den × vt.den)}, All2 (Eff tb all x kt vt) rs ps → distN (rs.map fun j => ((insN all j).map (·.2)).getD 0) = true → ps.Pairwise fun p q => p.1 ≠ q.1
  | [], [], _, _ => List.Pairwise.nil
  | j :: rs, p :: ps, ⟨h, hr⟩, hd => by
    simp only [List.map_cons, distN, Bool.and_eq_true, List.all_eq_true, List.mem_map, forall_exists_index, and_imp, forall_apply_eq_imp_iff₂, Bool.not_eq_true', decide_eq_false_iff_not] at hd
    refine List.Pairwise.cons (fun q hq => ?_) (pairs_distinct hr hd.2)
    have key : ∀ {rs : List Nat} {ps : List (kt.den × vt.den)}, All2 (Eff tb all x kt vt) rs ps → ∀ q ∈ ps, ∃ i ∈ rs, Eff tb all x kt vt i q := by
      intro rs
      induction rs with
      | nil => intro ps h q hq; cases ps with
        | nil => cases hq
        | cons _ _ => exact h.elim
      | cons i rs ih => intro ps h q hq; cases ps with
        | nil => cases hq
        | cons p ps =>
          rcases List.mem_cons.1 hq with rfl | hq
          · exact ⟨i, by simp, h.1⟩
          · obtain ⟨i', h1, h2⟩ := ih h.2 q hq
            exact ⟨i', by simp [h1], h2⟩
    obtain ⟨i, hi, hE⟩ := key hr q hq
    have hne := hd.1 i hi
    obtain ⟨k, rfl, e1⟩ := eff_key h
    obtain ⟨k2, hk2, e2⟩ := eff_key hE
    cases hk2
    rw [e1, e2]
    exact fun e => hne e.symm
  | [], _ :: _, h, _ => h.elim
  | _ :: _, [], h, _ => h.elim
theorem grp_spec {ops : Array Oper} {listed : Array Bool} {rs : List Nat} (h : grpOK ops listed rs = true) : rs ≠ [] ∧ ∃ x, (∀ j ∈ rs, ∃ o t k n k' n', ops.toList[j]? = some o ∧ insOf o = some (t, x, k, n, k', n')) ∧
    distN (rs.map fun j => ((insN ops.toList j).map (·.2)).getD 0) = true ∧ ∀ g ∈ rs, Region.ready .any ops (setAll listed (rs.filter fun j => !Nat.beq j g)) = [g] := by
  unfold grpOK at h
  split at h
  · cases h
  · rename_i g0 tl
    split at h
    · cases h
    · rename_i x n0 hx
      simp only [Bool.and_eq_true, List.all_eq_true] at h
      obtain ⟨⟨h1, h2⟩, h3⟩ := h
      refine ⟨by simp, x, fun j hj => ?_, h2, fun g hg => ?_⟩
      · have := h1 j hj
        split at this
        · rename_i y n hy
          have := Nat.eq_of_beq_eq_true this
          subst this
          obtain ⟨o, t, k, k', n', ho, hi⟩ := insN_some hy
          exact ⟨o, t, k, n, k', n', ho, hi⟩
        · cases this
      · have := h3 g hg
        split at this
        · rename_i a ha
          rw [ha, Nat.eq_of_beq_eq_true this]
        · cases this
end Go.Proofs.YtjjepjfjikefiaaB
