/- The core, part 12: maps of the function's own; function values. -/
import Derived.Test.YtjjepjfjikefiaaB11
set_option linter.unusedVariables false
namespace Go.Proofs.YtjjepjfjikefiaaB
open Go

section
variable {R : Type} {P : Program} {nt : Nat} {w0 : World} {O : Own} {μ : Id → Option Value} {S : Nat → Prop} {st : St} {a : Act} {w : World} {o : Oper} {K : St → Option R} {r : R} {Q : Exit → Act → World → Prop}

def MapRel (μ : Id → Option Value) (S : Nat → Prop) (w : World) (kt vt : Ty) (p : kt.den × vt.den) (m : MapEntry) : Prop := Reads S w kt p.1 [m.key] ∧ V1Rel μ S w (valOf vt p.2) m.val

/-- a key's type -/
def KeyDesc : Ty → TypeDesc → Prop
  | .int k, desc => desc = .int k
  | .str, desc => desc = .string
  | _, _ => False

theorem mapFits_ok {cx : Ctx R} (hcx : ∀ t ti, cx.tb t = some ti → TIok P t ti) {t : TypeId} {kt vt : Ty} (h : mapFits (cx.tb t) kt vt = true) : KindOK P t (.map kt vt) := by
  unfold mapFits at h
  cases ht : cx.tb t with
  | none => rw [ht] at h; cases h
  | some ti =>
    rw [ht] at h
    simp only at h
    have hk := (hcx _ _ ht).kind
    cases hkd : ti.kind with
    | map k v =>
      rw [hkd] at h hk
      simp only [Bool.and_eq_true, decide_eq_true_eq] at h
      obtain ⟨rfl, rfl⟩ := h
      exact hk
    | scalar => rw [hkd] at h; cases h
    | struct fs => rw [hkd] at h; cases h
    | slice e => rw [hkd] at h; cases h
    | iface => rw [hkd] at h; cases h
    | bld e => rw [hkd] at h; cases h

/-- keys that are compared -/
theorem key_same {kt : Ty} {desc : TypeDesc} (hk : KeyDesc kt desc) {x y : kt.den} {u v : Value} (hx : Reads S w kt x [u]) (hy : Reads S w kt y [v]) :
    Instr.sameNow desc u v = some ((eqD kt x y).getD false) ∧ ((eqD kt x y).getD false = true → u = v) ∧ Instr.sameBits 10000 u u = true := by
  cases kt <;> simp only [KeyDesc] at hk
  · subst hk
    have e1 : [u] = [.int _ x] := hx
    have e2 : [v] = [.int _ y] := hy
    simp only [List.cons.injEq, and_true] at e1 e2
    subst e1 e2
    refine ⟨by simp [Instr.sameNow, eqD], fun h => ?_, by simp [Instr.sameBits]⟩
    have : x = y := by simpa [eqD] using h
    rw [this]
  · subst hk
    obtain ⟨s1, e1, h1⟩ := hx
    obtain ⟨s2, e2, h2⟩ := hy
    simp only [List.cons.injEq, and_true] at e1 e2
    subst e1 e2 h1 h2
    refine ⟨?_, fun h => ?_, by rw [show (10000 : Nat) = 9999 + 1 from rfl]; simp only [Instr.sameBits]; rw [beq_toListBytes]; exact beq_self_eq_true _⟩
    · simp only [Instr.sameNow, eqD, Option.getD_some]
      rw [beq_toListBytes, ByteArray.toList_eq, ByteArray.toList_eq]
    · have h3 : s1.data.toList = s2.data.toList := by simpa [eqD] using h
      have h4 : s1 = s2 := by
        cases s1; cases s2
        simp only [ByteArray.mk.injEq]
        exact Array.toList_inj.1 h3
      rw [h4]

theorem find_ok {kt vt : Ty} {desc : TypeDesc} (hk : KeyDesc kt desc) {x : kt.den} {u : Value} (hx : Reads S w kt x [u]) (v : vt.den) :
    ∀ (es : List (kt.den × vt.den)) (entries : List MapEntry) (i : Nat), All2 (MapRel μ S w kt vt) es entries →
      (mapHas kt vt es x = false ∧ Instr.findNow desc u entries i = some none ∧ mapGet kt vt es x = vt.dflt ∧ mapPut kt vt es x v = es ++ [(x, v)]) ∨
      (∃ j e, mapHas kt vt es x = true ∧ Instr.findNow desc u entries i = some (some (i + j, e.val)) ∧ entries[j]? = some e ∧ e.key = u ∧ V1Rel μ S w (valOf vt (mapGet kt vt es x)) e.val ∧
        ∀ e' : MapEntry, MapRel μ S w kt vt (x, v) e' → All2 (MapRel μ S w kt vt) (mapPut kt vt es x v) (entries.set j e'))
  | [], [], i, _ => .inl ⟨rfl, rfl, rfl, rfl⟩
  | (k, y) :: es, m :: ms, i, ⟨⟨hm1, hm2⟩, hall⟩ => by
    obtain ⟨h1, h2, _⟩ := key_same hk hx hm1
    cases hb : (eqD kt x k).getD false with
    | true =>
      refine .inr ⟨0, m, by simp [mapHas, hb], ?_, rfl, (h2 hb).symm, by simpa [mapGet, hb] using hm2, fun e' he => ?_⟩
      · simp [Instr.findNow, h1, hb]
      · simp only [mapPut, hb, cond_true, List.set_cons_zero]
        exact ⟨he, hall⟩
    | false =>
      rcases find_ok hk hx v es ms (i + 1) hall with ⟨g1, g2, g3, g4⟩ | ⟨j, e, g1, g2, g3, g4, g5, g6⟩
      · exact .inl ⟨by simp [mapHas, hb, g1], by simp [Instr.findNow, h1, hb, g2], by simp [mapGet, hb, g3], by simp [mapPut, hb, g4]⟩
      · refine .inr ⟨j + 1, e, by simp [mapHas, hb, g1], ?_, by simpa using g3, g4, by simpa [mapGet, hb] using g5, fun e' he => ?_⟩
        · simp only [Instr.findNow, h1, hb, g2]
          congr 3
          omega
        · simp only [mapPut, hb, cond_false, List.set_cons_succ]
          exact ⟨⟨hm1, hm2⟩, g6 e' he⟩
  | [], _ :: _, _, h => h.elim
  | _ :: _, [], _, h => h.elim

theorem key_eq {kt : Ty} {desc : TypeDesc} (hk : KeyDesc kt desc) (x y : kt.den) : (eqD kt x y).getD false = true ↔ x = y := by
  cases kt <;> simp only [KeyDesc] at hk <;> simp [eqD]
theorem get_put {kt vt : Ty} {desc : TypeDesc} (hk : KeyDesc kt desc) (k : kt.den) (v : vt.den) (x : kt.den) : ∀ es : List (kt.den × vt.den),
    mapGet kt vt (mapPut kt vt es k v) x = (bif (eqD kt x k).getD false then v else mapGet kt vt es x) ∧ mapHas kt vt (mapPut kt vt es k v) x = ((eqD kt x k).getD false || mapHas kt vt es x)
  | [] => by
    simp only [mapPut, mapGet, mapHas]
    cases (eqD kt x k).getD false <;> simp
  | (k0, u) :: es => by
    obtain ⟨h1, h2⟩ := get_put hk k v x es
    simp only [mapPut]
    cases hb : (eqD kt k k0).getD false with
    | true =>
      have := (key_eq hk _ _).1 hb
      subst this
      simp only [cond_true, mapGet, mapHas]
      cases (eqD kt x k).getD false <;> simp
    | false =>
      simp only [cond_false, mapGet, mapHas, h1, h2]
      cases h3 : (eqD kt x k0).getD false with
      | false => cases (eqD kt x k).getD false <;> simp
      | true =>
        cases h4 : (eqD kt x k).getD false with
        | false => simp
        | true =>
          have e1 := (key_eq hk _ _).1 h3
          have e2 := (key_eq hk _ _).1 h4
          rw [(key_eq hk _ _).2 (e2.symm.trans e1)] at hb
          cases hb
theorem put_length {kt vt : Ty} (k : kt.den) (v : vt.den) : ∀ es : List (kt.den × vt.den), (mapPut kt vt es k v).length = bif mapHas kt vt es k then es.length else es.length + 1
  | [] => rfl
  | (k0, u) :: es => by
    simp only [mapPut, mapHas]
    cases (eqD kt k k0).getD false with
    | true => rfl
    | false =>
      simp only [cond_false, List.length_cons, put_length k v es]
      cases mapHas kt vt es k <;> rfl
theorem SameMap.put {kt vt : Ty} {desc : TypeDesc} (hk : KeyDesc kt desc) {es es' : List (kt.den × vt.den)} (h : SameMap kt vt es es') (k : kt.den) (v : vt.den) : SameMap kt vt (mapPut kt vt es k v) (mapPut kt vt es' k v) := ⟨by rw [put_length, put_length, (h.2 k).2, h.1], fun x => by
  rw [(get_put hk k v x es).1, (get_put hk k v x es').1, (get_put hk k v x es).2, (get_put hk k v x es').2, (h.2 x).1, (h.2 x).2]
  exact ⟨rfl, rfl⟩⟩
/-- two keys that differ, in either order -/
theorem SameMap.swap {kt vt : Ty} {desc : TypeDesc} (hk : KeyDesc kt desc) (es : List (kt.den × vt.den)) {k k' : kt.den} (hne : k ≠ k') (v v' : vt.den) : SameMap kt vt (mapPut kt vt (mapPut kt vt es k v) k' v') (mapPut kt vt (mapPut kt vt es k' v') k v) := ⟨by
  rw [put_length, put_length, put_length, put_length, (get_put hk k v k' es).2, (get_put hk k' v' k es).2]
  have h1 : (eqD kt k' k).getD false = false := by
    cases hb : (eqD kt k' k).getD false with
    | false => rfl
    | true => exact absurd ((key_eq hk _ _).1 hb).symm hne
  have h2 : (eqD kt k k').getD false = false := by
    cases hb : (eqD kt k k').getD false with
    | false => rfl
    | true => exact absurd ((key_eq hk _ _).1 hb) hne
  rw [h1, h2]
  cases mapHas kt vt es k <;> cases mapHas kt vt es k' <;> rfl, fun x => by
  rw [(get_put hk k' v' x _).1, (get_put hk k v x _).1, (get_put hk k v x _).1, (get_put hk k' v' x _).1, (get_put hk k' v' x _).2, (get_put hk k v x _).2, (get_put hk k v x _).2, (get_put hk k' v' x _).2]
  cases h1 : (eqD kt x k).getD false with
  | false => cases (eqD kt x k').getD false <;> exact ⟨rfl, rfl⟩
  | true =>
    cases h2 : (eqD kt x k').getD false with
    | false => exact ⟨rfl, rfl⟩
    | true => exact absurd (((key_eq hk _ _).1 h1).symm.trans ((key_eq hk _ _).1 h2)) hne⟩

theorem checkKey_ok {kt : Ty} {kT : TypeId} {desc : TypeDesc} (hk : KeyDesc kt desc) (hu : P.underlying kT = some desc) {x : kt.den} {u : Value} (hx : Reads S w kt x [u]) (e : Bool) (w1 : World) :
    (Instr.checkKey e 10000 kT u).run P w1 = .ok () w1 := by
  cases kt <;> simp only [KeyDesc] at hk
  · subst hk
    have e1 : [u] = [.int _ x] := hx
    simp only [List.cons.injEq, and_true] at e1
    subst e1
    show (Instr.checkKey e (9999 + 1) kT _).run P w1 = _
    unfold Instr.checkKey
    simp [Go.underlying, hu]
  · subst hk
    obtain ⟨s1, e1, h1⟩ := hx
    simp only [List.cons.injEq, and_true] at e1
    subst e1
    show (Instr.checkKey e (9999 + 1) kT _).run P w1 = _
    unfold Instr.checkKey
    simp [Go.underlying, hu]

/-- the fields of KindOK for a map -/
theorem map_desc {t : TypeId} {kt vt : Ty} (h : KindOK P t (.map kt vt)) : ∃ kT vT desc, P.underlying t = some (.map kT vT) ∧ P.underlying kT = some desc ∧ KeyDesc kt desc ∧
    ∃ i z, P.info? vT = some i ∧ i.zero = some z ∧ (∀ S w, Reads S w vt vt.dflt z.cells.toList) ∧ (vt.isAgg = true → ∃ cs, z = .agg cs) ∧ (vt.isAgg = false → z.oneCell' = true) := by
  obtain ⟨kT, vT, h1, h2, h3⟩ := h
  cases kt <;> simp only at h2
  · exact ⟨kT, vT, _, h1, h2, rfl, h3⟩
  · exact ⟨kT, vT, _, h1, h2, rfl, h3⟩

theorem val_rel {vt : Ty} {x : vt.den} {v : Value} (hr : Reads S w vt x v.cells.toList) (h1 : vt.isAgg = true → ∃ cs, v = .agg cs) (h2 : vt.isAgg = false → v.oneCell' = true) : V1Rel μ S w (valOf vt x) v := by
  obtain ⟨g1, g2⟩ := valOf_rel (μ := μ) hr
  cases ha : vt.isAgg with
  | true =>
    obtain ⟨cs, rfl⟩ := h1 ha
    simpa [Value.cells] using g1 ha
  | false =>
    have := cells_one (h2 ha)
    exact g2 ha v (by rw [this])

theorem makeMap_gen (h : Rel nt w0 O μ S st a w) (hd : ∀ d, o.dst = some d → d < nt ∧ O.np ≤ d) {t : TypeId} (ho : o.op = .makeMap t none) {kt vt : Ty} {id : Id} (hid : st.heap id = none) (hlt : ¬ KeptId id) :
    (execOp a.eval o).run P w = .ok (.value (.map (some w.heap.size))) (w.alloc (.map #[] 0)) ∧ Rel nt w0 O (upd μ id (some (.map (some w.heap.size)))) S (({ st with heap := upd st.heap id (some (.map kt vt [])) } : St).put o.dst (cv (.map id))) (a.put o.dst (.map (some w.heap.size))) (w.alloc (.map #[] 0)) := by
  have hrun : (execOp a.eval o).run P w = .ok (.value (.map (some w.heap.size))) (w.alloc (.map #[] 0)) := by
    simp [execOp, ho, Instr.makeMap]
  have hrel := h.alloc (id := id) (hv := .map (some w.heap.size)) (nb := .map kt vt []) ⟨hid, hlt⟩ (grown_alloc w _) (fun k hk => by simp only [blockOf, Option.some.injEq] at hk; subst hk; simp) ⟨w.heap.size, #[], 0, rfl, heap_alloc_new w _, [], SameMap.same, trivial⟩
  exact ⟨hrun, hrel.put hd (of_cell (c := .map id) ⟨upd_same _ _ _, _, rfl⟩)⟩
theorem makeMap_ok (h : Rel nt w0 O μ S st a w) (hd : ∀ d, o.dst = some d → d < nt ∧ O.np ≤ d) {t : TypeId} (ho : o.op = .makeMap t none) {kt vt : Ty} {id : Id}
    (hK : (st.new id (.map kt vt []) fun st => K (st.put o.dst (cv (.map id)))) = some r) : o.wp P a w (Next nt w0 O K r) Q := by
  obtain ⟨hid, hK⟩ := new_ok hK
  obtain ⟨hrun, hrel⟩ := makeMap_gen (P := P) h hd ho (kt := kt) (vt := vt) hid.1 hid.2
  unfold Oper.wp
  rw [hrun]
  exact ⟨_, _, S, hK, hrel⟩

theorem grown_setObj (w : World) (g : Nat) (o : Obj) : w.grownBy { w with heap := w.heap.setIfInBounds g o } (some g) :=
  ⟨rfl, rfl, rfl, by simp, fun k _ hk => by
    have : g ≠ k := fun e => hk (by rw [e])
    simp [Array.getElem?_setIfInBounds_ne this]⟩

theorem mapPut_gen (h : Rel nt w0 O μ S st a w) (hd : ∀ d, o.dst = some d → d < nt ∧ O.np ≤ d) {t : TypeId} {m k x : Operand} (ho : o.op = .insert t m k x ∨ o.op = .mapUpdate t m k x) {kt vt : Ty} (hk : KindOK P t (.map kt vt)) {id : Id} {es : List (kt.den × vt.den)}
    (hm : ev st m = some (cv (.map id))) (hid : st.heap id = some (.map kt vt es)) {kc : Cell} (hkc : v1 st k = some (.c kc)) {kd : kt.den} (hkd : cellD kt kc = some kd) {xv : V1} (hx : v1 st x = some xv) {vd : vt.den} (hvd : asmAll vt xv.cells = some vd)
    (hfit : xv.fits vt = true) : ∃ w' q, (execOp a.eval o).run P w = .ok .skip w' ∧ w.grownBy w' (some q) ∧ μ id = some (.map (some q)) ∧
      Rel nt w0 O μ S (({ st with heap := upd st.heap id (some (.map kt vt (mapPut kt vt es kd vd))) } : St).put o.dst skipA) (a.put o.dst undef) w' := by
  obtain ⟨kT, vT, desc, hu, huk, hdesc, _⟩ := map_desc hk
  have hkr := cellD_ok (v1_ok h hkc : CellRel μ S w kc (a.eval k)) hkd
  have hxr := v1_ok h hx
  have hvr : V1Rel μ S w (valOf vt vd) (a.eval x) := by
    refine val_rel (asmAll_ok hxr.cells hvd) (fun ha => ?_) (fun ha => ?_)
    · cases xv with
      | c c => simp [V1.fits, ha] at hfit
      | agg cs => obtain ⟨arr, e, _⟩ := hxr; exact ⟨arr, e⟩
    · cases xv with
      | c c => exact CellRel.oneCell hxr
      | agg cs => simp [V1.fits, ha] at hfit
  obtain ⟨hv, hmu, q, entries, clock, rfl, hw, es0, hsame, hall⟩ := h.blks _ _ hid
  obtain ⟨hm1, _⟩ := cell_of (ev_ok h hm) rfl
  rw [hmu] at hm1
  simp only [Option.some.injEq] at hm1
  have hlt : q < w.heap.size := (Array.getElem?_eq_some_iff.1 hw).1
  have hget : (getObj q).run P w = .ok (.map entries clock) w := by simp [getObj, Sem.run, hw]
  have hset : ∀ o' : Obj, (setObj q o').run P w = .ok () { w with heap := w.heap.setIfInBounds q o' } := fun o' => by simp [setObj, Sem.run, hw]
  have hck := fun e => checkKey_ok (P := P) hdesc huk hkr e w
  have hfk : ∀ res, Instr.findNow desc (a.eval k) entries.toList 0 = some res → (Instr.findKey kT (a.eval k) entries.toList).run P w = .ok res w := fun res hr => by simp [Instr.findKey, Go.underlying, huk, hr]
  have hback : ∀ (es' : List (kt.den × vt.den)) (en' : Array MapEntry) (cl' : Nat), All2 (MapRel μ S w kt vt) es' en'.toList → mapPut kt vt es0 kd vd = es' →
      (execOp a.eval o).run P w = .ok .skip { w with heap := w.heap.setIfInBounds q (.map en' cl') } → ∃ w' q, (execOp a.eval o).run P w = .ok .skip w' ∧ w.grownBy w' (some q) ∧ μ id = some (.map (some q)) ∧
      Rel nt w0 O μ S (({ st with heap := upd st.heap id (some (.map kt vt (mapPut kt vt es kd vd))) } : St).put o.dst skipA) (a.put o.dst undef) w' := by
    intro es' en' cl' hall' hes hrun
    subst hes
    have hg := grown_setObj w q (.map en' cl')
    have hsf := h.s_frame hg (id := id) (hv := .map (some q)) (fun k e => by simp only [Option.some.injEq] at e; subst e; exact ⟨hmu, rfl⟩)
    have hrel := h.update hid hmu hg (nb := .map kt vt (mapPut kt vt es kd vd)) ⟨q, en', cl', rfl, by simp [hlt], _, hsame.put hdesc kd vd, hall'.mono fun p m ⟨g1, g2⟩ => ⟨g1.frame hsf, g2.frame hsf⟩⟩
    exact ⟨_, q, hrun, hg, hmu, hrel.put hd (v := skipA) (u := undef) ⟨#[], rfl, trivial⟩⟩
  rcases find_ok hdesc hkr vd es0 entries.toList 0 hall with ⟨_, g2, _, g4⟩ | ⟨j, e, _, g2, g3, g4, _, g6⟩
  · refine hback _ (entries.push { key := a.eval k, val := a.eval x, born := clock }) (clock + 1) ?_ g4 ?_
    · rw [Array.toList_push]
      exact All2.append hall ⟨⟨hkr, hvr⟩, trivial⟩
    · rcases ho with ho | ho <;> simp [execOp, ho, Instr.mapUpdate, Go.underlying, hu, ← hm1, hget, hck, hfk _ g2, hset]
  · simp only [Nat.zero_add] at g2
    have g3' : entries[j]? = some e := by rw [← Array.getElem?_toList]; exact g3
    have hjlt : j < entries.size := (Array.getElem?_eq_some_iff.1 g3').1
    have hje : entries[j] = e := (Array.getElem?_eq_some_iff.1 g3').2
    have hbits : Instr.sameBits 10000 e.key (a.eval k) = true := by rw [g4]; exact (key_same hdesc hkr hkr).2.2
    have hmod : entries.modify j (fun e => { e with key := a.eval k, val := a.eval x }) = entries.set j { e with key := a.eval k, val := a.eval x } hjlt := by
      apply Array.ext
      · simp
      · intro i h1 h2
        simp only [Array.getElem_modify, Array.getElem_set]
        split
        · rename_i hji; subst hji; rw [hje]
        · rfl
    refine hback _ (entries.set j { e with key := a.eval k, val := a.eval x } hjlt) clock ?_ rfl ?_
    · rw [Array.toList_set]
      exact g6 _ ⟨hkr, hvr⟩
    · rcases ho with ho | ho <;> simp [execOp, ho, Instr.mapUpdate, Go.underlying, hu, ← hm1, hget, hck, hfk _ g2, hset, Instr.keyThatStays, g3', hbits, hmod]

theorem mapPut_ok (h : Rel nt w0 O μ S st a w) (hd : ∀ d, o.dst = some d → d < nt ∧ O.np ≤ d) {t : TypeId} {m k x : Operand} (ho : o.op = .insert t m k x ∨ o.op = .mapUpdate t m k x) {kt vt : Ty} (hk : KindOK P t (.map kt vt)) {id : Id} {es : List (kt.den × vt.den)}
    (hm : ev st m = some (cv (.map id))) (hid : st.heap id = some (.map kt vt es)) {kc : Cell} (hkc : v1 st k = some (.c kc)) {kd : kt.den} (hkd : cellD kt kc = some kd) {xv : V1} (hx : v1 st x = some xv) {vd : vt.den} (hvd : asmAll vt xv.cells = some vd)
    (hfit : xv.fits vt = true) (hK : K (({ st with heap := upd st.heap id (some (.map kt vt (mapPut kt vt es kd vd))) } : St).put o.dst skipA) = some r) : o.wp P a w (Next nt w0 O K r) Q := by
  obtain ⟨w', q, hrun, _, _, hrel⟩ := mapPut_gen (P := P) h hd ho hk hm hid hkc hkd hx hvd hfit
  unfold Oper.wp
  rw [hrun]
  exact ⟨_, μ, S, hK, hrel⟩

theorem lookup_gen (h : Rel nt w0 O μ S st a w) (hd : ∀ d, o.dst = some d → d < nt ∧ O.np ≤ d) {t : TypeId} {m k : Operand} {ok : Bool} (ho : o.op = .lookup t m k ok) {kt vt : Ty} (hk : KindOK P t (.map kt vt)) {id : Id} {es : List (kt.den × vt.den)}
    (hm : ev st m = some (cv (.map id))) (hid : st.heap id = some (.map kt vt es)) {kc : Cell} (hkc : v1 st k = some (.c kc)) {kd : kt.den} (hkd : cellD kt kc = some kd) {v : AV}
    (hv : v = bif ok then .tup [valOf vt (mapGet kt vt es kd), .c (.d .bool (mapHas kt vt es kd))] else .one (valOf vt (mapGet kt vt es kd))) : ∃ u, (execOp a.eval o).run P w = .ok (.value u) w ∧ AVRel μ S w v u := by
  obtain ⟨kT, vT, desc, hu, huk, hdesc, i, z, hi, hz, hzr, hz1, hz2⟩ := map_desc hk
  have hkr := cellD_ok (v1_ok h hkc : CellRel μ S w kc (a.eval k)) hkd
  obtain ⟨hv0, hmu, q, entries, clock, rfl, hw, es0, hsame, hall⟩ := h.blks _ _ hid
  obtain ⟨hm1, _⟩ := cell_of (ev_ok h hm) rfl
  rw [hmu] at hm1
  simp only [Option.some.injEq] at hm1
  have hget : (getObj q).run P w = .ok (.map entries clock) w := by simp [getObj, Sem.run, hw]
  have hck := fun e => checkKey_ok (P := P) hdesc huk hkr e w
  have hfk : ∀ res, Instr.findNow desc (a.eval k) entries.toList 0 = some res → (Instr.findKey kT (a.eval k) entries.toList).run P w = .ok res w := fun res hr => by simp [Instr.findKey, Go.underlying, huk, hr]
  have fin : ∀ (u : Value) (has : Bool), V1Rel μ S w (valOf vt (mapGet kt vt es kd)) u → mapHas kt vt es kd = has → (execOp a.eval o).run P w = .ok (.value (if ok then .tuple #[u, .bool has] else u)) w → ∃ u, (execOp a.eval o).run P w = .ok (.value u) w ∧ AVRel μ S w v u := by
    intro u has hr hh hrun
    refine ⟨_, hrun, ?_⟩
    subst hv
    cases ok with
    | true => exact ⟨#[u, .bool has], rfl, hr, by rw [hh]; exact (rfl : [Value.bool has] = _), trivial⟩
    | false => exact AVRel.of_V1 hr
  rw [← (hsame.2 kd).1] at fin
  rw [← (hsame.2 kd).2] at fin
  rcases find_ok hdesc hkr vt.dflt es0 entries.toList 0 hall with ⟨g1, g2, g3, _⟩ | ⟨j, e, g1, g2, _, _, g5, _⟩
  · refine fin z false (by rw [g3]; exact val_rel (hzr S w) hz1 hz2) g1 ?_
    cases ok <;> simp [execOp, ho, Instr.lookup, Go.underlying, hu, ← hm1, hget, hck, hfk _ g2, zeroValue, typeInfo, hi, hz]
  · refine fin e.val true g5 g1 ?_
    cases ok <;> simp [execOp, ho, Instr.lookup, Go.underlying, hu, ← hm1, hget, hck, hfk _ g2]

theorem lookup_ok (h : Rel nt w0 O μ S st a w) (hd : ∀ d, o.dst = some d → d < nt ∧ O.np ≤ d) {t : TypeId} {m k : Operand} {ok : Bool} (ho : o.op = .lookup t m k ok) {kt vt : Ty} (hk : KindOK P t (.map kt vt)) {id : Id} {es : List (kt.den × vt.den)}
    (hm : ev st m = some (cv (.map id))) (hid : st.heap id = some (.map kt vt es)) {kc : Cell} (hkc : v1 st k = some (.c kc)) {kd : kt.den} (hkd : cellD kt kc = some kd) {v : AV}
    (hv : v = bif ok then .tup [valOf vt (mapGet kt vt es kd), .c (.d .bool (mapHas kt vt es kd))] else .one (valOf vt (mapGet kt vt es kd)))
    (hK : K (st.put o.dst v) = some r) : o.wp P a w (Next nt w0 O K r) Q := by
  obtain ⟨u, hrun, hr⟩ := lookup_gen (P := P) h hd ho hk hm hid hkc hkd hv
  exact out_ok h hd hrun hr hK

theorem evArgs_ok (h : Rel nt w0 O μ S st a w) : ∀ {xs : List Operand} {vs : List AV}, evArgs st xs = some vs → All2 (AVRel μ S w) vs (xs.map a.eval)
  | [], vs, hv => by simp only [evArgs, Option.some.injEq] at hv; subst hv; trivial
  | x :: xs, vs, hv => by
    unfold evArgs at hv
    split at hv
    · rename_i v hx
      split at hv
      · rename_i vs' hvs
        simp only [Option.some.injEq] at hv
        subst hv
        exact ⟨ev_ok h hx, evArgs_ok h hvs⟩
      · cases hv
    · cases hv

theorem makeFunc_ok (h : Rel nt w0 O μ S st a w) (hd : ∀ d, o.dst = some d → d < nt ∧ O.np ≤ d) {f : FuncId} {first captured : Array Operand} (ho : o.op = .makeFunc (.func f) first captured) (hf : first.toList = []) {vs : List AV} (hv : evArgs st captured.toList = some vs)
    {caps : List (Id × Nat)} (hc : vs.mapM (fun v => match v with | .one (.c (.ptr i j)) => some (i, j) | _ => none) = some caps) (hK : K (st.put o.dst (cv (.fn f caps))) = some r) : o.wp P a w (Next nt w0 O K r) Q := by
  have hall := evArgs_ok h hv
  have hcaps : ∀ {vs : List AV} {us : List Value} {caps : List (Id × Nat)}, All2 (AVRel μ S w) vs us → vs.mapM (fun v => match v with | .one (.c (.ptr i j)) => some (i, j) | _ => none) = some caps →
      All2 (fun (p : Id × Nat) u => ∃ b, μ p.1 = some (.pointer (some ⟨b, 0, none⟩)) ∧ u = .pointer (some ⟨b, p.2, none⟩)) caps us := by
    intro vs
    induction vs with
    | nil =>
      intro us caps hall hc
      simp at hc; subst hc
      cases us with
      | nil => trivial
      | cons u us => exact hall.elim
    | cons v vs ih =>
      intro us caps hall hc
      cases us with
      | nil => exact hall.elim
      | cons u us =>
        simp only [List.mapM_cons, Option.bind_eq_bind, Option.pure_def] at hc
        split at hc
        · rename_i i j
          cases hr : vs.mapM (fun v => match v with | .one (.c (.ptr i j)) => some (i, j) | _ => none) with
          | none => rw [hr] at hc; cases hc
          | some caps' =>
            rw [hr] at hc
            simp only [Option.bind_some, Option.some.injEq] at hc
            subst hc
            exact ⟨cell_of hall.1 rfl, ih hall.2 hr⟩
        · cases hc
  have hfe : first = #[] := by cases first; simp_all
  refine out_ok h hd (u := .func (.func f) #[] (captured.map a.eval)) (by simp [execOp, ho, Instr.makeFunc, hfe]) (of_cell (c := .fn f caps) ⟨_, rfl, ?_⟩) hK
  have := hcaps hall hc
  simpa using this
end
end Go.Proofs.YtjjepjfjikefiaaB
