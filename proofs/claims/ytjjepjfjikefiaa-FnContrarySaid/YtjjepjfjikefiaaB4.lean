/- The core, part 4: memory: reading, writing, addresses, new variables. -/
import Derived.Test.YtjjepjfjikefiaaB3
set_option linter.unusedVariables false
namespace Go.Proofs.YtjjepjfjikefiaaB
open Go

section
variable {R : Type} {P : Program} {nt : Nat} {w0 : World} {O : Own} {μ : Id → Option Value} {S : Nat → Prop} {st : St} {a : Act} {w : World} {o : Oper} {K : St → Option R} {r : R} {Q : Exit → Act → World → Prop}

theorem add_plain (b o n : Nat) : (⟨b, o, none⟩ : Addr).add n = ⟨b, o + n, none⟩ := by
  unfold Addr.add
  split
  · rename_i h; subst h; rfl
  · rfl

theorem grown_setRow (w : World) (g : Nat) (cs : Array Value) : w.grownBy (w.setRow g cs) (some g) :=
  ⟨rfl, rfl, rfl, by simp, fun k _ hk => setRow_other w g k _ (fun e => hk (by rw [e]))⟩
theorem grown_alloc (w : World) (o : Obj) : w.grownBy (w.alloc o) none := ⟨rfl, rfl, rfl, by simp, fun k hk _ => heap_alloc_old w o k hk⟩

/-- data as cells -/
theorem All2.refl1 {α β : Type} {R : α → β → Prop} {x : α} {y : β} (h : R x y) : All2 R [x] [y] := ⟨h, trivial⟩
theorem cellsOf_rel : ∀ {t : Ty} {x : t.den} {cs : List Value}, Reads S w t x cs → All2 (CellRel μ S w) (cellsOf t x) cs
  | .unit, _, _, h => by have : _ = [] := h; subst this; trivial
  | .int k, x, _, h => by have h2 : _ = [_] := h; subst h2; exact All2.refl1 (show CellRel μ S w (.d (.int k) x) _ from h)
  | .bool, x, _, h => by have h2 : _ = [_] := h; subst h2; exact All2.refl1 (show CellRel μ S w (.d .bool x) _ from h)
  | .str, x, _, h => by
      have h' := h
      obtain ⟨s, e, _⟩ := h'
      subst e
      exact All2.refl1 (show CellRel μ S w (.d .str x) _ from h)
  | .last t, x, _, h => cellsOf_rel (t := t) h
  | .prod a b, x, _, ⟨c1, c2, e, h1, h2⟩ => by subst e; exact (cellsOf_rel h1).append (cellsOf_rel h2)
  | .sl t, x, _, h => by
      have h' := h
      obtain ⟨A, c, e, _⟩ := h'
      subst e
      exact All2.refl1 (show CellRel μ S w (.d (.sl t) x) _ from h)
theorem cellsOf_length : ∀ (t : Ty) (x : t.den), (cellsOf t x).length = t.sz
  | .unit, _ => rfl
  | .int _, _ => rfl
  | .bool, _ => rfl
  | .str, _ => rfl
  | .last t, x => cellsOf_length t x
  | .prod a b, x => by simp [cellsOf, cellsOf_length a, cellsOf_length b, Ty.sz]
  | .sl _, _ => rfl
theorem valOf_rel {t : Ty} {x : t.den} {cs : List Value} (h : Reads S w t x cs) : (t.isAgg = true → V1Rel μ S w (valOf t x) (.agg cs.toArray)) ∧ (t.isAgg = false → ∀ v, cs = [v] → V1Rel μ S w (valOf t x) v) := by
  have hc := cellsOf_rel (μ := μ) h
  constructor
  · intro ha
    unfold valOf
    rw [ha]
    exact ⟨_, rfl, by simpa using hc⟩
  · intro ha v hv
    unfold valOf
    rw [ha]
    subst hv
    cases hl : cellsOf t x with
    | nil => rw [hl] at hc; exact hc.elim
    | cons c cs' => rw [hl] at hc; exact hc.1

/-- where a pointer leads, cells lie that fit -/
theorem pointee_ok (h : Rel nt w0 O μ S st a w) {p : Cell} {v : Value} {cs : List Cell} (hv : CellRel μ S w p v) (hp : pointee st.heap p = some cs) :
    ∃ b off vals, v = .pointer (some ⟨b, off, none⟩) ∧ CellsAt w b off vals ∧ All2 (CellRel μ S w) cs vals := by
  unfold pointee at hp
  split at hp
  · rename_i id off
    split at hp
    · rename_i cur hid
      simp only [Option.some.injEq] at hp
      subst hp
      obtain ⟨b, hm, rfl⟩ := hv
      obtain ⟨hv2, hm2, b', ty, arr, e, hw, ha⟩ := h.blks _ _ hid
      rw [hm] at hm2
      simp only [Option.some.injEq] at hm2
      subst hm2
      simp only [Value.pointer.injEq, Option.some.injEq, Addr.mk.injEq, and_true] at e
      subst e
      refine ⟨b, off, arr.toList.drop off, rfl, fun j u hj => ?_, ha.drop off⟩
      rw [cell_of_row w b _ arr ty (0, 0) hw]
      rw [List.getElem?_drop] at hj
      simpa using hj
    · cases hp
  · rename_i id i off sz
    split at hp
    · rename_i e ne t xs hid
      cases hsz : Nat.beq sz t.sz with
      | false => rw [hsz] at hp; cases hp
      | true =>
        rw [hsz] at hp
        simp only [cond_true, Option.some.injEq] at hp
        subst hp
        have hsz := Nat.eq_of_beq_eq_true hsz
        subst hsz
        obtain ⟨b, N, cap, hm, hi, rfl⟩ := hv
        obtain ⟨hv2, hm2, cells, ho, hc, _⟩ := h.blks _ _ hid
        rw [hm] at hm2
        simp only [Option.some.injEq] at hm2
        subst hm2
        rcases ho.2 with ⟨e1, _⟩ | ⟨g, cap', cur, e1, _, hw, hn, hcap, hcs, htake⟩
        · cases e1
        · simp only [Value.slice.injEq, Option.some.injEq, Addr.mk.injEq, and_true] at e1
          obtain ⟨rfl, rfl, rfl⟩ := e1
          have hget := hc.get t.sz (fun x c => Reads.length) i t.dflt hi
          refine ⟨b, i * t.sz + off, ((cells.drop (i * t.sz)).take t.sz).drop off, rfl, fun j u hj => ?_, (cellsOf_rel hget).drop off⟩
          rw [cell_of_row w b _ cur _ (0, 0) hw]
          rw [List.getElem?_drop, List.getElem?_take] at hj
          split at hj
          · rw [List.getElem?_drop, ← htake, List.getElem?_take] at hj
            split at hj
            · rw [← Array.getElem?_toList, ← hj]; congr 1; omega
            · cases hj
          · cases hj
    · cases hp
  · rename_i t x off
    simp only [Option.some.injEq] at hp
    subst hp
    obtain ⟨b, o, cells, rfl, hs, hx, hat⟩ := hv
    refine ⟨b, o + off, cells.drop off, rfl, fun j u hj => ?_, (cellsOf_rel hx).drop off⟩
    rw [List.getElem?_drop] at hj
    have := hat (off + j) u hj
    rwa [← Nat.add_assoc] at this
  · cases hp

theorem size_run {t : TypeId} {ti : TI} (hti : TIok P t ti) (w : World) : (sizeOf t).run P w = .ok ti.zero.length w := by
  obtain ⟨i, z, hi, _, hs, _⟩ := hti.info
  simp [sizeOf, typeInfo, hi, hs]

theorem load_ok (h : Rel nt w0 O μ S st a w) (hd : ∀ d, o.dst = some d → d < nt ∧ O.np ≤ d) {t : TypeId} {x : Operand} (ho : o.op = .load t x) {ti : TI} (hti : TIok P t ti) {p : Cell} (hx : ev st x = some (cv p)) {cs : List Cell} (hp : pointee st.heap p = some cs)
    {v : V1} (hv : (ti.agg = true ∧ ti.zero.length ≤ cs.length ∧ v = .agg (cs.take ti.zero.length)) ∨ (ti.agg = false ∧ ∃ c cs', cs = c :: cs' ∧ v = .c c)) (hK : K (st.put o.dst (.one v)) = some r) : o.wp P a w (Next nt w0 O K r) Q := by
  have hk : (V1.c p).known = true := by cases p <;> first | rfl | (simp [pointee] at hp)
  obtain ⟨b, off, vals, hval, hat, hall⟩ := pointee_ok h (cell_of (ev_ok h hx) hk) hp
  have hlen := hall.length
  rcases hv with ⟨ha, hle, rfl⟩ | ⟨ha, c, cs', rfl, rfl⟩
  · refine out_ok h hd (u := .agg (vals.take ti.zero.length).toArray) ?_ (AVRel.of_V1 (c := .agg _) ⟨_, rfl, by simpa using hall.take ti.zero.length⟩) hK
    have hl : (vals.take ti.zero.length).length = ti.zero.length := by rw [List.length_take]; omega
    have hr := run_loadCells_list (P := P) w ⟨b, off, none⟩ (vals.take ti.zero.length) (fun j u hj => by
      rw [add_plain]
      rw [List.getElem?_take] at hj
      split at hj
      · exact hat j u hj
      · cases hj)
    rw [hl] at hr
    simp [execOp, ho, Instr.loadAt, Instr.sureAddr, hval, loadVar, hti.kind.agg, ha, size_run hti, hr]
  · cases vals with
    | nil => exact hall.elim
    | cons u us =>
      refine out_ok h hd (u := u) ?_ (AVRel.of_V1 (c := .c c) hall.1) hK
      have hc := hat 0 u (by simp)
      simp only [Nat.add_zero] at hc
      simp [execOp, ho, Instr.loadAt, Instr.sureAddr, hval, loadVar, hti.kind.agg, ha, hc]

/-! ### Putting data together -/
theorem cellD_ok {t : Ty} {c : Cell} {x : t.den} {v : Value} (hv : CellRel μ S w c v) (hx : cellD t c = some x) : Reads S w t x [v] := by
  unfold cellD at hx
  split at hx
  · obtain ⟨e, he⟩ := castTo_eq hx
    subst e
    simp only at he
    subst he
    exact hv
  · obtain ⟨e, he⟩ := castTo_eq hx
    subst e
    simp only at he
    subst he
    exact hv.choose_spec.2
  · split at hx
    · simp only [Option.some.injEq] at hx
      subst hx
      have : v = _ := hv
      subst this
      exact ⟨none, 0, rfl, Nat.le_refl _, fun h => absurd rfl h⟩
    · cases hx
  · cases hx

theorem asm_ok : ∀ {t : Ty} {cs cs' : List Cell} {x : t.den} {vs : List Value}, All2 (CellRel μ S w) cs vs → asm t cs = some (x, cs') → ∃ v1 v2, vs = v1 ++ v2 ∧ Reads S w t x v1 ∧ All2 (CellRel μ S w) cs' v2
  | .unit, cs, cs', x, vs, h, hx => by simp only [asm, Option.some.injEq, Prod.mk.injEq] at hx; obtain ⟨_, rfl⟩ := hx; exact ⟨[], vs, rfl, rfl, h⟩
  | .last t, cs, cs', x, vs, h, hx => asm_ok (t := t) h hx
  | .prod a b, cs, cs', x, vs, h, hx => by
    unfold asm at hx
    split at hx
    · rename_i x1 c1 h1
      split at hx
      · rename_i x2 c2 h2
        simp only [Option.some.injEq, Prod.mk.injEq] at hx
        obtain ⟨rfl, rfl⟩ := hx
        obtain ⟨v1, v2, rfl, r1, h'⟩ := asm_ok h h1
        obtain ⟨v3, v4, rfl, r2, h''⟩ := asm_ok h' h2
        exact ⟨v1 ++ v3, v4, by simp, ⟨v1, v3, rfl, r1, r2⟩, h''⟩
      · cases hx
    · cases hx
  | .int k, [], _, _, _, _, hx => by simp [asm] at hx
  | .bool, [], _, _, _, _, hx => by simp [asm] at hx
  | .str, [], _, _, _, _, hx => by simp [asm] at hx
  | .sl t, [], _, _, _, _, hx => by simp [asm] at hx
  | .int k, c :: cs, cs', x, v :: vs, ⟨hc, h⟩, hx => by
    simp only [asm] at hx
    split at hx
    · rename_i y hy
      simp only [Option.some.injEq, Prod.mk.injEq] at hx
      obtain ⟨rfl, rfl⟩ := hx
      exact ⟨[v], vs, rfl, cellD_ok hc hy, h⟩
    · cases hx
  | .bool, c :: cs, cs', x, v :: vs, ⟨hc, h⟩, hx => by
    simp only [asm] at hx
    split at hx
    · rename_i y hy
      simp only [Option.some.injEq, Prod.mk.injEq] at hx
      obtain ⟨rfl, rfl⟩ := hx
      exact ⟨[v], vs, rfl, cellD_ok hc hy, h⟩
    · cases hx
  | .str, c :: cs, cs', x, v :: vs, ⟨hc, h⟩, hx => by
    simp only [asm] at hx
    split at hx
    · rename_i y hy
      simp only [Option.some.injEq, Prod.mk.injEq] at hx
      obtain ⟨rfl, rfl⟩ := hx
      exact ⟨[v], vs, rfl, cellD_ok hc hy, h⟩
    · cases hx
  | .sl t, c :: cs, cs', x, v :: vs, ⟨hc, h⟩, hx => by
    simp only [asm] at hx
    split at hx
    · rename_i y hy
      simp only [Option.some.injEq, Prod.mk.injEq] at hx
      obtain ⟨rfl, rfl⟩ := hx
      exact ⟨[v], vs, rfl, cellD_ok hc hy, h⟩
    · cases hx
  | .int _, _ :: _, _, _, [], h, _ => h.elim
  | .bool, _ :: _, _, _, [], h, _ => h.elim
  | .str, _ :: _, _, _, [], h, _ => h.elim
  | .sl _, _ :: _, _, _, [], h, _ => h.elim

theorem asmAll_ok {t : Ty} {cs : List Cell} {x : t.den} {vs : List Value} (h : All2 (CellRel μ S w) cs vs) (hx : asmAll t cs = some x) : Reads S w t x vs := by
  unfold asmAll at hx
  split at hx
  · rename_i y hy
    simp only [Option.some.injEq] at hx
    subst hx
    obtain ⟨v1, v2, rfl, hr, h2⟩ := asm_ok h hy
    cases v2 with
    | nil => simpa using hr
    | cons _ _ => exact h2.elim
  · cases hx
end
end Go.Proofs.YtjjepjfjikefiaaB
