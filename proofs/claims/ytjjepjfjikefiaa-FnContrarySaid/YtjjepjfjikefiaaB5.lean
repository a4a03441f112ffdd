/- The core, part 5: writing, new variables, addresses. -/
import Derived.Test.YtjjepjfjikefiaaB4
set_option linter.unusedVariables false
namespace Go.Proofs.YtjjepjfjikefiaaB
open Go

section
variable {R : Type} {P : Program} {nt : Nat} {w0 : World} {O : Own} {μ : Id → Option Value} {S : Nat → Prop} {st : St} {a : Act} {w : World} {o : Oper} {K : St → Option R} {r : R} {Q : Exit → Act → World → Prop}

theorem cells_one {v : Value} (h : v.oneCell' = true) : v.cells = #[v] := by cases v <;> first | rfl | (simp [Value.oneCell'] at h)
theorem V1Rel.cells {v : V1} {u : Value} (h : V1Rel μ S w v u) : All2 (CellRel μ S w) v.cells u.cells.toList := by
  cases v with
  | c x => rw [cells_one (CellRel.oneCell h)]; exact ⟨h, trivial⟩
  | agg cs => obtain ⟨arr, e, ha⟩ := h; subst e; exact ha
theorem v1_ok (h : Rel nt w0 O μ S st a w) {x : Operand} {v : V1} (hx : v1 st x = some v) : V1Rel μ S w v (a.eval x) := by
  unfold v1 at hx
  split at hx
  · cases hx
  · rename_i v' hn he
    simp only [Option.some.injEq] at hx
    subst hx
    refine ev_ok h he ?_
    cases v' with
    | c c => cases c <;> first | rfl | exact (hn rfl).elim
    | agg cs => rfl
  · cases hx
theorem cellsV_ok (h : Rel nt w0 O μ S st a w) {x : Operand} {cs : List Cell} (hx : cellsV st x = some cs) : All2 (CellRel μ S w) cs (a.eval x).cells.toList := by
  unfold cellsV at hx
  split at hx
  · rename_i v hv
    simp only [Option.some.injEq] at hx
    subst hx
    exact (v1_ok h hv).cells
  · cases hx
theorem All2.oneCell {cs : List Cell} {vs : List Value} (h : All2 (CellRel μ S w) cs vs) : ∀ v ∈ vs, v.oneCell' = true := by
  induction cs generalizing vs with
  | nil => cases vs with
    | nil => simp
    | cons => exact h.elim
  | cons c cs ih => cases vs with
    | nil => exact h.elim
    | cons v vs =>
      intro u hu
      rcases List.mem_cons.1 hu with rfl | hu
      · exact h.1.oneCell
      · exact ih h.2 u hu

theorem splice_rel {cs new : List Cell} {vs us : List Value} (off : Nat) (h : All2 (CellRel μ S w) cs vs) (hn : All2 (CellRel μ S w) new us) :
    All2 (CellRel μ S w) (splice cs off new) (vs.take off ++ us ++ vs.drop (off + us.length)) := by
  unfold Go.Proofs.YtjjepjfjikefiaaB.splice
  rw [hn.length]
  exact ((h.take off).append hn).append (h.drop _)

/-- an element's cells, some of which are written -/
theorem elem_write (cells us : List Value) (i sz off : Nat) (hlen : off + us.length ≤ sz) (hfit : i * sz + sz ≤ cells.length) :
    cells.take (i * sz) ++ (((cells.drop (i * sz)).take sz).take off ++ us ++ ((cells.drop (i * sz)).take sz).drop (off + us.length)) ++ cells.drop (i * sz + sz) =
    cells.take (i * sz + off) ++ us ++ cells.drop (i * sz + off + us.length) := by
  apply List.ext_getElem?
  intro j
  simp only [List.getElem?_append, List.getElem?_take, List.getElem?_drop, List.length_append, List.length_take, List.length_drop]
  by_cases h1 : j < i * sz
  · have e1 : j < min (i * sz) cells.length := by omega
    have e2 : j < min (i * sz) cells.length + (min off (min sz (cells.length - i * sz)) + us.length + (min sz (cells.length - i * sz) - (off + us.length))) := by omega
    have e3 : j < min (i * sz + off) cells.length + us.length := by omega
    have e4 : j < min (i * sz + off) cells.length := by omega
    have e5 : j < i * sz + off := by omega
    simp [e1, e2, e3, e4, e5, h1]
  · by_cases h2 : j < i * sz + off
    · have e1 : ¬ j < min (i * sz) cells.length := by omega
      have e2 : j < min (i * sz) cells.length + (min off (min sz (cells.length - i * sz)) + us.length + (min sz (cells.length - i * sz) - (off + us.length))) := by omega
      have e3 : j < min (i * sz + off) cells.length + us.length := by omega
      have e4 : j < min (i * sz + off) cells.length := by omega
      have e6 : j - min (i * sz) cells.length < min off (min sz (cells.length - i * sz)) + us.length := by omega
      have e7 : j - min (i * sz) cells.length < min off (min sz (cells.length - i * sz)) := by omega
      have e8 : j - min (i * sz) cells.length < off := by omega
      have e9 : j - min (i * sz) cells.length < sz := by omega
      have e10 : i * sz + (j - min (i * sz) cells.length) = j := by omega
      simp [e1, e2, e3, e4, h2, e6, e7, e8, e9, e10]
    · by_cases h3 : j < i * sz + off + us.length
      · have e1 : ¬ j < min (i * sz) cells.length := by omega
        have e2 : j < min (i * sz) cells.length + (min off (min sz (cells.length - i * sz)) + us.length + (min sz (cells.length - i * sz) - (off + us.length))) := by omega
        have e3 : j < min (i * sz + off) cells.length + us.length := by omega
        have e4 : ¬ j < min (i * sz + off) cells.length := by omega
        have e6 : j - min (i * sz) cells.length < min off (min sz (cells.length - i * sz)) + us.length := by omega
        have e7 : ¬ j - min (i * sz) cells.length < min off (min sz (cells.length - i * sz)) := by omega
        have e8 : j - min (i * sz) cells.length - min off (min sz (cells.length - i * sz)) = j - min (i * sz + off) cells.length := by omega
        simp [e1, e2, e3, e4, e6, e7, e8]
      · by_cases h4 : j < i * sz + sz
        · have e1 : ¬ j < min (i * sz) cells.length := by omega
          have e2 : j < min (i * sz) cells.length + (min off (min sz (cells.length - i * sz)) + us.length + (min sz (cells.length - i * sz) - (off + us.length))) := by omega
          have e3 : ¬ j < min (i * sz + off) cells.length + us.length := by omega
          have e6 : ¬ j - min (i * sz) cells.length < min off (min sz (cells.length - i * sz)) + us.length := by omega
          have e8 : off + us.length + (j - min (i * sz) cells.length - (min off (min sz (cells.length - i * sz)) + us.length)) < sz := by omega
          have e9 : i * sz + (off + us.length + (j - min (i * sz) cells.length - (min off (min sz (cells.length - i * sz)) + us.length))) = j := by omega
          have e10 : i * sz + off + us.length + (j - (min (i * sz + off) cells.length + us.length)) = j := by omega
          simp only [e1, e2, e3, e6, e8, e9, e10, if_true, if_false]
        · have e2 : ¬ j < min (i * sz) cells.length + (min off (min sz (cells.length - i * sz)) + us.length + (min sz (cells.length - i * sz) - (off + us.length))) := by omega
          have e3 : ¬ j < min (i * sz + off) cells.length + us.length := by omega
          have e9 : i * sz + sz + (j - (min (i * sz) cells.length + (min off (min sz (cells.length - i * sz)) + us.length + (min sz (cells.length - i * sz) - (off + us.length))))) = j := by omega
          have e10 : i * sz + off + us.length + (j - (min (i * sz + off) cells.length + us.length)) = j := by omega
          simp only [e2, e3, e9, e10, if_false]

theorem astore_ok (h : Rel nt w0 O μ S st a w) {p : Cell} {v : Value} {cs : List Cell} {us : List Value} {hp : Heap} (hv : CellRel μ S w p v) (hcs : All2 (CellRel μ S w) cs us) (hs : astore st.heap p cs = some hp) :
    ∃ b off w', v = .pointer (some ⟨b, off, none⟩) ∧ (storeCells ⟨b, off, none⟩ us).run P w = .ok () w' ∧ Rel nt w0 O μ S { st with heap := hp } a w' ∧ w.grownBy w' (some b) := by
  have hone := hcs.oneCell
  have hlen := hcs.length
  unfold astore at hs
  split at hs
  · rename_i id off
    split at hs
    · rename_i cur hid
      cases hle : Nat.ble (off + cs.length) cur.length with
      | false => rw [hle] at hs; cases hs
      | true =>
        rw [hle] at hs
        simp only [cond_true, Option.some.injEq] at hs
        subst hs
        have hle := Nat.le_of_ble_eq_true hle
        obtain ⟨b, hm, rfl⟩ := hv
        obtain ⟨hv2, hm2, b', ty, arr, e, hw, ha⟩ := h.blks _ _ hid
        have hm3 := hm2
        rw [hm] at hm2
        simp only [Option.some.injEq] at hm2
        subst hm2
        simp only [Value.pointer.injEq, Option.some.injEq, Addr.mk.injEq, and_true] at e
        subst e
        have hcl := ha.length
        have hrun := run_storeCells_at P b off ty us 0 arr w hw (by rw [← hlen, ← Array.length_toList, ← hcl]; simpa using hle) hone
        simp only [Nat.add_zero] at hrun
        have hg := grown_setRow w b (arr.toList.take off ++ us ++ arr.toList.drop (off + us.length)).toArray
        have hsf := h.s_frame hg (id := id) (hv := .pointer (some ⟨b, 0, none⟩)) (fun k e => by simp only [Option.some.injEq] at e; subst e; exact ⟨hm, rfl⟩)
        refine ⟨b, off, _, rfl, hrun, h.update hid hm hg ⟨b, ty, _, rfl, setRow_heap w b arr _ ty _ hw, ?_⟩, hg⟩
        exact (splice_rel off ha hcs).mono fun _ _ => CellRel.frame hsf
    · cases hs
  · rename_i id i off sz
    split at hs
    · rename_i e ne t xs hid
      cases hc : (Nat.beq sz t.sz && Nat.ble (off + cs.length) t.sz) with
      | false => rw [hc] at hs; cases hs
      | true =>
        rw [hc] at hs
        simp only [cond_true] at hs
        simp only [Bool.and_eq_true] at hc
        have hz := Nat.eq_of_beq_eq_true hc.1
        have hle := Nat.le_of_ble_eq_true hc.2
        subst hz
        split at hs
        · rename_i x hx
          simp only [Option.some.injEq] at hs
          subst hs
          obtain ⟨b, N, cap, hm, hi, rfl⟩ := hv
          obtain ⟨hv2, hm2, cells, ho, hrc, hne⟩ := h.blks _ _ hid
          rw [hm] at hm2
          simp only [Option.some.injEq] at hm2
          subst hm2
          rcases ho.2 with ⟨e1, _⟩ | ⟨g, cap', cur, e1, hb0, hw, hn, hcap, hcs2, htake⟩
          · cases e1
          · simp only [Value.slice.injEq, Option.some.injEq, Addr.mk.injEq, and_true] at e1
            obtain ⟨rfl, rfl, rfl⟩ := e1
            have hsz : ∀ (x : t.den) (c : List Value), Reads S w t x c → c.length = t.sz := fun x c => Reads.length
            have hget := hrc.get t.sz hsz i t.dflt hi
            have hnew := asmAll_ok (splice_rel off (cellsOf_rel (μ := μ) hget) hcs) hx
            have hset := hrc.set t.sz hsz i x _ hi hnew
            have hmul : i * t.sz + t.sz ≤ xs.length * t.sz := by rw [← Nat.succ_mul]; exact Nat.mul_le_mul_right _ hi
            have hcl : cells.length = xs.length * t.sz := ho.1
            have hcapsz : xs.length * t.sz ≤ cap * t.sz := Nat.mul_le_mul_right _ hn
            rw [elem_write cells us i t.sz off (by omega) (by omega)] at hset
            have hrun := run_storeCells_at P b (i * t.sz + off) e us 0 cur w hw (by omega) hone
            simp only [Nat.add_zero] at hrun
            have hg := grown_setRow w b (cur.toList.take (i * t.sz + off) ++ us ++ cur.toList.drop (i * t.sz + off + us.length)).toArray
            have hsf := h.s_frame hg (id := id) (hv := .slice (some ⟨b, 0, none⟩) xs.length cap) (fun k e => by simp only [Option.some.injEq] at e; subst e; exact ⟨hm, rfl⟩)
            refine ⟨b, i * t.sz + off, _, rfl, hrun, h.update hid hm hg ⟨_, ?_, hset.mono fun _ _ hx => hx.frame hsf, ?_⟩, hg⟩
            · rw [List.length_set]
              refine ⟨?_, .inr ⟨b, cap, _, rfl, Nat.zero_le _, setRow_heap w b cur _ e _ hw, hn, hcap, ?_, ?_⟩⟩
              · simp only [List.length_append, List.length_take, List.length_drop]; omega
              · simp only [List.size_toArray, List.length_append, List.length_take, List.length_drop, Array.length_toList]; omega
              · have hcurl : cur.toList.length = cap * t.sz := by rw [Array.length_toList]; exact hcs2
                rw [← htake]
                apply List.ext_getElem?
                intro j
                simp only [List.getElem?_take, List.getElem?_append, List.getElem?_drop, List.length_append, List.length_take]
                by_cases hj : j < xs.length * t.sz
                · rw [if_pos hj]
                  have f1 : min (i * t.sz + off) cur.toList.length = i * t.sz + off := by omega
                  have f2 : min (i * t.sz + off) (min (xs.length * t.sz) cur.toList.length) = i * t.sz + off := by omega
                  rw [f1, f2]
                  by_cases hj2 : j < i * t.sz + off + us.length
                  · rw [if_pos hj2, if_pos hj2]
                    by_cases hj3 : j < i * t.sz + off
                    · rw [if_pos hj3, if_pos hj3, if_pos hj3, if_pos hj3, if_pos (by omega)]
                    · rw [if_neg hj3, if_neg hj3]
                  · rw [if_neg hj2, if_neg hj2, if_pos (by omega)]
                · rw [if_neg hj]
                  symm
                  rw [if_neg (by omega)]
                  rw [if_neg (by omega)]
            · intro _ hnil
              have : xs.length = 0 := by have e := congrArg List.length hnil; rw [List.length_set] at e; exact e
              omega
        · cases hs
    · cases hs
  · cases hs
end
end Go.Proofs.YtjjepjfjikefiaaB
