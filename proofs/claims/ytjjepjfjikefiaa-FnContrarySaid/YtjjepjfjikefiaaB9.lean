/- The core, part 9: copy, make, slices of slices, structs put together, function values. -/
import Derived.Test.YtjjepjfjikefiaaB8
import Derived.Lib.AppendZeros
set_option linter.unusedVariables false
namespace Go.Proofs.YtjjepjfjikefiaaB
open Go

section
variable {R : Type} {P : Program} {nt : Nat} {w0 : World} {O : Own} {μ : Id → Option Value} {S : Nat → Prop} {st : St} {a : Act} {w : World} {o : Oper} {K : St → Option R} {r : R} {Q : Exit → Act → World → Prop}

theorem acopy_ok {cx : Ctx R} {KV : AV → St → Option R} (hcx : ∀ t ti, cx.tb t = some ti → TIok P t ti) (h : Rel nt w0 O μ S st a w) {t t' ty e : TypeId} (ht : P.underlying t = some (.slice e)) {s x : AV} {vs vx : Value}
    (hs : AVRel μ S w s vs) (hx : AVRel μ S w x vx) (hK : acopy cx e s x st KV = some r) :
    ∃ u w', (Builtin.copy_ #[t, t'] ty #[vs, vx]).run P w = .ok u w' ∧ NextV nt w0 O KV r a u w' := by
  unfold acopy at hK
  split at hK
  · rename_i ty' bytes hte
    obtain ⟨i, z, hi, hz, hisz, hby, hzs, hpos, hbpos, hdat⟩ := elemTy_ok hcx hte
    have hRsz : ∀ (x : ty'.den) (c : List Value), Reads S w ty' x c → c.length = ty'.sz := fun x c => Reads.length
    split at hK
    · rename_i id xc
      split at hK
      · rename_i e' ne t2 xs ys hid hys
        split at hK
        · rename_i ys2 hc2
          obtain ⟨e2, he2⟩ := castTo_eq hc2
          simp only [Ty.sl.injEq] at e2
          subst e2
          simp only at he2
          subst he2
          cases hb : Nat.beq e' e with
          | false => rw [hb] at hK; cases hK
          | true =>
            rw [hb] at hK
            simp only [cond_true] at hK
            have := Nat.eq_of_beq_eq_true hb
            subst this
            have hxk : (V1.c xc).known = true := by cases xc <;> first | rfl | (simp [cellData, cellD] at hys)
            obtain ⟨A, cp, rfl, hcp, hmem⟩ := src_ok h (hx hxk) hys
            have hv := hs rfl
            obtain ⟨hv2, hm2, cells, hown, hrc, hne⟩ := h.blks _ _ hid
            have hm := hv.1
            rw [hm] at hm2
            simp only [Option.some.injEq] at hm2
            subst hm2
            rcases Nat.eq_zero_or_pos (min ys.length xs.length) with hk | hk
            · -- nothing goes over
              have hsame : ys.take xs.length ++ xs.drop ys.length = xs := by
                rcases Nat.eq_zero_or_pos ys.length with h0 | h0
                · have : ys = [] := List.eq_nil_of_length_eq_zero h0
                  subst this; simp
                · have : xs = [] := List.eq_nil_of_length_eq_zero (by omega)
                  subst this; simp
              rw [hsame, hk] at hK
              have hupd : (({ st with heap := upd st.heap id (some (.row e' ne ty' xs)) } : St)) = st := by
                have : upd st.heap id (some (.row e' ne ty' xs)) = st.heap := by
                  funext x
                  by_cases hx : x = id
                  · subst hx; rw [upd_same, hid]
                  · rw [upd_other _ _ _ _ hx]
                rw [this]
              rw [hupd] at hK
              refine ⟨goInt 0, w, ?_, _, _, μ, S, hK, int_rel _ _, h⟩
              have hmin : Nat.min ys.length xs.length = 0 := hk
              obtain ⟨A0, n0, c0, rfl⟩ := hv.2
              have hn0 : n0 = xs.length := by
                rcases hown.2 with ⟨e1, e2⟩ | ⟨g, cap', cur, e1, _⟩
                · simp only [Value.slice.injEq] at e1; omega
                · simp only [Value.slice.injEq] at e1; exact e1.2.1
              subst hn0
              cases A <;> cases A0 <;> simp [Builtin.copy_, run_underlying ht, Builtin.lenOf, Builtin.firstCells, sizeOf, typeInfo, hi, hmin, storeCells, loadCells, loadCellsFrom]
            · have hy0 : ys ≠ [] := by rintro rfl; simp at hk
              obtain ⟨b, off, news, rfl, hnrow, hnat⟩ := hmem hy0
              rcases hown.2 with ⟨rfl, e2⟩ | ⟨g, cap, cur, rfl, hbg, hg, hnc, hcm, hcs, htake⟩
              · omega
              · have hnl : news.length = ys.length * ty'.sz := hnrow.length ty'.sz hRsz
                have hcl : cells.length = xs.length * ty'.sz := hown.1
                have hle1 : min ys.length xs.length * ty'.sz ≤ ys.length * ty'.sz := Nat.mul_le_mul_right _ (by omega)
                have hle2 : min ys.length xs.length * ty'.sz ≤ xs.length * ty'.sz := Nat.mul_le_mul_right _ (by omega)
                have hle3 : xs.length * ty'.sz ≤ cap * ty'.sz := Nat.mul_le_mul_right _ hnc
                have hl : (news.take (min ys.length xs.length * ty'.sz)).length = min ys.length xs.length * ty'.sz := by rw [List.length_take]; omega
                have hload := run_firstCells_some (P := P) w i.size (min ys.length xs.length) ⟨b, off, none⟩ ys.length cp (news.take (min ys.length xs.length * ty'.sz)) (by rw [hl, hisz]) (fun j u hj => by
                  rw [add_plain]
                  rw [List.getElem?_take] at hj
                  split at hj
                  · exact hnat j u hj
                  · cases hj)
                have hone : ∀ u ∈ news.take (min ys.length xs.length * ty'.sz), u.oneCell' = true := fun u hu => (hnrow.oneCell fun x c => Reads.oneCell) u (List.mem_of_mem_take hu)
                have hst := run_storeCells_at P g 0 e' (news.take (min ys.length xs.length * ty'.sz)) 0 cur w hg (by rw [hl]; omega) hone
                simp only [Nat.add_zero, Nat.zero_add, List.take_zero, List.nil_append, hl] at hst
                have hmin : Nat.min ys.length xs.length = min ys.length xs.length := rfl
                have hgr := grown_setRow w g (news.take (min ys.length xs.length * ty'.sz) ++ cur.toList.drop (min ys.length xs.length * ty'.sz)).toArray
                have hsf := h.s_frame hgr (id := id) (hv := .slice (some ⟨g, 0, none⟩) xs.length cap) (fun k e => by simp only [Option.some.injEq] at e; subst e; exact ⟨hm, rfl⟩)
                refine ⟨goInt (min ys.length xs.length : Nat), _, ?_, _, _, μ, S, hK, int_rel _ _, h.update hid hm hgr ⟨news.take (min ys.length xs.length * ty'.sz) ++ cells.drop (min ys.length xs.length * ty'.sz), ?_, ?_, fun h1 h2 => ?_⟩⟩
                · simp [Builtin.copy_, run_underlying ht, Builtin.lenOf, sizeOf, typeInfo, hi, hmin, hload, hst]
                · have hlen2 : (ys.take xs.length ++ xs.drop ys.length).length = xs.length := by simp; omega
                  rw [hlen2]
                  refine ⟨by rw [List.length_append, hl, List.length_drop]; omega, .inr ⟨g, cap, _, rfl, hbg, setRow_heap w g cur _ e' _ hg, hnc, hcm, ?_, ?_⟩⟩
                  · simp only [List.size_toArray, List.length_append, hl, List.length_drop, Array.length_toList]; omega
                  · rw [← htake]
                    simp only [List.take_append, hl, List.take_of_length_le (show (news.take (min ys.length xs.length * ty'.sz)).length ≤ xs.length * ty'.sz by rw [hl]; omega)]
                    congr 1
                    rw [List.drop_take]
                · have h1 := (hnrow.take ty'.sz hRsz (min ys.length xs.length)).append (hrc.drop ty'.sz hRsz (min ys.length xs.length))
                  have h2 : ys.take (min ys.length xs.length) ++ xs.drop (min ys.length xs.length) = ys.take xs.length ++ xs.drop ys.length := by
                    rcases Nat.le_total ys.length xs.length with hle | hle
                    · rw [Nat.min_eq_left hle, List.take_of_length_le (Nat.le_refl _), List.take_of_length_le hle]
                    · rw [Nat.min_eq_right hle, List.drop_of_length_le (Nat.le_refl _), List.drop_of_length_le hle]
                  rw [← h2]
                  exact h1.mono fun _ _ hx => hx.frame hsf
                · have h3 : (ys.take xs.length ++ xs.drop ys.length).length = 0 := by rw [h2]; rfl
                  rw [List.length_append, List.length_take, List.length_drop] at h3
                  have h4 : min ys.length xs.length = min xs.length ys.length := Nat.min_comm _ _
                  omega
        · cases hK
      · cases hK
    · cases hK
  · cases hK

/-- a row whose elements are all the same -/
theorem RowCells.periodic {α : Type} {R : α → List Value → Prop} {d : α} {zc : List Value} (hd : R d zc) : ∀ (n : Nat) (cs : List Value), cs.length = n * zc.length → (∀ j, j < n * zc.length → cs[j]? = zc[j % zc.length]?) → RowCells R (List.replicate n d) cs
  | 0, cs, hl, _ => by have : cs = [] := List.eq_nil_of_length_eq_zero (by simpa using hl); subst this; rfl
  | n + 1, cs, hl, hj => by
    rw [Nat.add_mul, Nat.one_mul] at hl
    refine ⟨cs.take zc.length, cs.drop zc.length, (List.take_append_drop _ _).symm, ?_, RowCells.periodic hd n _ (by rw [List.length_drop]; omega) fun j hjn => ?_⟩
    · have : cs.take zc.length = zc := by
        apply List.ext_getElem?
        intro j
        rw [List.getElem?_take]
        split
        · rename_i hlt
          rw [hj j (by rw [Nat.add_mul, Nat.one_mul]; omega), Nat.mod_eq_of_lt hlt]
        · rename_i hlt
          rw [List.getElem?_eq_none (by omega)]
      rw [this]
      exact hd
    · rw [List.getElem?_drop, hj _ (by rw [Nat.add_mul, Nat.one_mul]; omega), Nat.add_mod_left]

theorem getElem!_mod (z : Array Value) (j : Nat) (hz : 0 < z.size) : z.toList[j % z.size]? = some z[j % z.size]! := by
  have h : j % z.size < z.size := Nat.mod_lt _ hz
  rw [List.getElem?_eq_getElem (by simpa using h)]
  simp [h]

theorem make_ok {cx : Ctx R} (hcx : ∀ t ti, cx.tb t = some ti → TIok P t ti) (h : Rel nt w0 O μ S st a w) (hd : ∀ d, o.dst = some d → d < nt ∧ O.np ≤ d) {t e : TypeId} {x y : Operand} (ho : o.op = .makeSlice t x y) (ht : P.underlying t = some (.slice e))
    {ty : Ty} {bytes : Nat} (hte : elemTy cx e = some (ty, bytes)) {lv cv' : AV} (hx : ev st x = some lv) (hy : ev st y = some cv') {l c : Int} (hl : intA lv = some l) (hc : intA cv' = some c)
    (hb : (decide (0 ≤ l) && decide (l ≤ c) && decide (c * bytes ≤ room)) = true) {id : Id}
    (hK : (st.new id (.row e false ty (List.replicate l.toNat ty.dflt)) fun st => K (st.put o.dst (cv (.row id)))) = some r) : o.wp P a w (Next nt w0 O K r) Q := by
  obtain ⟨i, z, hi, hz, hisz, hby, hzs, hpos, hbpos, hdat⟩ := elemTy_ok hcx hte
  obtain ⟨hid, hK⟩ := new_ok hK
  obtain ⟨kl, hkl⟩ := intA_of (ev_ok h hx) hl
  obtain ⟨kc, hkc⟩ := intA_of (ev_ok h hy) hc
  simp only [Bool.and_eq_true, decide_eq_true_eq] at hb
  obtain ⟨⟨h0, hlc⟩, hroom⟩ := hb
  have hcb : c ≤ c * bytes := by
    have : (1 : Int) ≤ bytes := by omega
    calc c = c * 1 := by omega
      _ ≤ c * bytes := Int.mul_le_mul_of_nonneg_left this (by omega)
  have hroom' : c * bytes ≤ 140737488355328 := by simpa [room] using hroom
  have hrun := run_make (P := P) w t e i z ht hi hz kl kc l c h0 hlc (by rw [hby, Int.mul_comm]; omega) (by omega)
  rw [hisz] at hrun
  have hexec : (execOp a.eval o).run P w = .ok (.value (.slice (some ⟨w.heap.size, 0, none⟩) l.toNat c.toNat)) (w.alloc (.cells (madeCells z.cells (c.toNat * ty.sz)) e)) := by
    simp [execOp, ho, hkl, hkc, hrun]
  unfold Oper.wp
  rw [hexec]
  have hle : l.toNat ≤ c.toNat := by omega
  have hmul : l.toNat * ty.sz ≤ c.toNat * ty.sz := Nat.mul_le_mul_right _ hle
  have hg := grown_alloc w (.cells (madeCells z.cells (c.toNat * ty.sz)) e)
  have hsz : (madeCells z.cells (c.toNat * ty.sz)).size = c.toNat * ty.sz := size_madeCells _ _
  have hrel := h.alloc (id := id) (hv := .slice (some ⟨w.heap.size, 0, none⟩) l.toNat c.toNat) (nb := .row e false ty (List.replicate l.toNat ty.dflt)) hid hg (fun k hk => by simp only [blockOf, Option.some.injEq] at hk; subst hk; simp)
    ⟨(madeCells z.cells (c.toNat * ty.sz)).toList.take (l.toNat * ty.sz), by
      rw [List.length_replicate]
      exact ⟨by rw [List.length_take, Array.length_toList, hsz]; omega, .inr ⟨w.heap.size, c.toNat, _, rfl, Nat.zero_le _, heap_alloc_new w _, hle, by simp only [maxLen]; omega, hsz, rfl⟩⟩, by
      have hzl : z.cells.toList.length = ty.sz := by rw [Array.length_toList]; exact hzs
      refine RowCells.periodic (zc := z.cells.toList) (hdat S _) l.toNat _ (by rw [List.length_take, Array.length_toList, hsz, hzl]; omega) fun j hj => ?_
      rw [hzl] at hj
      rw [List.getElem?_take, if_pos hj, hzl, ← hzs, getElem!_mod _ _ (by omega)]
      have hjr : (List.range (c.toNat * ty.sz))[j]? = some j := List.getElem?_range (by omega)
      simp only [madeCells, Array.toList_map, List.getElem?_map, Array.toList_range, hzs, hjr, Option.map_some], by simp⟩
  exact ⟨_, _, S, hK, hrel.put hd (of_cell (c := .row id) ⟨upd_same _ _ _, _, _, _, rfl⟩)⟩

theorem azeros_ok {tn : TypeId} {cx : Ctx R} {KV : AV → St → Option R} (hcx : ∀ t ti, cx.tb t = some ti → TIok P t ti) (hD : ∀ k, isD (cx.tb tn) (.int k) = true → P.underlying tn = some (.int k)) (h : Rel nt w0 O μ S st a w) {dst : Nat} {t ty e : TypeId}
    (ht : P.underlying t = some (.slice e)) {s x : AV} {vs vx : Value} (hs : AVRel μ S w s vs) (hx : AVRel μ S w x vx) (hK : azeros cx dst e tn s x st KV = some r) :
    ∃ u w', (Builtin.append_ #[t, tn] ty #[vs, vx]).run P w = .ok u w' ∧ NextV nt w0 O KV r a u w' := by
  unfold azeros at hK
  split at hK
  · rename_i ty' bytes hte
    obtain ⟨i, z, hi, hz, hisz, hby, hzs, hpos, hbpos, hdat⟩ := elemTy_ok hcx hte
    split at hK
    · rename_i k n
      have hc : (isD (cx.tb tn) (.int k) && decide (1 ≤ (n : Int)) && decide ((n : Int) * bytes ≤ room)) = true := by
        cases hb : (isD (cx.tb tn) (.int k) && decide (1 ≤ (n : Int)) && decide ((n : Int) * bytes ≤ room)) with
        | true => rfl
        | false => rw [hb] at hK; cases hK
      rw [hc, cond_true] at hK
      simp only [Bool.and_eq_true, decide_eq_true_eq] at hc
      obtain ⟨⟨h1, h2⟩, h3⟩ := hc
      have e1 : vs = .slice none 0 0 := hs rfl
      have e2 : vx = .int k n := by
        have : [vx] = [Value.int k n] := hx rfl
        simpa using this
      subst e1 e2
      obtain ⟨hid, hK⟩ := new_ok hK
      have hroom' : (n : Int) * bytes ≤ 140737488355328 := by simpa [room] using h3
      obtain ⟨m, hm⟩ : ∃ m : Nat, (n : Int) = (m : Int) := ⟨Int.toNat n, (Int.toNat_of_nonneg (Int.le_trans (show (0 : Int) ≤ 1 from by omega) h2)).symm⟩
      have hnm : n = (m : Int) := hm
      subst hnm
      have h2' : (1 : Int) ≤ (m : Int) := h2
      have hmb : m * i.bytes ≤ 140737488355328 := by
        rw [hby]
        have : ((m * bytes : Nat) : Int) ≤ 140737488355328 := by rw [Int.natCast_mul]; exact hroom'
        omega
      have hm1 : m ≤ m * i.bytes := Nat.le_mul_of_pos_right _ (by rw [hby]; exact hbpos)
      have hrun := Lib.run_append_nil_zeros (P := P) w t tn ty e i z k k ht (hD k h1) hi hz m (by omega) (by rw [hisz]; exact hpos) (by omega) (by omega)
      refine ⟨_, _, hrun, ?_⟩
      have hge := grownCap_ge w m 0 e
      have hcm : grownCap w m 0 e ≤ maxLen := grownCap_le_maxLen w m 0 e (by simp only [maxLen]; omega)
      have hrel := (h.drew).alloc (id := dst) (w' := w.drew.alloc (.cells (Builtin.zeroCells z.cells m ++ Builtin.zeroCells z.cells (grownCap w m 0 e - m)) e)) (hv := .slice (some ⟨w.heap.size, 0, none⟩) m (grownCap w m 0 e)) (nb := .row e false ty' (List.replicate m ty'.dflt)) hid (grown_alloc w.drew _)
        (fun k hk => by simp only [blockOf, Option.some.injEq] at hk; subst hk; exact ⟨Nat.le_refl _, by simp⟩)
        ⟨(Builtin.zeroCells z.cells m).toList, by
          rw [List.length_replicate]
          refine ⟨by rw [Array.length_toList, size_zeroCells, hzs], .inr ⟨w.heap.size, grownCap w m 0 e, _, rfl, Nat.zero_le _, heap_alloc_new w.drew _, hge, hcm, ?_, ?_⟩⟩
          · simp only [Array.size_append, size_zeroCells, hzs, ← Nat.add_mul]
            congr 1
            omega
          · rw [Array.toList_append, ← hzs, ← size_zeroCells z.cells m, ← Array.length_toList]
            exact List.take_left, by
          have hzl : z.cells.toList.length = ty'.sz := by rw [Array.length_toList]; exact hzs
          refine RowCells.periodic (zc := z.cells.toList) (hdat S _) m _ (by rw [Array.length_toList, size_zeroCells, hzs, hzl]) fun j hj => ?_
          rw [hzl] at hj
          rw [hzl, ← hzs, getElem!_mod _ _ (by omega)]
          have hjr : (List.range (m * z.cells.size))[j]? = some j := List.getElem?_range (by rw [hzs]; exact hj)
          simp only [Builtin.zeroCells, Array.toList_map, List.getElem?_map, Array.toList_range, hjr, Option.map_some], by simp⟩
      exact ⟨_, _, _, S, hK, of_cell (c := .row dst) ⟨upd_same _ _ _, _, _, _, rfl⟩, hrel⟩
    · cases hK
  · cases hK
end
end Go.Proofs.YtjjepjfjikefiaaB
