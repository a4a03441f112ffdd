/- The core, part 10: structs and slices put together, slices of slices, operators, built-ins. -/
import Derived.Test.YtjjepjfjikefiaaB9
set_option linter.unusedVariables false
namespace Go.Proofs.YtjjepjfjikefiaaB
open Go

section
variable {R : Type} {P : Program} {nt : Nat} {w0 : World} {O : Own} {μ : Id → Option Value} {S : Nat → Prop} {st : St} {a : Act} {w : World} {o : Oper} {K : St → Option R} {r : R} {Q : Exit → Act → World → Prop}

theorem foldl_splice (off : Nat) : ∀ (vs : List Value) (k : Nat) (cur : Array Value), off + k + vs.length ≤ cur.size →
    (vs.zipIdx k).foldl (fun cs (p : Value × Nat) => cs.setIfInBounds (off + p.2) p.1) cur = (cur.toList.take (off + k) ++ vs ++ cur.toList.drop (off + k + vs.length)).toArray
  | [], k, cur, _ => by simp
  | v :: vs, k, cur, hl => by
    have ih := foldl_splice off vs (k + 1) (cur.setIfInBounds (off + k) v) (by simp at hl ⊢; omega)
    simp only [List.zipIdx_cons, List.foldl_cons]
    rw [ih]
    congr 1
    have e := list_seg_step cur.toList (off + k) v vs (by simp at hl ⊢; omega)
    simpa [Array.toList_setIfInBounds, Nat.add_assoc] using e

theorem fill_step {place : Nat → Option (Nat × Nat)} {cur : Array Value} {j off n : Nat} {v : Value} {rest : List (Nat × Value)} (hp : place j = some (off, n)) (hn : v.cells.size = n) (hfit : off + n ≤ cur.size) :
    Instr.fill place cur ((j, v) :: rest) = Instr.fill place (cur.toList.take off ++ v.cells.toList ++ cur.toList.drop (off + n)).toArray rest := by
  have h1 : v.cells.zipIdx.foldl (fun cs (x : Value × Nat) => match x with | (c, j) => cs.setIfInBounds (off + j) c) cur = (cur.toList.take off ++ v.cells.toList ++ cur.toList.drop (off + n)).toArray := by
    have h := foldl_splice off v.cells.toList 0 cur (by simpa [hn] using hfit)
    simp only [Nat.add_zero, Array.length_toList, hn] at h
    rw [← h, ← Array.foldl_toList, Array.toList_zipIdx]
  have h2 : ¬ (v.cells.size ≠ n ∨ cur.size < off + v.cells.size) := by omega
  simp only [Instr.fill, hp]
  rw [if_neg (by simpa using by omega)]
  rw [h1]

theorem fillC_ok (h : Rel nt w0 O μ S st a w) {place : Nat → Option (Nat × Nat)} : ∀ {ps : List (Nat × Operand)} {vs : List (Nat × V1)} {cs cs' : List Cell} {cur : Array Value}, evParts st ps = some vs → fillC cs place vs = some cs' →
    All2 (CellRel μ S w) cs cur.toList → ∃ cur', Instr.fill place cur (ps.map fun p => (p.1, a.eval p.2)) = some cur' ∧ All2 (CellRel μ S w) cs' cur'.toList
  | [], vs, cs, cs', cur, hv, hf, hc => by
    simp only [evParts, Option.some.injEq] at hv
    subst hv
    simp only [fillC, Option.some.injEq] at hf
    subst hf
    exact ⟨cur, rfl, hc⟩
  | (j, x) :: ps, vs, cs, cs', cur, hv, hf, hc => by
    unfold evParts at hv
    split at hv
    · rename_i v hx
      split at hv
      · rename_i vs' hvs
        simp only [Option.some.injEq] at hv
        subst hv
        unfold fillC at hf
        split at hf
        · rename_i off n hp
          cases hb : (Nat.beq v.cells.length n && Nat.ble (off + n) cs.length) with
          | false => rw [hb] at hf; cases hf
          | true =>
            rw [hb] at hf
            simp only [Bool.and_eq_true] at hb
            have hn := Nat.eq_of_beq_eq_true hb.1
            have hle := Nat.le_of_ble_eq_true hb.2
            have hcl := (v1_ok h hx).cells
            have hsz : (a.eval x).cells.size = n := by rw [← Array.length_toList, ← hcl.length, hn]
            have hcs := hc.length
            have hcur : cur.toList.length = cur.size := Array.length_toList
            simp only [List.map_cons]
            rw [fill_step hp hsz (by omega)]
            have hsp := splice_rel off hc hcl
            have hcl2 : (a.eval x).cells.toList.length = n := by rw [Array.length_toList]; exact hsz
            rw [hcl2] at hsp
            exact fillC_ok h hvs hf (by simpa using hsp)
        · cases hf
      · cases hv
    · cases hv

theorem build_gen (h : Rel nt w0 O μ S st a w) {t : TypeId} {ps : Array (Nat × Operand)} (ho : o.op = .build t ps) {ti : TI} (hti : TIok P t ti) {vs : List (Nat × V1)} (hv : evParts st ps.toList = some vs)
    {cs : List Cell} (hf : fillC ti.zero ti.fld vs = some cs) (hne : ∃ fs, ti.kind = .struct fs) : ∃ u, (∀ w', (execOp a.eval o).run P w' = .ok (.value u) w') ∧ AVRel μ S w (.one (.agg cs)) u := by
  obtain ⟨i, z, hi, hz, hs, hb, hzero, hdat⟩ := hti.info
  obtain ⟨fs, hfs⟩ := hne
  have hkind := hti.kind
  rw [hfs] at hkind
  obtain ⟨fields, hu, hm, hpos⟩ := hkind
  have hplace : ti.fld = fun j => fs.toArray[j]? := by funext j; simp [TI.fld, hfs]
  obtain ⟨cur', hfill, hall⟩ := fillC_ok (place := ti.fld) h hv hf (hzero μ S w)
  rw [hplace] at hfill
  have hbuilt : P.built t (ps.map fun (p : Nat × Operand) => (p.1, a.eval p.2)).toList = some cur' := by
    unfold Program.built
    rw [hi, hu]
    simp only [hz, hm]
    rw [← hfill]
    simp
  refine ⟨.agg cur', fun w' => ?_, AVRel.of_V1 (c := .agg cs) ⟨cur', rfl, hall⟩⟩
  have hrun := run_build (P := P) w' t (ps.map fun (p : Nat × Operand) => (p.1, a.eval p.2)) cur' hbuilt
  simp [execOp, ho, hrun]
theorem build_ok (h : Rel nt w0 O μ S st a w) (hd : ∀ d, o.dst = some d → d < nt ∧ O.np ≤ d) {t : TypeId} {ps : Array (Nat × Operand)} (ho : o.op = .build t ps) {ti : TI} (hti : TIok P t ti) {vs : List (Nat × V1)} (hv : evParts st ps.toList = some vs)
    {cs : List Cell} (hf : fillC ti.zero ti.fld vs = some cs) (hne : ∃ fs, ti.kind = .struct fs) (hK : K (st.put o.dst (.one (.agg cs))) = some r) : o.wp P a w (Next nt w0 O K r) Q := by
  obtain ⟨u, g1, g2⟩ := build_gen (P := P) h ho hti hv hf hne
  exact out_ok h hd (g1 w) g2 hK

theorem asmParts_ok {ty : Ty} {KV : List ty.den → St → Option R} (hpos : 0 < ty.sz) : ∀ {ps : List (Nat × Operand)} {xs : List ty.den} {st : St} {μ : Id → Option Value} {S : Nat → Prop} {cur : Array Value}, Rel nt w0 O μ S st a w → asmParts ty ps xs st KV = some r →
    RowCells (Reads S w ty) xs cur.toList → ∃ xs' st' μ' S' cur', KV xs' st' = some r ∧ Rel nt w0 O μ' S' st' a w ∧ Instr.fill (fun i => some (i * ty.sz, ty.sz)) cur (ps.map fun p => (p.1, a.eval p.2)) = some cur' ∧
      RowCells (Reads S' w ty) xs' cur'.toList ∧ xs'.length = xs.length
  | [], xs, st, μ, S, cur, h, hK, hc => ⟨xs, st, μ, S, cur, hK, h, rfl, hc, rfl⟩
  | (j, x) :: ps, xs, st, μ, S, cur, h, hK, hc => by
    unfold asmParts at hK
    simp only at hK
    obtain ⟨μ1, S1, hsub, h1⟩ := Rel.frz (get := fun st => cellsV st x) (n := 8) h
    split at hK
    · rename_i cs hcs
      split at hK
      · rename_i y hy
        cases hb : Nat.blt j xs.length with
        | false => rw [hb] at hK; cases hK
        | true =>
          rw [hb] at hK
          have hj : j < xs.length := by simpa using hb
          have hcell := cellsV_ok h1 hcs
          have hr := asmAll_ok hcell hy
          have hc1 : RowCells (Reads S1 w ty) xs cur.toList := hc.mono fun _ _ hx => hx.frame fun b hs => ⟨hsub b hs, rfl⟩
          have hRsz : ∀ (x : ty.den) (c : List Value), Reads S1 w ty x c → c.length = ty.sz := fun x c => Reads.length
          have hset := hc1.set ty.sz hRsz j y _ hj hr
          have hlen := hr.length
          have hcl := hc1.length ty.sz hRsz
          have hmul : j * ty.sz + ty.sz ≤ xs.length * ty.sz := by rw [← Nat.succ_mul]; exact Nat.mul_le_mul_right _ hj
          rw [Array.length_toList] at hcl hlen
          obtain ⟨xs', st', μ', S', cur', e1, e2, e3, e4, e5⟩ := asmParts_ok (cur := (cur.toList.take (j * ty.sz) ++ (a.eval x).cells.toList ++ cur.toList.drop (j * ty.sz + ty.sz)).toArray) hpos h1 hK (by simpa using hset)
          refine ⟨xs', st', μ', S', cur', e1, e2, ?_, e4, by rw [e5, List.length_set]⟩
          simp only [List.map_cons]
          rw [fill_step (place := fun i => some (i * ty.sz, ty.sz)) rfl hlen (by omega)]
          exact e3
      · cases hK
    · cases hK

theorem buildSlice_ok {cx : Ctx R} (hcx : ∀ t ti, cx.tb t = some ti → TIok P t ti) (h : Rel nt w0 O μ S st a w) (hd : ∀ d, o.dst = some d → d < nt ∧ O.np ≤ d) {t e : TypeId} {n : Nat} {ps : Array (Nat × Operand)} (ho : o.op = .buildSlice t n ps)
    (ht : P.underlying t = some (.slice e)) {ty : Ty} {bytes : Nat} (hte : elemTy cx e = some (ty, bytes)) (hb : Nat.ble (n * ty.sz) 16777216 = true) {id : Id}
    (hK : (asmParts ty ps.toList (List.replicate n ty.dflt) st fun xs st => st.new id (.row e (Nat.blt 0 n) ty xs) fun st => K (st.put o.dst (cv (.row id)))) = some r) : o.wp P a w (Next nt w0 O K r) Q := by
  obtain ⟨i, z, hi, hz, hisz, hby, hzs, hpos, hbpos, hdat⟩ := elemTy_ok hcx hte
  have hsz : (madeCells z.cells (n * ty.sz)).size = n * ty.sz := size_madeCells _ _
  have hzl : z.cells.toList.length = ty.sz := by rw [Array.length_toList]; exact hzs
  have hrow0 : RowCells (Reads S w ty) (List.replicate n ty.dflt) (madeCells z.cells (n * ty.sz)).toList := by
    refine RowCells.periodic (zc := z.cells.toList) (hdat S _) n _ (by rw [Array.length_toList, hsz, hzl]) fun j hj => ?_
    rw [hzl] at hj
    rw [hzl, ← hzs, getElem!_mod _ _ (by omega)]
    have hjr : (List.range (n * ty.sz))[j]? = some j := List.getElem?_range (by omega)
    simp only [madeCells, Array.toList_map, List.getElem?_map, Array.toList_range, hzs, hjr, Option.map_some]
  obtain ⟨xs, st', μ', S', cur, hK, hrel, hfill, hrow, hlen⟩ := asmParts_ok hpos h hK hrow0
  rw [List.length_replicate] at hlen
  obtain ⟨hid, hK⟩ := new_ok hK
  have hble := Nat.le_of_ble_eq_true hb
  have hrun : (execOp a.eval o).run P w = .ok (.value (.slice (some ⟨w.heap.size, 0, none⟩) n n)) (w.alloc (.cells cur e)) := by
    have hf2 : Instr.fill (fun i => some (i * ty.sz, ty.sz)) (madeCells z.cells (n * ty.sz)) (ps.map fun (p : Nat × Operand) => (p.1, a.eval p.2)).toList = some cur := by rw [← hfill]; simp
    have hn : ¬ (16777216 < n * ty.sz) := by omega
    by_cases h0 : n * ty.sz = 0
    · have hm0 : madeCells z.cells (n * ty.sz) = #[] := by rw [h0]; simp [madeCells, Array.range_zero']
      rw [hm0] at hfill
      have hn0 : n = 0 := by
        rcases Nat.mul_eq_zero.1 h0 with h1 | h1
        · exact h1
        · omega
      subst hn0
      simp [execOp, ho, Instr.buildSlice, run_underlying ht, sizeOf, typeInfo, hi, hisz, newRow, Array.range_zero', hfill]
    · simp only [madeCells] at hf2
      simp at hf2
      simp [execOp, ho, Instr.buildSlice, run_underlying ht, sizeOf, typeInfo, hi, hisz, hn, h0, zeroValue, hz, newRow, hf2]
  unfold Oper.wp
  rw [hrun]
  have hg := grown_alloc w (.cells cur e)
  have hsf := hrel.s_frame hg (id := id) (hv := .nilIface) (fun k e => by cases e)
  have hRsz : ∀ (x : ty.den) (c : List Value), Reads S' w ty x c → c.length = ty.sz := fun x c => Reads.length
  have hcl := hrow.length ty.sz hRsz
  rw [hlen] at hcl
  have h2 := hrel.alloc (id := id) (hv := .slice (some ⟨w.heap.size, 0, none⟩) n n) (nb := .row e (Nat.blt 0 n) ty xs) hid hg (fun k hk => by simp only [blockOf, Option.some.injEq] at hk; subst hk; simp)
    ⟨cur.toList, by
      rw [hlen]
      refine ⟨hcl, .inr ⟨w.heap.size, n, cur, rfl, Nat.zero_le _, heap_alloc_new w _, Nat.le_refl _, ?_, by rw [← Array.length_toList]; exact hcl, by rw [← hcl]; exact List.take_length⟩⟩
      have h5 : n ≤ n * ty.sz := Nat.le_mul_of_pos_right _ hpos
      simp only [maxLen]
      omega, hrow.mono fun _ _ hx => hx.frame hsf, fun h1 h2 => by
      have h3 : 0 < n := by simpa using h1
      rw [h2] at hlen
      simp at hlen
      omega⟩
  exact ⟨_, _, S', hK, h2.put hd (of_cell (c := .row id) ⟨upd_same _ _ _, _, _, _, rfl⟩)⟩

theorem bound_run (k : IntKind) {i : Int} {y : Nat} (h : 0 ≤ i ∧ i ≤ y) (code : BoundsCode) (w : World) : (Instr.sliceBound (.int k i) y code).run P w = .ok i.toNat w := run_sliceBound w k i y code h.1 h.2

theorem intO_ok (h : Rel nt w0 O μ S st a w) {d l : Int} {lo : Option Operand} (hl : intO st d lo = some l) : (lo = none ∧ l = d) ∨ ∃ x k, lo = some x ∧ a.eval x = .int k l := by
  cases lo with
  | none => simp only [intO, Option.some.injEq] at hl; exact .inl ⟨rfl, hl.symm⟩
  | some x =>
    simp only [intO] at hl
    split at hl
    · rename_i v hv
      obtain ⟨k, hk⟩ := intA_of (ev_ok h hv) hl
      exact .inr ⟨x, k, rfl, hk⟩
    · cases hl

theorem bounds_run (h : Rel nt w0 O μ S st a w) {n : Nat} {l hh : Int} {lo hi : Option Operand} (hlo : intO st 0 lo = some l) (hhi : intO st n hi = some hh) (hb : 0 ≤ l ∧ l ≤ hh ∧ hh ≤ n) (isS : Bool) (cap : Nat) (hcap : n ≤ cap) (w : World) :
    (Instr.sliceBounds isS n cap (lo.map a.eval) (hi.map a.eval) none).run P w = .ok (l.toNat, hh.toNat, cap) w := by
  rcases intO_ok h hlo with ⟨rfl, rfl⟩ | ⟨x, k, rfl, hx⟩ <;> rcases intO_ok h hhi with ⟨rfl, rfl⟩ | ⟨y, k', rfl, hy⟩
  · simp [Instr.sliceBounds]
  · simp only [Instr.sliceBounds, Option.map_none, Option.map_some, hy]
    simp [bound_run (P := P) k' (i := hh) (y := cap) ⟨by omega, by omega⟩]
  · simp only [Instr.sliceBounds, Option.map_none, Option.map_some, hx]
    simp [bound_run (P := P) k (i := l) (y := n) ⟨by omega, by omega⟩]
  · simp only [Instr.sliceBounds, Option.map_some, hx, hy]
    simp [bound_run (P := P) k' (i := hh) (y := cap) ⟨by omega, by omega⟩, bound_run (P := P) k (i := l) (y := hh.toNat) ⟨by omega, by omega⟩]

theorem bounds3_run (h : Rel nt w0 O μ S st a w) {n : Nat} {l hh m : Int} {lo hi : Option Operand} {mx : Operand} (hlo : intO st 0 lo = some l) (hhi : intO st n hi = some hh) (hhi2 : hi.isSome = true) {k2 : IntKind} (hm : a.eval mx = .int k2 m)
    (hb : 0 ≤ l ∧ l ≤ hh ∧ hh ≤ n) (hmh : hh = m) (isS : Bool) (cap : Nat) (hcap : n ≤ cap) (w : World) :
    (Instr.sliceBounds isS n cap (lo.map a.eval) (hi.map a.eval) (some (a.eval mx))).run P w = .ok (l.toNat, hh.toNat, hh.toNat) w := by
  subst hmh
  rcases intO_ok h hhi with ⟨rfl, rfl⟩ | ⟨y, k', rfl, hy⟩
  · cases hhi2
  · rcases intO_ok h hlo with ⟨rfl, rfl⟩ | ⟨x, k, rfl, hx⟩
    · simp only [Instr.sliceBounds, Option.map_none, Option.map_some, hy, hm]
      simp [bound_run (P := P) k2 (i := hh) (y := cap) ⟨by omega, by omega⟩, bound_run (P := P) k' (i := hh) (y := hh.toNat) ⟨by omega, by omega⟩]
    · simp only [Instr.sliceBounds, Option.map_some, hx, hy, hm]
      simp [bound_run (P := P) k2 (i := hh) (y := cap) ⟨by omega, by omega⟩, bound_run (P := P) k' (i := hh) (y := hh.toNat) ⟨by omega, by omega⟩, bound_run (P := P) k (i := l) (y := hh.toNat) ⟨by omega, by omega⟩]
end
end Go.Proofs.YtjjepjfjikefiaaB
