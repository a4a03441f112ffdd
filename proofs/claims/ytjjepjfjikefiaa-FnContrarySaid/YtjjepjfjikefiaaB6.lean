/- The core, part 6: new variables, addresses, structs. -/
import Derived.Test.YtjjepjfjikefiaaB5
set_option linter.unusedVariables false
namespace Go.Proofs.YtjjepjfjikefiaaB
open Go

section
variable {R : Type} {P : Program} {nt : Nat} {w0 : World} {O : Own} {μ : Id → Option Value} {S : Nat → Prop} {st : St} {a : Act} {w : World} {o : Oper} {K : St → Option R} {r : R} {Q : Exit → Act → World → Prop}

theorem new_ok {id : Id} {nb : Blk} (hK : st.new id nb K = some r) : (st.heap id = none ∧ ¬ KeptId id) ∧ K { st with heap := upd st.heap id (some nb) } = some r := by
  unfold St.new at hK
  split at hK
  · rename_i h
    cases hb : Nat.blt id 500000 with
    | true =>
      rw [hb] at hK
      refine ⟨⟨h, fun hk => ?_⟩, hK⟩
      have := Nat.le_of_ble_eq_true hb
      have := hk.1
      omega
    | false => rw [hb] at hK; cases hK
  · cases hK

theorem box_rel (h : Rel nt w0 O μ S st a w) {id : Id} (hid : st.heap id = none ∧ ¬ KeptId id) {cs : List Cell} {arr : Array Value} (hcs : All2 (CellRel μ S w) cs arr.toList) (t : TypeId) :
    Rel nt w0 O (upd μ id (some (.pointer (some ⟨w.heap.size, 0, none⟩)))) S { st with heap := upd st.heap id (some (.box cs)) } a (w.alloc (.cells arr t)) := by
  have hg := grown_alloc w (.cells arr t)
  have hsf := h.s_frame hg (id := id) (hv := .nilIface) (fun k e => by cases e)
  exact h.alloc hid hg (fun k e => by simp only [blockOf, Option.some.injEq] at e; subst e; simp) ⟨w.heap.size, t, arr, rfl, heap_alloc_new w _, hcs.mono fun _ _ => CellRel.frame hsf⟩

theorem ptr_new {id : Id} {b : Nat} : AVRel (upd μ id (some (.pointer (some ⟨b, 0, none⟩)))) S w (cv (.ptr id 0)) (.pointer (some ⟨b, 0, none⟩)) :=
  of_cell (c := .ptr id 0) ⟨b, upd_same _ _ _, rfl⟩

theorem alloc_ok (h : Rel nt w0 O μ S st a w) (hd : ∀ d, o.dst = some d → d < nt ∧ O.np ≤ d) {t : TypeId} (ho : o.op = .alloc t) {ti : TI} (hti : TIok P t ti) {id : Id}
    (hK : (st.new id (.box ti.zero) fun st => K (st.put o.dst (cv (.ptr id 0)))) = some r) : o.wp P a w (Next nt w0 O K r) Q := by
  obtain ⟨hid, hK⟩ := new_ok hK
  obtain ⟨i, z, hi, hz, hs, hb, hzero, _⟩ := hti.info
  have hrel := box_rel h hid (hzero μ S w) t
  have hrun : (execOp a.eval o).run P w = .ok (.value (.pointer (some ⟨w.heap.size, 0, none⟩))) (w.alloc (.cells z.cells t)) := by
    simp [execOp, ho, Instr.alloc, zeroValue, typeInfo, hi, hz, newVar, newRow]
  unfold Oper.wp
  rw [hrun]
  exact ⟨_, _, S, hK, hrel.put hd ptr_new⟩

/-- a builder of strings: its own block, and its buffer, nil yet -/
theorem allocB_ok {cx : Ctx R} (h : Rel nt w0 O μ S st a w) (hd : ∀ d, o.dst = some d → d < nt ∧ O.np ≤ d) {t : TypeId} (ho : o.op = .alloc t) {ti : TI} (hti : TIok P t ti) (hzc : ti.zero = [.nilp, .nilS]) {e : TypeId} {bytes : Nat} (hte : elemTy cx e = some (.int .u8, bytes))
    (hcx : ∀ t ti, cx.tb t = some ti → TIok P t ti) {id : Id}
    (hK : (st.new (id + 100000) (.buf e []) fun st => st.new id (.bld t (id + 100000)) fun st => K (st.put o.dst (cv (.ptr id 0)))) = some r) : o.wp P a w (Next nt w0 O K r) Q := by
  obtain ⟨hid1, hK⟩ := new_ok hK
  obtain ⟨hid, hK⟩ := new_ok hK
  have h1 := h.alloc hid1 (nb := .buf e []) (hv := .slice none 0 0) (w' := w) ⟨rfl, rfl, rfl, Nat.le_refl _, fun _ _ _ => rfl⟩ (fun k hk => by simp [blockOf] at hk) ⟨World.ownsRow_nil w 0 e _, fun _ => rfl⟩
  obtain ⟨i, z, hi, hz, hs, hb, hzero, _⟩ := hti.info
  have hzz := hzero (fun _ => none) (fun _ => False) w
  rw [hzc] at hzz
  obtain ⟨p, v, hcells, hp, hv⟩ : ∃ p v, z.cells.toList = [p, v] ∧ p = .pointer none ∧ v = .slice none 0 0 := by
    cases hl : z.cells.toList with
    | nil => rw [hl] at hzz; exact hzz.elim
    | cons p l => rw [hl] at hzz; cases l with
      | nil => exact hzz.2.elim
      | cons v l => cases l with
        | nil => exact ⟨p, v, rfl, hzz.1, hzz.2.1⟩
        | cons _ _ => exact hzz.2.2.elim
  subst hp hv
  have hzc2 : z.cells = #[.pointer none, .slice none 0 0] := by rw [← Array.toList_inj, hcells]
  have hrun : (execOp a.eval o).run P w = .ok (.value (.pointer (some ⟨w.heap.size, 0, none⟩))) (w.alloc (.cells z.cells t)) := by
    simp [execOp, ho, Instr.alloc, zeroValue, typeInfo, hi, hz, newVar, newRow]
  have hrel := h1.alloc hid (nb := .bld t (id + 100000)) (hv := .pointer (some ⟨w.heap.size, 0, none⟩)) (grown_alloc w (.cells z.cells t)) (fun k e => by simp only [blockOf, Option.some.injEq] at e; subst e; simp)
    ⟨w.heap.size, _, _, rfl, by rw [heap_alloc_new w _, hzc2], .inl rfl, upd_same _ _ _, _, _, _, rfl⟩
  unfold Oper.wp
  rw [hrun]
  exact ⟨_, _, S, hK, hrel.put hd ptr_new⟩

theorem box_ok (h : Rel nt w0 O μ S st a w) (hd : ∀ d, o.dst = some d → d < nt ∧ O.np ≤ d) {t : TypeId} {x : Operand} (ho : o.op = .box t x) {cs : List Cell} (hx : cellsV st x = some cs) {id : Id}
    (hK : (st.new id (.box cs) fun st => K (st.put o.dst (cv (.ptr id 0)))) = some r) : o.wp P a w (Next nt w0 O K r) Q := by
  obtain ⟨hid, hK⟩ := new_ok hK
  have hrel := box_rel h hid (cellsV_ok h hx) t
  have hrun : (execOp a.eval o).run P w = .ok (.value (.pointer (some ⟨w.heap.size, 0, none⟩))) (w.alloc (.cells (a.eval x).cells t)) := by
    simp [execOp, ho, Instr.box, newVar, newRow]
  unfold Oper.wp
  rw [hrun]
  exact ⟨_, _, S, hK, hrel.put hd ptr_new⟩

theorem store_ok (h : Rel nt w0 O μ S st a w) (hd : ∀ d, o.dst = some d → d < nt ∧ O.np ≤ d) {t : TypeId} {x y : Operand} (ho : o.op = .store t x y) {ti : TI} (hti : TIok P t ti) {p : Cell} (hx : ev st x = some (cv p)) {cs : List Cell} (hy : cellsV st y = some cs)
    (hl : cs.length = ti.zero.length) {hp : Heap} (hs : astore st.heap p cs = some hp) (hK : K (({ st with heap := hp } : St).put o.dst skipA) = some r) : o.wp P a w (Next nt w0 O K r) Q := by
  have hk : (V1.c p).known = true := by cases p <;> first | rfl | (simp [astore] at hs)
  have hcs := cellsV_ok h hy
  obtain ⟨b, off, w', hv, hrun, hrel, _⟩ := astore_ok (P := P) h (cell_of (ev_ok h hx) hk) hcs hs
  have hsz : (a.eval y).cells.size = ti.zero.length := by rw [← Array.length_toList, ← hcs.length, hl]
  have hrun : (execOp a.eval o).run P w = .ok .skip w' := by
    simp [execOp, ho, Instr.storeAt, Instr.sureAddr, hv, storeVar, size_run hti, hsz, hrun]
  unfold Oper.wp
  rw [hrun]
  exact ⟨_, μ, S, hK, hrel.put hd (v := skipA) (u := undef) ⟨#[], rfl, trivial⟩⟩

theorem nilCheck_ok (h : Rel nt w0 O μ S st a w) (hd : ∀ d, o.dst = some d → d < nt ∧ O.np ≤ d) {x : Operand} (ho : o.op = .nilCheck x) {p : Cell} (hx : ev st x = some (cv p))
    (hp : (match p with | .ptr _ _ | .eptr _ _ _ _ | .cptr _ _ _ | .fn _ _ => true | _ => false) = true) (hK : K (st.put o.dst (cv p)) = some r) : o.wp P a w (Next nt w0 O K r) Q := by
  have hk : (V1.c p).known = true := by cases p <;> first | rfl | (simp at hp)
  have hv := cell_of (ev_ok h hx) hk
  refine out_ok h hd (u := a.eval x) ?_ (of_cell hv) hK
  cases p <;> simp only [Bool.false_eq_true] at hp
  · obtain ⟨b, _, e⟩ := hv; simp [execOp, ho, e]
  · obtain ⟨b, N, cap, _, _, e⟩ := hv; simp [execOp, ho, e]
  · obtain ⟨b, o', cells, e, _⟩ := hv; simp [execOp, ho, e]
  · obtain ⟨vs, e, _⟩ := hv; simp [execOp, ho, e]

theorem mapM_get {α β : Type} {f : α → Option β} : ∀ {l : List α} {m : List β} {j : Nat} {y : β}, l.mapM f = some m → m[j]? = some y → ∃ x, l[j]? = some x ∧ f x = some y
  | [], m, j, y, h, hj => by simp at h; subst h; simp at hj
  | x :: l, m, j, y, h, hj => by
    simp only [List.mapM_cons, Option.bind_eq_bind, Option.pure_def] at h
    cases hx : f x with
    | none => rw [hx] at h; cases h
    | some z =>
      rw [hx] at h
      cases hl : l.mapM f with
      | none => rw [hl] at h; cases h
      | some m' =>
        rw [hl] at h
        simp only [Option.bind_some, Option.some.injEq] at h
        subst h
        cases j with
        | zero => simp at hj; subst hj; exact ⟨x, rfl, hx⟩
        | succ j => simpa using mapM_get hl (by simpa using hj)

theorem fieldAddr_ok (h : Rel nt w0 O μ S st a w) (hd : ∀ d, o.dst = some d → d < nt ∧ O.np ≤ d) {t : TypeId} {x : Operand} {f : Nat} (ho : o.op = .fieldAddr t x f) {ti : TI} (hti : TIok P t ti) {p p' : Cell} (hx : ev st x = some (cv p))
    {q n : Nat} (hf : ti.fld f = some (q, n)) (hp : (p' = match p with | .ptr id off => .ptr id (off + q) | .eptr id i off sz => .eptr id i (off + q) sz | .cptr t x off => .cptr t x (off + q) | c => c) ∧
      (match p with | .ptr _ _ | .eptr _ _ _ _ | .cptr _ _ _ => true | _ => false) = true) (hK : K (st.put o.dst (cv p')) = some r) : o.wp P a w (Next nt w0 O K r) Q := by
  have hk : (V1.c p).known = true := by cases p <;> first | rfl | (simp at hp)
  have hv := cell_of (ev_ok h hx) hk
  have hkind := hti.kind
  unfold TI.fld at hf
  split at hf
  · rename_i fs hfs
    rw [hfs] at hkind
    obtain ⟨fields, hu, hm, hpos⟩ := hkind
    obtain ⟨fl, hfl, hfi⟩ := mapM_get hm hf
    have hn : 0 < n := by
      have := List.all_eq_true.1 hpos _ (List.mem_of_getElem? hf)
      simpa using this
    cases hinfo : P.info? fl.type with
    | none => rw [hinfo] at hfi; cases hfi
    | some i =>
      rw [hinfo] at hfi
      simp only [Option.map_some, Option.some.injEq, Prod.mk.injEq] at hfi
      have hplace : ∀ (b off : Nat), (fieldPlace ⟨b, off, none⟩ fl).run P w = .ok ⟨b, off + q, none⟩ w := by
        intro b off
        have hs : i.size ≠ 0 := by omega
        simp [fieldPlace, sizeOf, typeInfo, hinfo, hs, add_plain, hfi.1]
      have hfield : fields[f]? = some fl := by rw [← Array.getElem?_toList]; exact hfl
      have hrun : ∀ (b off : Nat), a.eval x = .pointer (some ⟨b, off, none⟩) → (execOp a.eval o).run P w = .ok (.value (.pointer (some ⟨b, off + q, none⟩))) w := by
        intro b off e
        simp [execOp, ho, Instr.fieldAt, Go.underlying, hu, hfield, Instr.sureAddr, e, hplace]
      cases p <;> simp only [Bool.false_eq_true, and_false] at hp
      · obtain ⟨rfl, _⟩ := hp
        obtain ⟨b, hm, e⟩ := hv
        exact out_ok h hd (hrun _ _ e) (of_cell (c := .ptr _ _) ⟨b, hm, rfl⟩) hK
      · obtain ⟨rfl, _⟩ := hp
        obtain ⟨b, N, cap, hm, hi, e⟩ := hv
        exact out_ok h hd (hrun _ _ e) (of_cell (c := .eptr _ _ _ _) ⟨b, N, cap, hm, hi, by rw [Nat.add_assoc]⟩) hK
      · obtain ⟨rfl, _⟩ := hp
        obtain ⟨b, o', cells, e, h2⟩ := hv
        exact out_ok h hd (hrun _ _ e) (of_cell (c := .cptr _ _ _) ⟨b, o', cells, by rw [Nat.add_assoc], h2⟩) hK
  · cases hf

theorem inb_ok {i : Int} {n : Nat} (h : inb i n = true) : 0 ≤ i ∧ i < n := by
  unfold inb at h
  simpa using h

theorem elemSz_ok {cx : Ctx R} (hcx : ∀ t ti, cx.tb t = some ti → TIok P t ti) {t : TypeId} {n : Nat} (h : elemSz cx t = some n) : ∃ e, P.underlying t = some (.slice e) ∧ ∀ w, (sizeOf e).run P w = .ok n w := by
  unfold elemSz at h
  cases ht : cx.tb t with
  | none => rw [ht] at h; cases h
  | some ti =>
    rw [ht] at h
    have hk := (hcx t ti ht).kind
    cases hkd : ti.kind with
    | slice e =>
      rw [hkd] at hk
      have he : ti.elem = some e := by simp [TI.elem, hkd]
      simp only [Option.bind_some, he] at h
      cases hte : cx.tb e with
      | none => rw [hte] at h; cases h
      | some te =>
        rw [hte] at h
        simp only [Option.some.injEq] at h
        subst h
        exact ⟨e, hk, fun w => size_run (hcx e te hte) w⟩
    | scalar => simp [TI.elem, hkd] at h
    | struct fs => simp [TI.elem, hkd] at h
    | map k v => simp [TI.elem, hkd] at h
    | iface => simp [TI.elem, hkd] at h
    | bld e => simp [TI.elem, hkd] at h

theorem indexAt_run {t e : TypeId} {b off N cap n : Nat} {k : IntKind} {i : Int} (hu : P.underlying t = some (.slice e)) (hs : ∀ w, (sizeOf e).run P w = .ok n w) (hi : 0 ≤ i ∧ i < N) (w : World) :
    (Instr.indexAt t (.slice (some ⟨b, off, none⟩) N cap) (.int k i)).run P w = .ok (.pointer (some ⟨b, off + i.toNat * n, none⟩)) w := by
  simp [Instr.indexAt, asIntOf, Go.underlying, hu, hi, hs, add_plain]

theorem index_row_ok (h : Rel nt w0 O μ S st a w) (hd : ∀ d, o.dst = some d → d < nt ∧ O.np ≤ d) {t e : TypeId} {x y : Operand} (ho : o.op = .indexAddr t x y) {n : Nat} (hu : P.underlying t = some (.slice e)) (hs : ∀ w, (sizeOf e).run P w = .ok n w)
    {i : Int} {iv : AV} (hy : ev st y = some iv) (hiv : intA iv = some i) {c p' : Cell} (hx : ev st x = some (cv c))
    (hc : (∃ id e' ne ty xs, c = .row id ∧ st.heap id = some (.row e' ne ty xs) ∧ ty.sz = n ∧ inb i xs.length = true ∧ p' = .eptr id i.toNat 0 n) ∨
      (∃ id lo m, c = .win id lo m n ∧ inb i m = true ∧ p' = .eptr id (lo + i.toNat) 0 n) ∨
      (∃ ty xs, c = .d (.sl ty) xs ∧ ty.sz = n ∧ inb i xs.length = true ∧ p' = .cptr ty (xs.getD i.toNat ty.dflt) 0))
    (hK : K (st.put o.dst (cv p')) = some r) : o.wp P a w (Next nt w0 O K r) Q := by
  obtain ⟨k, hk⟩ := intA_of (ev_ok h hy) hiv
  rcases hc with ⟨id, e', ne, ty, xs, rfl, hid, hsz, hb, rfl⟩ | ⟨id, lo, m, rfl, hb, rfl⟩ | ⟨ty, xs, rfl, hsz, hb, rfl⟩
  · have hv := cell_of (ev_ok h hx) rfl
    obtain ⟨hv2, hm2, cells, hown, hrc, _⟩ := h.blks _ _ hid
    have hm := hv.1
    rw [hm] at hm2
    simp only [Option.some.injEq] at hm2
    have hi := inb_ok hb
    rcases hown.2 with ⟨_, e2⟩ | ⟨g, cap, cur, e1, _⟩
    · omega
    · rw [← hm2] at e1
      rw [e1] at hm
      exact out_ok h hd (u := .pointer (some ⟨g, 0 + i.toNat * n, none⟩)) (by simp [execOp, ho, e1, hk, indexAt_run hu hs hi]) (of_cell (c := .eptr _ _ _ _) ⟨g, xs.length, cap, hm, by omega, by simp⟩) hK
  · obtain ⟨A, c, N, cap, e1, hnc, hlo, hrow⟩ := cell_of (ev_ok h hx) rfl
    have hi := inb_ok hb
    rcases hrow with ⟨_, e2, _, _⟩ | ⟨b, hm, hA, _⟩
    · omega
    · rw [hA (by omega)] at e1
      refine out_ok h hd (u := .pointer (some ⟨b, lo * n + i.toNat * n, none⟩)) (by simp [execOp, ho, e1, hk, indexAt_run hu hs hi]) (of_cell (c := .eptr _ _ _ _) ⟨b, N, cap, hm, by omega, by simp [Nat.add_mul]⟩) hK
  · obtain ⟨A, c, e1, hlc, hrow⟩ := cell_of (ev_ok h hx) rfl
    have hi := inb_ok hb
    have hne : xs ≠ [] := by rintro rfl; simp at hi; omega
    obtain ⟨b, off, cells, hA, hS, hrc, hat⟩ := hrow hne
    simp only [List.cons.injEq, and_true] at e1
    rw [hA] at e1
    subst hsz
    refine out_ok h hd (u := .pointer (some ⟨b, off + i.toNat * ty.sz, none⟩)) (by simp [execOp, ho, e1, hk, indexAt_run hu hs hi])
      (of_cell (c := .cptr _ _ _) ⟨b, off + i.toNat * ty.sz, (cells.drop (i.toNat * ty.sz)).take ty.sz, rfl, hS, hrc.get ty.sz (fun x c => Reads.length) i.toNat ty.dflt (by omega), fun j u hj => ?_⟩) hK
    rw [List.getElem?_take] at hj
    split at hj
    · rw [List.getElem?_drop] at hj
      have := hat _ u hj
      rwa [← Nat.add_assoc] at this
    · cases hj

theorem index_str_gen (h : Rel nt w0 O μ S st a w) {t : TypeId} {x y : Operand} (ho : o.op = .index t x y) (hu : P.underlying t = some .string) {i : Int} {iv : AV} (hy : ev st y = some iv) (hiv : intA iv = some i)
    {s : List UInt8} (hx : ev st x = some (dv .str s)) (hb : inb i s.length = true) : ∃ u, (∀ w', (execOp a.eval o).run P w' = .ok (.value u) w') ∧ AVRel μ S w (dv (.int .u8) ((s.getD i.toNat 0).toNat : Int)) u := by
  obtain ⟨k, hk⟩ := intA_of (ev_ok h hy) hiv
  obtain ⟨sb, e1, e2⟩ := str_of (ev_ok h hx)
  have hi := inb_ok hb
  have hlen : sb.size = s.length := by rw [← e2]; rfl
  have hlt : i.toNat < sb.size := by omega
  have hget : sb[i.toNat]? = some sb[i.toNat] := ByteArray.getElem?_lt' sb _ hlt
  have hval : s.getD i.toNat 0 = sb[i.toNat] := by
    subst e2
    rw [List.getD_eq_getElem?_getD, List.getElem?_eq_getElem (by simpa using hlt)]
    rfl
  rw [hval]
  refine ⟨.int .u8 sb[i.toNat].toNat, fun w' => ?_, int_rel _ _⟩
  have h0 : 0 ≤ i := hi.1
  simp [execOp, ho, e1, hk, Instr.index, asIntOf, Go.underlying, hu, h0, hget]
theorem index_str_ok (h : Rel nt w0 O μ S st a w) (hd : ∀ d, o.dst = some d → d < nt ∧ O.np ≤ d) {t : TypeId} {x y : Operand} (ho : o.op = .index t x y) (hu : P.underlying t = some .string) {i : Int} {iv : AV} (hy : ev st y = some iv) (hiv : intA iv = some i)
    {s : List UInt8} (hx : ev st x = some (dv .str s)) (hb : inb i s.length = true) (hK : K (st.put o.dst (dv (.int .u8) ((s.getD i.toNat 0).toNat : Int))) = some r) : o.wp P a w (Next nt w0 O K r) Q := by
  obtain ⟨k, hk⟩ := intA_of (ev_ok h hy) hiv
  obtain ⟨sb, e1, e2⟩ := str_of (ev_ok h hx)
  have hi := inb_ok hb
  have hlen : sb.size = s.length := by rw [← e2]; rfl
  have hlt : i.toNat < sb.size := by omega
  have hget : sb[i.toNat]? = some sb[i.toNat] := ByteArray.getElem?_lt' sb _ hlt
  have hval : s.getD i.toNat 0 = sb[i.toNat] := by
    subst e2
    rw [List.getD_eq_getElem?_getD, List.getElem?_eq_getElem (by simpa using hlt)]
    rfl
  rw [hval] at hK
  refine out_ok h hd (u := .int .u8 sb[i.toNat].toNat) ?_ (int_rel _ _) hK
  have h0 : 0 ≤ i := hi.1
  simp [execOp, ho, e1, hk, Instr.index, asIntOf, Go.underlying, hu, h0, hget]
end
end Go.Proofs.YtjjepjfjikefiaaB
