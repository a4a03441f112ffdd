/- The core, part 3: each operation does in the machine what the abstract one says (values, memory). -/
import Derived.Test.YtjjepjfjikefiaaB2
import Derived.Laws.Slices
import Derived.Laws.StructEq
import Derived.Laws.Tables
set_option linter.unusedVariables false
namespace Go.Proofs.YtjjepjfjikefiaaB
open Go

/-! ### What is told of the types is so -/
def KindOK (P : Program) (t : TypeId) : TKind → Prop
  | .scalar => ∃ d, P.underlying t = some d ∧ (match d with | .struct _ | .array _ _ => false | _ => true) = true
  | .struct fs => ∃ fields, P.underlying t = some (.struct fields) ∧ fields.toList.mapM (fun (f : Field) => (P.info? f.type).map fun i => (f.offset, i.size)) = some fs ∧ fs.all (fun p => Nat.blt 0 p.2) = true
  | .slice e => P.underlying t = some (.slice e)
  | .iface => ∃ ms, P.underlying t = some (.interface ms)
  | .bld _ => ∃ fields, P.underlying t = some (.struct fields)
  | .map kt vt => ∃ kT vT, P.underlying t = some (.map kT vT) ∧ (match kt with | .int k => P.underlying kT = some (.int k) | .str => P.underlying kT = some .string | _ => False) ∧
      ∃ i z, P.info? vT = some i ∧ i.zero = some z ∧ (∀ S w, Reads S w vt vt.dflt z.cells.toList) ∧ (vt.isAgg = true → ∃ cs, z = .agg cs) ∧ (vt.isAgg = false → z.oneCell' = true)

def DataOK (P : Program) (t : TypeId) : Ty → Prop
  | .int k => P.underlying t = some (.int k)
  | .str => P.underlying t = some .string
  | .bool => P.underlying t = some .bool
  | _ => True

structure TIok (P : Program) (t : TypeId) (ti : TI) : Prop where
  info : ∃ i z, P.info? t = some i ∧ i.zero = some z ∧ i.size = ti.zero.length ∧ i.bytes = ti.bytes ∧ (∀ μ S w, All2 (CellRel μ S w) ti.zero z.cells.toList) ∧
    ∀ ty, ti.data = some ty → ∀ S w, Reads S w ty ty.dflt z.cells.toList
  kind : KindOK P t ti.kind
  data : ∀ ty, ti.data = some ty → ty.sz = ti.zero.length ∧ 0 < ty.sz ∧ ty.isAgg = ti.agg ∧ DataOK P t ty ∧ 0 < ti.bytes

theorem KindOK.agg {P : Program} {t : TypeId} {ti : TI} (h : KindOK P t ti.kind) (w : World) : (Go.isAgg t).run P w = .ok ti.agg w := by
  unfold TI.agg
  cases hk : ti.kind with
  | scalar =>
    rw [hk] at h
    obtain ⟨d, hd, hn⟩ := h
    cases d <;> simp_all [Go.isAgg, Go.underlying]
  | struct fs => rw [hk] at h; obtain ⟨fields, hd, _⟩ := h; simp [Go.isAgg, Go.underlying, hd]
  | slice e => rw [hk] at h; simp only [KindOK] at h; simp [Go.isAgg, Go.underlying, h]
  | map kt vt => rw [hk] at h; obtain ⟨a, b, hd, _⟩ := h; simp [Go.isAgg, Go.underlying, hd]
  | iface => rw [hk] at h; obtain ⟨ms, hd⟩ := h; simp [Go.isAgg, Go.underlying, hd]
  | bld e => rw [hk] at h; obtain ⟨fields, hd⟩ := h; simp [Go.isAgg, Go.underlying, hd]

section
variable {R : Type} {P : Program} {nt : Nat} {w0 : World} {O : Own} {μ : Id → Option Value} {S : Nat → Prop} {st : St} {a : Act} {w : World} {o : Oper} {K : St → Option R} {r : R} {Q : Exit → Act → World → Prop}

def Next (nt : Nat) (w0 : World) (O : Own) (K : St → Option R) (r : R) (a : Act) (w : World) : Prop := ∃ st μ S, K st = some r ∧ Rel nt w0 O μ S st a w

theorem ev_ok (h : Rel nt w0 O μ S st a w) {x : Operand} {v : AV} (hx : ev st x = some v) : AVRel μ S w v (a.eval x) := by
  cases x with
  | tmp t => simp only [ev, Option.some.injEq] at hx; subst hx; exact h.env t
  | const u =>
    simp only [ev] at hx
    cases hc : constC u with
    | none => rw [hc] at hx; cases hx
    | some c =>
      rw [hc] at hx
      simp only [Option.some.injEq] at hx
      subst hx
      refine AVRel.of_V1 ?_
      show CellRel μ S w c u
      unfold constC at hc
      split at hc <;> simp only [Option.some.injEq, reduceCtorEq] at hc <;> subst hc
      · exact rfl
      · exact rfl
      · exact ⟨_, rfl, rfl⟩
      · exact rfl
      · exact rfl
      · exact rfl
      · exact rfl
  | func f => simp only [ev, Option.some.injEq] at hx; subst hx; exact AVRel.of_V1 ⟨#[], rfl, trivial⟩
  | global g => cases hx

theorem out_ok (h : Rel nt w0 O μ S st a w) (hd : ∀ d, o.dst = some d → d < nt ∧ O.np ≤ d) {u : Value} {v : AV} (hrun : (execOp a.eval o).run P w = .ok (.value u) w) (hv : AVRel μ S w v u) (hK : K (st.put o.dst v) = some r) :
    o.wp P a w (Next nt w0 O K r) Q := by
  unfold Oper.wp
  rw [hrun]
  exact ⟨_, μ, S, hK, h.put hd hv⟩

/-- the cell that a known value is -/
theorem cell_of {c : Cell} {v : Value} (h : AVRel μ S w (cv c) v) (hc : (V1.c c).known = true) : CellRel μ S w c v := h hc
theorem agg_of {cs : List Cell} {v : Value} (h : AVRel μ S w (.one (.agg cs)) v) : ∃ arr : Array Value, v = .agg arr ∧ All2 (CellRel μ S w) cs arr.toList := h rfl
theorem int_of {k : IntKind} {n : Int} {v : Value} (h : AVRel μ S w (dv (.int k) n) v) : v = .int k n := by
  have := cell_of h rfl
  simpa [CellRel, Reads] using this
theorem bool_of {b : Bool} {v : Value} (h : AVRel μ S w (bv b) v) : v = .bool b := by
  have := cell_of h rfl
  simpa [CellRel, Reads] using this
theorem str_of {l : List UInt8} {v : Value} (h : AVRel μ S w (dv .str l) v) : ∃ s : ByteArray, v = .string s ∧ s.data.toList = l := by
  obtain ⟨s, e, hs⟩ := cell_of h rfl
  exact ⟨s, by simpa using e, hs⟩
theorem of_cell {c : Cell} {v : Value} (h : CellRel μ S w c v) : AVRel μ S w (cv c) v := fun _ => h
theorem int_rel (k : IntKind) (n : Int) : AVRel μ S w (dv (.int k) n) (.int k n) := of_cell (c := .d (.int k) n) (by exact (rfl : [Value.int k n] = _))
theorem bool_rel (b : Bool) : AVRel μ S w (bv b) (.bool b) := of_cell (c := .d .bool b) (by exact (rfl : [Value.bool b] = _))
theorem str_rel (s : ByteArray) (l : List UInt8) (h : s.data.toList = l) : AVRel μ S w (dv .str l) (.string s) := of_cell (c := .d .str l) (by exact ⟨s, rfl, h⟩)
theorem intA_of {v : AV} {n : Int} {u : Value} (h : AVRel μ S w v u) (hn : intA v = some n) : ∃ k, u = .int k n := by
  unfold intA at hn
  split at hn
  · rename_i k m
    simp only [Option.some.injEq] at hn
    subst hn
    exact ⟨k, int_of h⟩
  · cases hn

/-! ### Moving values -/
theorem move_ok (h : Rel nt w0 O μ S st a w) (hd : ∀ d, o.dst = some d → d < nt ∧ O.np ≤ d) {x : Operand} (ho : o.op = .move x ∨ o.op = .assign x) {v : AV} (hx : ev st x = some v) (hK : K (st.put o.dst v) = some r) :
    o.wp P a w (Next nt w0 O K r) Q :=
  out_ok h hd (u := a.eval x) (by rcases ho with ho | ho <;> simp [execOp, ho]) (ev_ok h hx) hK

theorem pick_ok (h : Rel nt w0 O μ S st a w) (hd : ∀ d, o.dst = some d → d < nt ∧ O.np ≤ d) {c x y : Operand} (ho : o.op = .pick c x y) {z : Bool} {va vb : AV} (hc : ev st c = some (bv z)) (hx : ev st x = some va) (hy : ev st y = some vb)
    (hK : K (st.put o.dst (bif z then va else vb)) = some r) : o.wp P a w (Next nt w0 O K r) Q := by
  have h1 := bool_of (ev_ok h hc)
  refine out_ok h hd (u := if z then a.eval x else a.eval y) (by simp [execOp, ho, h1, asBool]) ?_ hK
  cases z
  · exact ev_ok h hy
  · exact ev_ok h hx
theorem pick2_ok (h : Rel nt w0 O μ S st a w) (hd : ∀ d, o.dst = some d → d < nt ∧ O.np ≤ d) {c x y : Operand} (ho : o.op = .pick c x y) {z p q : Bool} (hc : ev st c = some (bv z)) (hx : ev st x = some (bv p)) (hy : ev st y = some (bv q))
    (hK : K (st.put o.dst (bv (bif z then p else q))) = some r) : o.wp P a w (Next nt w0 O K r) Q := by
  refine pick_ok h hd ho hc hx hy ?_
  cases z <;> exact hK

theorem extract_ok (h : Rel nt w0 O μ S st a w) (hd : ∀ d, o.dst = some d → d < nt ∧ O.np ≤ d) {x : Operand} {j : Nat} (ho : o.op = .extract x j) {vs : List V1} {v : V1} (hx : ev st x = some (.tup vs)) (hj : vs[j]? = some v)
    (hK : K (st.put o.dst (.one v)) = some r) : o.wp P a w (Next nt w0 O K r) Q := by
  obtain ⟨arr, e, ha⟩ := ev_ok h hx
  obtain ⟨u, hu, hr⟩ := ha.get hj
  refine out_ok h hd (u := u) ?_ (AVRel.of_V1 hr) hK
  have : arr[j]? = some u := by rw [← Array.getElem?_toList]; exact hu
  simp [execOp, ho, e, Instr.extract, this]

/-! ### Operators -/
theorem castTo_eq {t t' : Ty} {x : t'.den} {y : t.den} (h : castTo t t' x = some y) : ∃ e : t' = t, e ▸ x = y := by
  unfold castTo at h
  split at h
  · rename_i e; exact ⟨e, by simpa using h⟩
  · cases h

theorem binInt_run {t : TypeId} {op : BinOp} {k : IntKind} {x y : Int} {K : AV → Option R} (hK : binInt op k x y K = some r) :
    ∃ v u, K v = some r ∧ (∀ μ S w, AVRel μ S w v u) ∧ ∀ w, (binOp op t (.int k x) (.int k y)).run P w = .ok u w := by
  unfold binInt at hK
  split at hK <;> first
    | exact ⟨_, _, hK, fun _ _ _ => int_rel _ _, fun w => by simp [binOp, Op.intArith, Op.intBits, andI, orI, xorI, andNotI]⟩
    | exact ⟨_, _, hK, fun _ _ _ => bool_rel _, fun w => by simp [binOp, Op.intCmp]⟩
    | (cases hy : decide (y = 0) with
       | true => rw [hy] at hK; cases hK
       | false =>
         rw [hy] at hK
         have hy0 : y ≠ 0 := by simpa using hy
         exact ⟨_, _, hK, fun _ _ _ => int_rel _ _, fun w => by simp [binOp, Op.intDiv, hy0]⟩)
    | cases hK

theorem binStr_run {t : TypeId} {op : BinOp} {x y : ByteArray} {K : AV → Option R} (hK : binStr op x.data.toList y.data.toList K = some r) :
    ∃ v u, K v = some r ∧ (∀ μ S w, AVRel μ S w v u) ∧ ∀ w, (binOp op t (.string x) (.string y)).run P w = .ok u w := by
  unfold binStr at hK
  split at hK <;> first
    | exact ⟨_, _, hK, fun _ _ _ => bool_rel _, fun w => by simp [binOp, Op.stringOp, ByteArray.toList_eq, bytesLess]⟩
    | (cases hy : decide (x.data.toList.length + y.data.toList.length ≤ 140737488355328) with
       | false => rw [hy] at hK; cases hK
       | true =>
         rw [hy] at hK
         refine ⟨_, _, hK, fun _ _ _ => str_rel (x ++ y) _ (by simp), fun w => ?_⟩
         have h0 := of_decide_eq_true hy
         have h1 : ¬ (((x.size + y.size : Nat) : Int) > IntKind.i64.max) := by
           have h2 : x.data.toList.length = x.size := rfl
           have h3 : y.data.toList.length = y.size := rfl
           have h4 : IntKind.i64.max = 9223372036854775807 := by decide
           omega
         simp only [binOp, Op.stringOp]
         rw [if_neg h1]
         rfl)
    | cases hK

theorem eqGuard_plain {op : BinOp} {t : TypeId} {x y : Operand} {u v : Value} (h : (match u, v with | .nilIface, .nilIface => false | .agg _, .agg _ => false | _, _ => true) = true) (w : World) :
    (eqGuard op t x y u v).run P w = .ok () w := by
  cases op <;> first | rfl | (cases u <;> cases v <;> first | rfl | (simp at h; done))

theorem exec_bin {op : BinOp} {t yt : TypeId} {x y : Operand} (ho : o.op = .binOp op t x y yt) {u : Value} (hg : ∀ w, (eqGuard op t x y (a.eval x) (a.eval y)).run P w = .ok () w) (hr : ∀ w, (binOp op t (a.eval x) (a.eval y)).run P w = .ok u w) (w : World) :
    (execOp a.eval o).run P w = .ok (.value u) w := by
  simp [execOp, ho, hg, hr]

theorem eqK_ok {op : BinOp} {b : Option Bool} {K : AV → Option R} (hK : eqK op b K = some r) : ∃ c, b = some c ∧ ((op = .eql ∧ K (bv c) = some r) ∨ (op = .neq ∧ K (bv (!c)) = some r)) := by
  unfold eqK at hK
  split at hK
  · exact ⟨_, rfl, .inl ⟨rfl, hK⟩⟩
  · exact ⟨_, rfl, .inr ⟨rfl, hK⟩⟩
  · cases hK

/-- the fields of a struct that is compared -/
structure EqOK (P : Program) (t : TypeId) (ts : List Ty) : Prop where
  struct : P.underlying t = some (.struct (P.fieldsOf t))
  stood : P.stoodInHeld t = false
  guard : P.eqGuardType P.depth t = false
  fields : All2 (fun (ty : Ty) (f : Field) => f.name ≠ "_" ∧ DataOK P f.type ty ∧ (match ty with | .int _ | .bool | .str => true | _ => false) = true) ts (P.fieldsOf t).toList
  offs : ∀ (j : Nat) (f : Field), (P.fieldsOf t).toList[j]? = some f → f.offset = j

theorem eqD_run {ty : Ty} {x y : ty.den} {b : Bool} (hb : eqD ty x y = some b) {t : TypeId} (hd : DataOK P t ty) {u v : Value} (hu : Reads S w ty x [u]) (hv : Reads S w ty y [v]) (d : Nat) (w1 : World) :
    (Op.equalIn (d + 1) t u v).run P w1 = .ok b w1 := by
  unfold eqD at hb
  split at hb
  · simp only [Option.some.injEq] at hb; subst hb
    have e1 : [u] = [.int _ _] := hu
    have e2 : [v] = [.int _ _] := hv
    simp only [List.cons.injEq, and_true] at e1 e2
    subst e1 e2
    exact run_equalIn_int w1 d t _ _ _ _ hd
  · simp only [Option.some.injEq] at hb; subst hb
    have e1 : [u] = [.bool _] := hu
    have e2 : [v] = [.bool _] := hv
    simp only [List.cons.injEq, and_true] at e1 e2
    subst e1 e2
    exact run_equalIn_bool' w1 d t _ _ hd
  · simp only [Option.some.injEq] at hb; subst hb
    obtain ⟨s1, e1, h1⟩ := hu
    obtain ⟨s2, e2, h2⟩ := hv
    simp only [List.cons.injEq, and_true] at e1 e2
    subst e1 e2 h1 h2
    rw [run_equalIn_string w1 d t _ _ hd, ByteArray.toList_eq, ByteArray.toList_eq]
  · cases hb

theorem eqAll_run : ∀ {ts : List Ty} {xs ys : List Cell} {b : Bool} {fs : List Field} {pre : Nat} {us vs : Array Value}, eqAll ts xs ys = some b →
    All2 (fun (ty : Ty) (f : Field) => f.name ≠ "_" ∧ DataOK P f.type ty ∧ (match ty with | .int _ | .bool | .str => true | _ => false) = true) ts fs →
    (∀ (j : Nat) (f : Field), fs[j]? = some f → f.offset = pre + j) → All2 (CellRel μ S w) xs (us.toList.drop pre) → All2 (CellRel μ S w) ys (vs.toList.drop pre) → ∀ (d : Nat) (w1 : World), (Op.eqFields (d + 1) us vs fs).run P w1 = .ok b w1
  | [], [], [], _, [], _, _, _, h, _, _, _, _, d, w1 => by simp only [eqAll, Option.some.injEq] at h; subst h; rfl
  | t :: ts, x :: xs, y :: ys, b, f :: fs, pre, us, vs, h, ⟨⟨hn, hd, hs⟩, hfs⟩, ho, hx, hy, d, w1 => by
    have hxl := All2.length hx
    have hyl := All2.length hy
    obtain ⟨u, ul, hu⟩ : ∃ u ul, us.toList.drop pre = u :: ul := by
      cases hq : us.toList.drop pre with
      | nil => rw [hq] at hxl; simp at hxl
      | cons u ul => exact ⟨u, ul, rfl⟩
    obtain ⟨v, vl, hv⟩ : ∃ v vl, vs.toList.drop pre = v :: vl := by
      cases hq : vs.toList.drop pre with
      | nil => rw [hq] at hyl; simp at hyl
      | cons u ul => exact ⟨u, ul, rfl⟩
    rw [hu] at hx
    rw [hv] at hy
    unfold eqAll at h
    split at h
    · rename_i heq _ _; cases heq
    · rename_i t0 ts0 t1 x0 xs0 t2 y0 ys0 e1 e2 e3
      cases e1; cases e2; cases e3
      cases hc1 : castTo t t1 x0 with
      | none => rw [hc1] at h; cases h
      | some a =>
        cases hc2 : castTo t t2 y0 with
        | none => rw [hc1, hc2] at h; cases h
        | some c =>
          rw [hc1, hc2] at h
          simp only at h
          obtain ⟨e, he⟩ := castTo_eq hc1
          subst e
          obtain ⟨e, he'⟩ := castTo_eq hc2
          subst e
          simp only at he he'
          subst he he'
          cases hq1 : eqD _ x0 y0 with
          | none => rw [hq1] at h; cases h
          | some p =>
            cases hq2 : eqAll ts xs ys with
            | none => rw [hq1, hq2] at h; cases h
            | some q =>
              rw [hq1, hq2] at h
              simp only [Option.some.injEq] at h
              have h0 := ho 0 f (by simp)
              simp only [Nat.add_zero] at h0
              have hp1 : us[pre]? = some u := by rw [← Array.getElem?_toList]; have := congrArg (fun l => l[0]?) hu; simpa using this
              have hp2 : vs[pre]? = some v := by rw [← Array.getElem?_toList]; have := congrArg (fun l => l[0]?) hv; simpa using this
              have hagg : ∀ w2, (Go.isAgg f.type).run P w2 = .ok false w2 := by
                intro w2
                cases t2 <;> simp only [Bool.false_eq_true] at hs <;> (simp only [DataOK] at hd; simp [Go.isAgg, Go.underlying, hd])
              have hpart : ∀ (cs : Array Value) (z : Value), cs[pre]? = some z → ∀ w2, (part f.type cs f.offset).run P w2 = .ok z w2 := by
                intro cs z hz w2
                simp [part, hagg, h0, hz]
              have hstep := eqD_run (P := P) hq1 hd hx.1 hy.1 d
              have htail := eqAll_run (fs := fs) (pre := pre + 1) (us := us) (vs := vs) hq2 hfs (fun j f' hj => by have := ho (j + 1) f' (by simpa using hj); omega)
                (by have := congrArg (List.drop 1) hu; rw [List.drop_drop] at this; rw [this]; exact hx.2) (by have := congrArg (List.drop 1) hv; rw [List.drop_drop] at this; rw [this]; exact hy.2) d w1
              have hb : b = (p && q) := by
                subst h
                cases ts with
                | nil =>
                  cases xs <;> cases ys <;> simp_all [eqAll]
                | cons t' ts' => rfl
              subst hb
              simp only [Op.eqFields, hn, ne_eq, not_false_eq_true, if_true, Sem.run_bind, hpart us u hp1, hpart vs v hp2, Result.andThen_ok, hstep]
              cases p with
              | false => simp
              | true => simpa using htail
    · cases h
  | [], _ :: _, _, _, _, _, _, _, h, _, _, _, _, _, _ => by simp [eqAll] at h
  | [], [], _ :: _, _, _, _, _, _, h, _, _, _, _, _, _ => by simp [eqAll] at h
  | _ :: _, [], _, _, _, _, _, _, h, _, _, _, _, _, _ => by simp [eqAll] at h
  | _ :: _, c :: _, [], _, _, _, _, _, h, _, _, _, _, _, _ => by cases c <;> simp [eqAll] at h
  | _ :: _, _, _, _, [], _, _, _, _, h, _, _, _, _, _ => h.elim
  | [], _, _, _, _ :: _, _, _, _, _, h, _, _, _, _, _ => h.elim

end
end Go.Proofs.YtjjepjfjikefiaaB
