/- The core, part 27: an operation goes on from one state. -/
import Derived.Test.YtjjepjfjikefiaaB26
set_option linter.unusedVariables false
namespace Go.Proofs.YtjjepjfjikefiaaB
open Go

section
variable {R : Type}
theorem cond_bind {α β : Type} (b : Bool) (x y : Option α) (k : α → Option β) : (bif b then x else y).bind k = bif b then x.bind k else y.bind k := by cases b <;> rfl

/-- calls go on from one state -/
def HandNat (hd : Hand R) (hs : Hand (AV × St)) : Prop := ∀ g dn args st K, hd g dn args st K = (hs g dn args st fun v s => some (v, s)).bind fun p => K p.1 p.2

theorem asmParts_nat (t : Ty) : ∀ (ps : List (Nat × Operand)) (xs : List t.den) (st : St) (K : List t.den → St → Option R), asmParts t ps xs st K = (asmParts t ps xs st fun xs s => some (xs, s)).bind fun p => K p.1 p.2
  | [], xs, st, K => rfl
  | (i, x) :: ps, xs, st, K => by
    unfold asmParts
    simp only
    split
    · split
      · cases Nat.blt i xs.length
        · rfl
        · exact asmParts_nat t ps _ _ K
      · rfl
    · rfl

theorem abuiltin_nat (cx : Ctx R) (cx' : Ctx (AV × St)) (htb : cx'.tb = cx.tb) (b : Builtin) (dn : Nat) (ats : List TypeId) (args : List AV) (st : St) (K : AV → St → Option R) :
    abuiltin cx b dn ats args st K = (abuiltin cx' b dn ats args st fun v s => some (v, s)).bind fun p => K p.1 p.2 := by
  unfold abuiltin aappend azeros acopy elemTy St.new
  simp only [htb]
  repeat' split
  all_goals first | rfl | (simp_all; done) | skip
  all_goals simp only [cond_bind, Option.bind_some, Option.bind_none]

theorem binop_nat (ti : Option TI) (yc : Bool) (h : Heap) (op : BinOp) (x y : AV) (K : AV → Option R) : binop ti yc h op x y K = (binop ti yc h op x y (fun v => some v)).bind K := by
  unfold binop binInt binStr eqK
  repeat' split
  all_goals first | rfl | (simp only [cond_bind, Option.bind_some, Option.bind_none]; done) | skip

theorem unop_nat (op : UnOp) (x : AV) (K : AV → Option R) : unop op x K = (unop op x (fun v => some v)).bind K := by
  unfold unop
  repeat' split
  all_goals rfl

theorem elemTy_tb {R' : Type} {cx : Ctx R} {cs : Ctx R'} (h : cs.tb = cx.tb) (e : TypeId) : elemTy cs e = elemTy cx e := by unfold elemTy; rw [h]
theorem bytesC_tb {R' : Type} {cx : Ctx R} {cs : Ctx R'} (h : cs.tb = cx.tb) (s t : TypeId) (hp : Heap) (a : Cell) : bytesC cs s t hp a = bytesC cx s t hp a := by unfold bytesC elemTy; rw [h]
theorem elemSz_tb {R' : Type} {cx : Ctx R} {cs : Ctx R'} (h : cs.tb = cx.tb) (e : TypeId) : elemSz cs e = elemSz cx e := by unfold elemSz; rw [h]

theorem new_bind {X : Type} (st : St) (id : Id) (b : Blk) (K' : St → Option X) (K : X → Option R) : (st.new id b K').bind K = st.new id b fun s => (K' s).bind K := by
  unfold St.new
  split
  · rw [cond_bind]; rfl
  · rfl

theorem aop_nat (cx : Ctx R) (cs : Ctx St) (cv' : Hand (AV × St)) (htb : cs.tb = cx.tb) (h1 : HandNat cx.hd cv') (h2 : HandNat cs.hd cv') (o : Oper) (st : St) (K : St → Option R) :
    aop cx o st K = (aop cs o st some).bind K := by
  unfold aop
  cases hop : o.op <;> simp only [htb, elemTy_tb htb, elemSz_tb htb, bytesC_tb htb] <;> try rfl
  case binOp =>
    split
    · rw [binop_nat (K := fun v => K (st.put o.dst v)), binop_nat (K := fun v => some (st.put o.dst v)), Option.bind_assoc]; rfl
    · rfl
  case unOp =>
    split
    · rw [unop_nat (K := fun v => K (st.put o.dst v)), unop_nat (K := fun v => some (st.put o.dst v)), Option.bind_assoc]; rfl
    · rfl
  case call c =>
    split
    · split
      · rw [abuiltin_nat cx { tb := cx.tb, hd := cv', nt := cx.nt, np := cx.np } rfl, abuiltin_nat cs { tb := cx.tb, hd := cv', nt := cx.nt, np := cx.np } htb.symm, Option.bind_assoc]
        rfl
      · split
        · rw [h1, h2, Option.bind_assoc]; rfl
        · rfl
      · rfl
    · rfl
  case buildSlice =>
    split
    · split
      · split
        · rw [asmParts_nat, asmParts_nat (R := St), cond_bind, Option.bind_assoc]
          congr 1
          congr 1
          funext p
          unfold St.new
          split
          · rw [cond_bind]; rfl
          · rfl
        · rfl
      · rfl
    · rfl
  case alloc =>
    split
    · split
      · simp only [new_bind, Option.bind_some]
      · split
        · simp only [new_bind, Option.bind_some]
        · rfl
    · rfl
  case convert =>
    split
    · split
      · rfl
      · split <;> rfl
    · rfl
  case build =>
    split
    · split
      · rw [cond_bind]; rfl
      · rfl
    · rfl
  case makeFunc fn first captured =>
    cases fn <;> try rfl
    simp only
    split
    · split <;> rfl
    · rfl
  all_goals (try unfold St.new)
  all_goals (repeat' split)
  all_goals first | rfl | (simp only [cond_bind, Option.bind_some, Option.bind_none]; done) | (simp_all [cond_bind]; done) | skip

theorem aopG_nat (cx : Ctx R) (cs : Ctx St) (cv' : Hand (AV × St)) (htb : cs.tb = cx.tb) (hnt : cs.nt = cx.nt) (hnp : cs.np = cx.np) (h1 : HandNat cx.hd cv') (h2 : HandNat cs.hd cv') (all : List Oper) (o : Oper) (st : St) (K : St → Option R) :
    aopG cx all o st K = (aopG cs all o st some).bind K := by
  unfold aopG
  rw [hnt, hnp]
  simp only [cond_bind]
  congr 1
  split
  · exact aop_nat cx cs cv' htb h1 h2 o st K
  · split
    · split
      · rename_i b _
        cases b <;> simp only [cond_true, cond_false]
        · rw [aop_nat cx cs cv' htb h1 h2, cond_bind]; rfl
        · rw [aop_nat cx cs cv' htb h1 h2, cond_bind]; rfl
      · rfl
      · rfl
    · rfl

theorem callBack_nat (s : Summ) (dn : Nat) (m : IdMap) (x : s.pin.T) (st : St) (y : s.pout.T) (K : AV → St → Option R) :
    callBack s dn m x st y K = (callBack s dn m x st y fun v s => some (v, s)).bind fun p => K p.1 p.2 := by
  unfold callBack
  simp only [cond_bind]
  congr 1
  split <;> rfl
theorem callSum_nat (brw : Bool) (s : Summ) (dn : Nat) (args : List AV) (st : St) (K : AV → St → Option R) :
    callSum brw s dn args st K = (callSum brw s dn args st fun v s => some (v, s)).bind fun p => K p.1 p.2 := by
  unfold callSum
  rw [cond_bind]
  congr 1
  simp only [cond_bind]
  congr 1
  split
  · rw [Option.bind_assoc]
    congr 1
    funext y
    exact callBack_nat s dn _ _ _ y K
  · rfl
theorem handNil_nat : HandNat (handNil : Hand R) handNil := fun _ _ _ _ _ => rfl
theorem handAt_nat {f : FuncId} {dns : List Nat} {brw : Bool} {s : Summ} {rest : Hand R} {rest' : Hand (AV × St)} (hr : HandNat rest rest') : HandNat (handAt f dns brw s rest) (handAt f dns brw s rest') := by
  intro g dn args st K
  unfold handAt
  rw [cond_bind, ← callSum_nat, ← hr]
end

/-! ### Orders of which only some matter -/
section
variable {R : Type} {P : Program} {nt : Nat} {w0 : World} {O : Own} {μ : Id → Option Value} {S : Nat → Prop} {st : St} {a : Act} {w : World} {o : Oper} {K : St → Option R} {r : R} {Q : Exit → Act → World → Prop}

/-- operations that only look at temporaries -/
def pureOp (tb : Nat → Option TI) (o : Oper) : Bool := match o.op with
  | .move _ | .assign _ | .nilCheck _ | .fieldAddr _ _ _ | .indexAddr _ _ _ | .binOp _ _ _ _ _ | .unOp _ _ _ | .extract _ _ | .index _ _ _ | .slice _ _ _ _ _ | .pick _ _ _ | .build _ _ => true
  | .convert s _ _ => !isSl (tb s)
  | .call c => match c.callee, c.argTypes.toList with
    | .builtin .len, [t] => !isMap (tb t)
    | _, _ => false
  | _ => false
def firstPure (tb : Nat → Option TI) (ops : Array Oper) (listed : Array Bool) : Option Nat :=
  (Region.ready .any ops listed).find? fun i => (match ops[i]? with | some o => pureOp tb o | none => false) && Region.free .any ops listed i
def ords (tb : Nat → Option TI) (ops : Array Oper) : Nat → Array Bool → List (List Nat)
  | 0, listed => match Region.ready .any ops listed with
    | [] => [[]]
    | _ => [[ops.size]]
  | n + 1, listed => match firstPure tb ops listed with
    | some i => (ords tb ops n (listed.setIfInBounds i true)).map (i :: ·)
    | none => match Region.ready .any ops listed with
      | [] => [[]]
      | rs => rs.flatMap fun i => (ords tb ops n (listed.setIfInBounds i true)).map (i :: ·)

theorem ords_ne (tb : Nat → Option TI) (ops : Array Oper) : ∀ (n : Nat) (listed : Array Bool), ∃ σ, σ ∈ ords tb ops n listed
  | 0, listed => by unfold ords; split <;> simp
  | n + 1, listed => by
    unfold ords
    split
    · rename_i i _
      obtain ⟨σ, h⟩ := ords_ne tb ops n (listed.setIfInBounds i true)
      exact ⟨i :: σ, List.mem_map.2 ⟨σ, h, rfl⟩⟩
    · split
      · simp
      · rename_i rs hne
        cases hrs : Region.ready .any ops listed with
        | nil => exact absurd hrs hne
        | cons i is =>
          obtain ⟨σ, h⟩ := ords_ne tb ops n (listed.setIfInBounds i true)
          exact ⟨i :: σ, List.mem_flatMap.2 ⟨i, by simp, List.mem_map.2 ⟨σ, h, rfl⟩⟩⟩

/-- from the orders that begin with i: one state behind it -/
theorem ords_step {cx : Ctx R} {cs : Ctx St} {cv' : Hand (AV × St)} (htb : cs.tb = cx.tb) (hnt : cs.nt = cx.nt) (hnp : cs.np = cx.np) (h1 : HandNat cx.hd cv') (h2 : HandNat cs.hd cv') {ops : Array Oper} {i : Nat} {oi : Oper} (hi : ops[i]? = some oi)
    {l : List (List Nat)} (hne : ∃ σ, σ ∈ l) (hall : ∀ σ ∈ l, aopsO cx ops.toList (i :: σ) st K = some r) : ∃ s, aopG cs ops.toList oi st some = some s ∧ ∀ σ ∈ l, aopsO cx ops.toList σ s K = some r := by
  have hi' : ops.toList[i]? = some oi := by rw [Array.getElem?_toList]; exact hi
  have hev : ∀ σ ∈ l, (aopG cs ops.toList oi st some).bind (fun st => aopsO cx ops.toList σ st K) = some r := by
    intro σ hσ
    have := hall σ hσ
    unfold aopsO at this
    simp only [hi'] at this
    rw [aopG_nat cx cs cv' htb hnt hnp h1 h2] at this
    exact this
  obtain ⟨σ0, hσ0⟩ := hne
  obtain ⟨s, hs, _⟩ := Option.bind_eq_some_iff.1 (hev σ0 hσ0)
  refine ⟨s, hs, fun σ hσ => ?_⟩
  have := hev σ hσ
  rw [hs] at this
  exact this

theorem fieldAddr_run (h : Rel nt w0 O μ S st a w) {t : TypeId} {x : Operand} {f : Nat} (ho : o.op = .fieldAddr t x f) {ti : TI} (hti : TIok P t ti) {p p' : Cell} (hx : ev st x = some (cv p))
    {q n : Nat} (hf : ti.fld f = some (q, n)) (hp : (p' = match p with | .ptr id off => .ptr id (off + q) | .eptr id i off sz => .eptr id i (off + q) sz | .cptr t x off => .cptr t x (off + q) | c => c) ∧
      (match p with | .ptr _ _ | .eptr _ _ _ _ | .cptr _ _ _ => true | _ => false) = true) : ∃ u, (∀ w', (execOp a.eval o).run P w' = .ok (.value u) w') ∧ AVRel μ S w (cv p') u := by
  have hk : (V1.c p).known = true := by cases p <;> first | rfl | (simp at hp)
  have hv := cell_of (ev_ok h hx) hk
  have hkind := hti.kind
  unfold TI.fld at hf
  split at hf
  · rename_i fs hfs
    rw [hfs] at hkind
    obtain ⟨fields, hu, hm, hpos⟩ := hkind
    obtain ⟨fl, hfl, hfi⟩ := mapM_get hm hf
    have hn : 0 < n := by
      have := List.all_eq_true.1 hpos _ (List.mem_of_getElem? hf)
      simpa using this
    cases hinfo : P.info? fl.type with
    | none => rw [hinfo] at hfi; cases hfi
    | some i =>
      rw [hinfo] at hfi
      simp only [Option.map_some, Option.some.injEq, Prod.mk.injEq] at hfi
      have hplace : ∀ (w : World) (b off : Nat), (fieldPlace ⟨b, off, none⟩ fl).run P w = .ok ⟨b, off + q, none⟩ w := by
        intro w b off
        have hs : i.size ≠ 0 := by omega
        simp [fieldPlace, sizeOf, typeInfo, hinfo, hs, add_plain, hfi.1]
      have hfield : fields[f]? = some fl := by rw [← Array.getElem?_toList]; exact hfl
      have hrun : ∀ (b off : Nat), a.eval x = .pointer (some ⟨b, off, none⟩) → ∀ w, (execOp a.eval o).run P w = .ok (.value (.pointer (some ⟨b, off + q, none⟩))) w := by
        intro b off e w
        simp [execOp, ho, Instr.fieldAt, Go.underlying, hu, hfield, Instr.sureAddr, e, hplace]
      cases p <;> simp only [Bool.false_eq_true, and_false] at hp
      · obtain ⟨rfl, _⟩ := hp
        obtain ⟨b, hm, e⟩ := hv
        exact ⟨_, hrun _ _ e, of_cell (c := .ptr _ _) ⟨b, hm, rfl⟩⟩
      · obtain ⟨rfl, _⟩ := hp
        obtain ⟨b, N, cap, hm, hi, e⟩ := hv
        exact ⟨_, hrun _ _ e, of_cell (c := .eptr _ _ _ _) ⟨b, N, cap, hm, hi, by rw [Nat.add_assoc]⟩⟩
      · obtain ⟨rfl, _⟩ := hp
        obtain ⟨b, o', cells, e, h2⟩ := hv
        exact ⟨_, hrun _ _ e, of_cell (c := .cptr _ _ _) ⟨b, o', cells, by rw [Nat.add_assoc], h2⟩⟩
  · cases hf

theorem index_run (h : Rel nt w0 O μ S st a w) {t e : TypeId} {x y : Operand} (ho : o.op = .indexAddr t x y) {n : Nat} (hu : P.underlying t = some (.slice e)) (hs : ∀ w, (sizeOf e).run P w = .ok n w)
    {i : Int} {iv : AV} (hy : ev st y = some iv) (hiv : intA iv = some i) {c p' : Cell} (hx : ev st x = some (cv c))
    (hc : (∃ id e' ne ty xs, c = .row id ∧ st.heap id = some (.row e' ne ty xs) ∧ ty.sz = n ∧ inb i xs.length = true ∧ p' = .eptr id i.toNat 0 n) ∨
      (∃ id lo m, c = .win id lo m n ∧ inb i m = true ∧ p' = .eptr id (lo + i.toNat) 0 n) ∨
      (∃ ty xs, c = .d (.sl ty) xs ∧ ty.sz = n ∧ inb i xs.length = true ∧ p' = .cptr ty (xs.getD i.toNat ty.dflt) 0)) : ∃ u, (∀ w', (execOp a.eval o).run P w' = .ok (.value u) w') ∧ AVRel μ S w (cv p') u := by
  obtain ⟨k, hk⟩ := intA_of (ev_ok h hy) hiv
  rcases hc with ⟨id, e', ne, ty, xs, rfl, hid, hsz, hb, rfl⟩ | ⟨id, lo, m, rfl, hb, rfl⟩ | ⟨ty, xs, rfl, hsz, hb, rfl⟩
  · have hv := cell_of (ev_ok h hx) rfl
    obtain ⟨hv2, hm2, cells, hown, hrc, _⟩ := h.blks _ _ hid
    have hm := hv.1
    rw [hm] at hm2
    simp only [Option.some.injEq] at hm2
    have hi := inb_ok hb
    rcases hown.2 with ⟨_, e2⟩ | ⟨g, cap, cur, e1, _⟩
    · omega
    · rw [← hm2] at e1
      rw [e1] at hm
      exact ⟨.pointer (some ⟨g, 0 + i.toNat * n, none⟩), fun w' => by simp [execOp, ho, e1, hk, indexAt_run hu hs hi], of_cell (c := .eptr _ _ _ _) ⟨g, xs.length, cap, hm, by omega, by simp⟩⟩
  · obtain ⟨A, c, N, cap, e1, hnc, hlo, hrow⟩ := cell_of (ev_ok h hx) rfl
    have hi := inb_ok hb
    rcases hrow with ⟨_, e2, _, _⟩ | ⟨b, hm, hA, _⟩
    · omega
    · rw [hA (by omega)] at e1
      exact ⟨.pointer (some ⟨b, lo * n + i.toNat * n, none⟩), fun w' => by simp [execOp, ho, e1, hk, indexAt_run hu hs hi], of_cell (c := .eptr _ _ _ _) ⟨b, N, cap, hm, by omega, by simp [Nat.add_mul]⟩⟩
  · obtain ⟨A, c, e1, hlc, hrow⟩ := cell_of (ev_ok h hx) rfl
    have hi := inb_ok hb
    have hne : xs ≠ [] := by rintro rfl; simp at hi; omega
    obtain ⟨b, off, cells, hA, hS, hrc, hat⟩ := hrow hne
    simp only [List.cons.injEq, and_true] at e1
    rw [hA] at e1
    subst hsz
    refine ⟨.pointer (some ⟨b, off + i.toNat * ty.sz, none⟩), fun w' => by simp [execOp, ho, e1, hk, indexAt_run hu hs hi],
      of_cell (c := .cptr _ _ _) ⟨b, off + i.toNat * ty.sz, (cells.drop (i.toNat * ty.sz)).take ty.sz, rfl, hS, hrc.get ty.sz (fun x c => Reads.length) i.toNat ty.dflt (by omega), fun j u hj => ?_⟩⟩
    rw [List.getElem?_take] at hj
    split at hj
    · rw [List.getElem?_drop] at hj
      have := hat _ u hj
      rwa [← Nat.add_assoc] at this
    · cases hj

/-- what a guard says -/
theorem aopG_cases {cs : Ctx St} (hn : nt = cs.nt) (hnp : O.np = cs.np) {ops : Array Oper} (h : Rel nt w0 O μ S st a w) {s : St} (hK : aopG cs ops.toList o st some = some s) :
    (∀ d, o.dst = some d → d < nt ∧ O.np ≤ d) ∧ ((Region.wanted o (yielded ops a.tmps) = true ∧ aop cs o st some = some s) ∨ (Region.wanted o (yielded ops a.tmps) = false ∧ s = st.put o.dst skipA)) := by
  unfold aopG at hK
  have hdb := (cond_some hK).1
  replace hK := (cond_some hK).2
  refine ⟨fun d hd => ?_, ?_⟩
  · rw [hd] at hdb
    simp only [Bool.and_eq_true] at hdb
    rw [hn, hnp]
    exact ⟨Nat.le_of_ble_eq_true hdb.1, Nat.le_of_ble_eq_true hdb.2⟩
  split at hK
  · rename_i hg
    exact .inl ⟨by simp [Region.wanted, hg], hK⟩
  · rename_i j want hg
    split at hK
    · rename_i t op ty pos after g hoj
      have hoj' : (ops[j]?).bind (·.dst) = some t := by
        rw [← Array.getElem?_toList, hoj]; rfl
      split at hK
      · rename_i b hb
        have hbv := bool_of (S := S) (w := w) (μ := μ) (b := b) (v := a.tmps.getD t undef) (by have := h.env t; rw [hb] at this; exact this)
        have hy : yielded ops a.tmps j = some b := by
          simp [yielded, hoj', getD_some hbv (by cases b <;> simp [undef])]
        have hw : Region.wanted o (yielded ops a.tmps) = (b == want) := by
          simp only [Region.wanted, hg, hy]
          cases b <;> cases want <;> rfl
        have hsame : ∀ c, c = b → st.put (some t) (bv c) = st := fun c hc => by
          subst hc
          show ({ st with env := upd st.env t (bv c) } : St) = st
          have : upd st.env t (bv c) = st.env := by
            funext x
            by_cases e : x = t
            · subst e; rw [upd_same]; exact hb.symm
            · exact upd_other _ _ _ _ e
          rw [this]
        rw [hw]
        cases b <;> cases want <;> simp only [cond_true, cond_false] at hK
        · rw [hsame false rfl] at hK; exact .inl ⟨rfl, hK⟩
        · rw [hsame false rfl] at hK; exact .inr ⟨rfl, (Option.some.inj hK).symm⟩
        · rw [hsame true rfl] at hK; exact .inr ⟨rfl, (Option.some.inj hK).symm⟩
        · rw [hsame true rfl] at hK; exact .inl ⟨rfl, hK⟩
      · rename_i hb
        have hbv := skip_rel (μ := μ) (S := S) (w := w) (v := a.tmps.getD t undef) (by have := h.env t; rw [hb] at this; exact this)
        have hy : yielded ops a.tmps j = none := by
          simp only [yielded, hoj', Option.bind_some]
          rw [Array.getD_eq_getD_getElem?] at hbv
          cases ht : a.tmps[t]? with
          | none => rfl
          | some u => rw [ht] at hbv; simp at hbv; subst hbv; rfl
        refine .inr ⟨?_, (Option.some.inj hK).symm⟩
        simp only [Region.wanted, hg, hy]
        cases want <;> rfl
      · cases hK
    · cases hK

/-- such an operation gives its value whatever the world -/
theorem pure_core {cs : Ctx St} (hT : TabOK P cs) {ops : Array Oper} (hp : pureOp cs.tb o = true) (hwant : Region.wanted o (yielded ops a.tmps) = true) (hd : ∀ d, o.dst = some d → d < nt ∧ O.np ≤ d) (h : Rel nt w0 O μ S st a w) {s : St} (hK : aop cs o st some = some s) :
    ∃ u, Yields P ops o u a ∧ Rel nt w0 O μ S s (a.put o.dst u) w := by
  unfold pureOp at hp
  have hy : ∀ {u : Value}, (∀ w', (execOp a.eval o).run P w' = .ok (.value u) w') → Yields P ops o u a := fun hu => .inl ⟨hwant, hu⟩
  have fin : ∀ {u : Value} {v : AV}, (∀ w', (execOp a.eval o).run P w' = .ok (.value u) w') → AVRel μ S w v u → some (st.put o.dst v) = some s → ∃ u, Yields P ops o u a ∧ Rel nt w0 O μ S s (a.put o.dst u) w := by
    intro u v hu hv he
    simp only [Option.some.injEq] at he
    subst he
    exact ⟨u, hy hu, h.put hd hv⟩
  unfold aop at hK
  cases hop : o.op <;> simp only [hop] at hp <;> try (cases hp; done)
  case move x =>
    simp only [hop] at hK
    split at hK
    · rename_i v hx; exact fin (u := a.eval x) (fun w' => by simp [execOp, hop]) (ev_ok h hx) hK
    · cases hK
  case assign x =>
    simp only [hop] at hK
    split at hK
    · rename_i v hx; exact fin (u := a.eval x) (fun w' => by simp [execOp, hop]) (ev_ok h hx) hK
    · cases hK
  case nilCheck x =>
    simp only [hop] at hK
    split at hK
    · rename_i i j hx
      have hv := cell_of (ev_ok h hx) rfl
      exact fin (u := a.eval x) (fun w' => by obtain ⟨b, _, e⟩ := hv; simp [execOp, hop, e]) (of_cell hv) hK
    · rename_i i j l z hx
      have hv := cell_of (ev_ok h hx) rfl
      exact fin (u := a.eval x) (fun w' => by obtain ⟨b, N, cap, _, _, e⟩ := hv; simp [execOp, hop, e]) (of_cell hv) hK
    · rename_i t x' j hx
      have hv := cell_of (ev_ok h hx) rfl
      exact fin (u := a.eval x) (fun w' => by obtain ⟨b, o', cells, e, _⟩ := hv; simp [execOp, hop, e]) (of_cell hv) hK
    · rename_i f c hx
      have hv := cell_of (ev_ok h hx) rfl
      exact fin (u := a.eval x) (fun w' => by obtain ⟨vs, e, _⟩ := hv; simp [execOp, hop, e]) (of_cell hv) hK
    · cases hK
  case fieldAddr t x f =>
    simp only [hop] at hK
    split at hK
    · rename_i ti p hti hx
      split at hK
      · rename_i q n hf
        split at hK
        · obtain ⟨u, g1, g2⟩ := fieldAddr_run h hop (hT.ti _ _ hti) hx hf ⟨rfl, rfl⟩
          exact fin g1 g2 hK
        · obtain ⟨u, g1, g2⟩ := fieldAddr_run h hop (hT.ti _ _ hti) hx hf ⟨rfl, rfl⟩
          exact fin g1 g2 hK
        · obtain ⟨u, g1, g2⟩ := fieldAddr_run h hop (hT.ti _ _ hti) hx hf ⟨rfl, rfl⟩
          exact fin g1 g2 hK
        · cases hK
      · cases hK
    · cases hK
  case indexAddr t x y =>
    simp only [hop] at hK
    split at hK
    · rename_i c iv n hx hy hn
      obtain ⟨e, hu, hs⟩ := elemSz_ok hT.ti hn
      split at hK
      · rename_i i hi
        split at hK
        · rename_i id
          split at hK
          · rename_i e' ne ty xs hid
            have hz := (cond_some hK).1; replace hK := (cond_some hK).2
            have hb := (cond_some hK).1; replace hK := (cond_some hK).2
            obtain ⟨u, g1, g2⟩ := index_run h hop hu hs hy hi hx (.inl ⟨id, e', ne, ty, xs, rfl, hid, (Nat.eq_of_beq_eq_true hz).symm, hb, rfl⟩)
            exact fin g1 g2 hK
          · cases hK
        · rename_i id lo m sz
          have hz := (cond_some hK).1; replace hK := (cond_some hK).2
          have hb := (cond_some hK).1; replace hK := (cond_some hK).2
          replace hz := Nat.eq_of_beq_eq_true hz
          subst hz
          obtain ⟨u, g1, g2⟩ := index_run h hop hu hs hy hi hx (.inr (.inl ⟨id, lo, m, rfl, hb, rfl⟩))
          exact fin g1 g2 hK
        · rename_i ty xs
          have hz := (cond_some hK).1; replace hK := (cond_some hK).2
          have hb := (cond_some hK).1; replace hK := (cond_some hK).2
          obtain ⟨u, g1, g2⟩ := index_run h hop hu hs hy hi hx (.inr (.inr ⟨ty, xs, rfl, (Nat.eq_of_beq_eq_true hz).symm, hb, rfl⟩))
          exact fin g1 g2 hK
        · cases hK
      · cases hK
    · cases hK

  case binOp op t x y yt =>
    simp only [hop] at hK
    split at hK
    · rename_i va vb hx hy
      obtain ⟨v, u, g1, g2, g3⟩ := binop_gen hT.ti hT.eq h hop hx hy hK
      exact fin g3 g2 g1
    · cases hK
  case unOp op t x =>
    simp only [hop] at hK
    split at hK
    · rename_i va hx
      obtain ⟨v, u, g1, g2, g3⟩ := unop_gen h hop hx hK
      exact fin g3 g2 g1
    · cases hK
  case convert sT t x =>
    simp only [hop] at hK
    split at hK
    · rename_i c hx
      split at hK
      · rename_i l hl
        exfalso
        unfold bytesC at hl
        cases hti : cs.tb sT with
        | none => rw [hti] at hl; cases hl
        | some ti =>
          rw [hti] at hl hp
          simp only [isSl, Option.bind_some, TI.elem] at hl hp
          split at hp <;> simp_all
      · split at hK
        · rename_i c' hc
          obtain ⟨u, g1, g2⟩ := conv_gen hT.ti h hop hx hc
          exact fin g2 g1 hK
        · cases hK
    · cases hK
  case extract x j =>
    simp only [hop] at hK
    split at hK
    · rename_i vs hx
      split at hK
      · rename_i v hj
        obtain ⟨arr, e, ha⟩ := ev_ok h hx
        obtain ⟨u, hu, hr⟩ := ha.get hj
        have : arr[j]? = some u := by rw [← Array.getElem?_toList]; exact hu
        exact fin (u := u) (fun w' => by simp [execOp, hop, e, Instr.extract, this]) (AVRel.of_V1 hr) hK
      · cases hK
    · cases hK
  case index t x y =>
    simp only [hop] at hK
    split at hK
    · rename_i sx iv hx hy
      split at hK
      · rename_i i hi
        have ht := (cond_some hK).1; replace hK := (cond_some hK).2
        have hb := (cond_some hK).1; replace hK := (cond_some hK).2
        obtain ⟨u, g1, g2⟩ := index_str_gen h hop (isD_ok hT.ti ht) hy hi hx hb
        exact fin g1 g2 hK
      · cases hK
    · cases hK
  case pick c x y =>
    simp only [hop] at hK
    split at hK
    · rename_i z va vb hc hx hy
      have h1 := bool_of (ev_ok h hc)
      have hrun : ∀ w', (execOp a.eval o).run P w' = .ok (.value (if z then a.eval x else a.eval y)) w' := fun w' => by simp [execOp, hop, h1, asBool]
      have hrel : AVRel μ S w (bif z then va else vb) (if z then a.eval x else a.eval y) := by
        cases z
        · exact ev_ok h hy
        · exact ev_ok h hx
      split at hK
      · rename_i p q
        refine fin hrun hrel ?_
        cases z <;> exact hK
      · refine fin hrun hrel ?_
        cases z <;> exact hK
    · cases hK
  case build t ps =>
    simp only [hop] at hK
    split at hK
    · rename_i ti vs hti hvs
      split at hK
      · rename_i cs hf
        have ha := (cond_some hK).1; replace hK := (cond_some hK).2
        obtain ⟨u, g1, g2⟩ := build_gen (P := P) h hop (hT.ti _ _ hti) hvs hf (by
          unfold TI.isStr at ha
          split at ha
          · rename_i fs hk; exact ⟨fs, hk⟩
          · cases ha)
        exact fin g1 g2 hK
      · cases hK
    · cases hK
  case slice t x lo hi mx =>
    simp only [hop] at hK
    split at hK
    · rename_i c hx
      split at hK
      · rename_i n hn
        split at hK
        · rename_i l hh hlo hhi
          have hb := (cond_some hK).1; replace hK := (cond_some hK).2
          simp only [Bool.and_eq_true, decide_eq_true_eq] at hb
          have hb' : 0 ≤ l ∧ l ≤ hh ∧ hh ≤ (n : Int) := ⟨hb.1.1, hb.1.2, hb.2⟩
          split at hK
          · rename_i s
            split at hK
            · have ht := (cond_some hK).1; replace hK := (cond_some hK).2
              simp only [lenC, Option.some.injEq] at hn
              subst hn
              obtain ⟨u, g1, g2⟩ := slice_str_gen h hop (isD_ok hT.ti ht) hx hlo hhi hb'
              exact fin g1 g2 hK
            · cases hK
          · rename_i id
            split at hK
            · rename_i e' ne ty xs z hid hz
              have hzz := (cond_some hK).1; replace hK := (cond_some hK).2
              obtain ⟨e, hu, hs⟩ := elemSz_ok hT.ti hz
              simp only [lenC, hid, Option.some.injEq] at hn
              subst hn
              obtain ⟨u, g1, g2⟩ := slice_row_gen h hop hu hs hx hlo hhi hb' (.inl ⟨e', ne, ty, xs, rfl, hid, (Nat.eq_of_beq_eq_true hzz).symm, rfl, rfl⟩)
              exact fin g1 g2 hK
            · cases hK
          · rename_i id lo0 n' sz
            split at hK
            · rename_i z hz
              have hzz := (cond_some hK).1; replace hK := (cond_some hK).2
              obtain ⟨e, hu, hs⟩ := elemSz_ok hT.ti hz
              replace hzz := Nat.eq_of_beq_eq_true hzz
              subst hzz
              simp only [lenC, Option.some.injEq] at hn
              subst hn
              obtain ⟨u, g1, g2⟩ := slice_row_gen h hop hu hs hx hlo hhi hb' (.inr rfl)
              exact fin g1 g2 hK
            · cases hK
          · simp only [lenC, Option.some.injEq] at hn
            subst hn
            split at hK
            · split at hK
              · rename_i z hz
                obtain ⟨e, hu, hs⟩ := elemSz_ok hT.ti hz
                obtain ⟨u, g1, g2⟩ := slice_nil_gen h hop hu hs hx hlo hhi hb'
                exact fin g1 g2 hK
              · cases hK
            · cases hK
          · rename_i ty xs
            simp only [lenC, Option.some.injEq] at hn
            subst hn
            split at hK
            · rename_i z hz
              have hzz := (cond_some hK).1; replace hK := (cond_some hK).2
              obtain ⟨e, hu, hs⟩ := elemSz_ok hT.ti hz
              replace hzz := Nat.eq_of_beq_eq_true hzz
              subst hzz
              split at hK
              · obtain ⟨u, g1, g2⟩ := slice_data_gen h hop hu hs hx hlo hhi hb' (.inl ⟨rfl, rfl⟩)
                exact fin g1 g2 hK
              · rename_i m
                split at hK
                · rename_i mm hm
                  have hc := (cond_some hK).1; replace hK := (cond_some hK).2
                  simp only [Bool.and_eq_true, decide_eq_true_eq] at hc
                  obtain ⟨hc1, rfl⟩ := hc
                  obtain ⟨u, g1, g2⟩ := slice_data_gen h hop hu hs hx hlo hhi hb' (.inr ⟨m, rfl, hc1, hm, rfl⟩)
                  exact fin g1 g2 hK
                · cases hK
            · cases hK
          · cases hK
        · cases hK
      · cases hK
    · cases hK
  case call c =>
    simp only [hop] at hK
    split at hp
    · rename_i t hcal hats
      split at hK
      · rename_i args hargs
        have hall := evArgs_map h hargs
        simp only [hcal, hats] at hK
        unfold abuiltin at hK
        split at hK <;> try (rename_i heq _; cases heq; done)
        · rename_i c1 _
          simp only at hK
          split at hK
          · rename_i n hn
            have hf := (cond_some hK).1; replace hK := (cond_some hK).2
            have hk : (V1.c c1).known = true := by cases c1 <;> first | rfl | (simp [lenC] at hn)
            obtain ⟨u1, e1, h1⟩ := hall.three
            have hv : c.args.map a.eval = #[u1] := by rw [← Array.toList_inj, e1]
            have ht : c.argTypes = #[t] := by rw [← Array.toList_inj, hats]
            refine fin (u := goInt n) (fun w' => ?_) (int_rel .i64 n) hK
            have := len_any (P := P) hT.ti (ty := o.type) h (h1 hk) hn hf (by simpa using hp) w'
            simp [execOp, hop, resolve, hcal, invoke, hv, ht, builtin, this]
          · cases hK
        all_goals first | (cases hK; done) | (simp_all; done)
      · cases hK
    · cases hp

theorem pure_yields {cs : Ctx St} (hT : TabOK P cs) (hn : nt = cs.nt) (hnp : O.np = cs.np) {ops : Array Oper} (hp : pureOp cs.tb o = true) (h : Rel nt w0 O μ S st a w) {s : St} (hK : aopG cs ops.toList o st some = some s) :
    ∃ u, Yields P ops o u a ∧ Rel nt w0 O μ S s (a.put o.dst u) w := by
  obtain ⟨hd, hc⟩ := aopG_cases hn hnp h hK
  rcases hc with ⟨hw, hK⟩ | ⟨hw, rfl⟩
  · exact pure_core hT hp hw hd h hK
  · exact ⟨undef, .inr ⟨hw, rfl⟩, h.put hd (v := skipA) (u := undef) ⟨#[], rfl, trivial⟩⟩

theorem ords_ok {cx : Ctx R} {cs : Ctx St} {cv' : Hand (AV × St)} (hT : TabOK P cs) (hn : nt = cs.nt) (hnp0 : O.np = cs.np) (hH : HandOK P nt cs) (htb : cs.tb = cx.tb) (hnt : cs.nt = cx.nt) (hnp : cs.np = cx.np) (h1 : HandNat cx.hd cv') (h2 : HandNat cs.hd cv')
    {ops : Array Oper} (hsel : Region.noSelect ops = true) (hQ : ∀ a w, Next nt w0 O K r a w → Q .normal a w) (hQp : ∀ c a w, ¬ Q (.panic c) a w) :
    ∀ (n : Nat) (listed : Array Bool) {μ : Id → Option Value} {S : Nat → Prop} {st : St} {a : Act} {w : World}, Rel nt w0 O μ S st a w → (∀ σ ∈ ords cs.tb ops n listed, aopsO cx ops.toList σ st K = some r) → wpAny P .any ops Q n listed a w
  | 0, listed, μ, S, st, a, w, h, hall => by
    unfold ords at hall
    split at hall
    · rename_i hr
      exact ⟨hr, hQ a w ⟨st, μ, S, by simpa [aopsO] using hall [] (by simp), h⟩⟩
    · have := hall [ops.size] (by simp)
      simp [aopsO] at this
  | n + 1, listed, μ, S, st, a, w, h, hall => by
    unfold ords at hall
    split at hall
    · rename_i i hfp
      have hmem := List.mem_of_find?_eq_some hfp
      have hpr := List.find?_some hfp
      simp only [Bool.and_eq_true] at hpr
      cases hoi : ops[i]? with
      | none => rw [hoi] at hpr; cases hpr.1
      | some oi =>
        rw [hoi] at hpr
        obtain ⟨s, hs, hrest⟩ := ords_step htb hnt hnp h1 h2 hoi (l := ords cs.tb ops n (listed.setIfInBounds i true)) (ords_ne cs.tb ops n _) (fun σ hσ => hall _ (List.mem_map.2 ⟨σ, hσ, rfl⟩))
        obtain ⟨u, hy, h'⟩ := pure_yields hT hn hnp0 hpr.1 h hs
        exact wpAny_take hoi hsel hpr.2 (by simpa using hmem) (fun c a w hq => absurd hq (hQp _ _ _)) hy (ords_ok hT hn hnp0 hH htb hnt hnp h1 h2 hsel hQ hQp n _ h' hrest)
    · split at hall
      · rename_i hr
        refine ⟨fun _ => hQ a w ⟨st, μ, S, by simpa [aopsO] using hall [] (by simp), h⟩, fun i hi => by rw [hr] at hi; cases hi⟩
      · rename_i rs hne
        refine ⟨fun h0 => absurd h0 hne, fun i hi => ?_⟩
        have hlt : i < ops.size := by simpa using (List.mem_filter.1 hi).1
        have hoi : ops[i]? = some ops[i] := Array.getElem?_eq_getElem hlt
        obtain ⟨s, hs, hrest⟩ := ords_step htb hnt hnp h1 h2 hoi (l := ords cs.tb ops n (listed.setIfInBounds i true)) (ords_ne cs.tb ops n _) (fun σ hσ => hall _ (List.mem_flatMap.2 ⟨i, hi, List.mem_map.2 ⟨σ, hσ, rfl⟩⟩))
        refine wpOp_mono ?_ (aopG_ok (Q := Q) hT hn hnp0 hH hoi h hs)
        rintro a' w' ⟨st', μ', S', hK', hr'⟩
        simp only [Option.some.injEq] at hK'
        subst hK'
        exact ords_ok hT hn hnp0 hH htb hnt hnp h1 h2 hsel hQ hQp n _ hr' hrest

def ordsIn (tb : Nat → Option TI) (ops : Array Oper) : List (List Nat) := ords tb ops ops.size (Array.replicate ops.size false)
/-- the orders that matter of a region ahead -/
def arunE (pg : Prog R) (n : Nat) (todo : List Item) (st : St) : List (Option R) := match todo with
  | .code (.region _ ops true) :: k => bif Region.noSelect ops then (ordsIn pg.tb ops).map fun σ => aopsO pg.toCtx ops.toList σ st fun st => arun pg n k st else [none]
  | _ => [none]

theorem arunE_ok {pg : Prog R} {cv' : Hand (AV × St)} {hs : Hand St} (hm : P.follows .mixedOrders = true) (hT : TabOK P pg.toCtx) (hH : HandOK P pg.nt pg.toCtx) (hHs : HandF P pg.nt hs) (h1 : HandNat pg.hd cv') (h2 : HandNat hs cv')
    {Post : Act → World → Prop} (hR : RunOK P w0 O pg r Post) {n : Nat} {todo : List Item} (h : Rel pg.nt w0 O μ S st a w)
    (hK : ∀ q ∈ arunE pg n todo st, q = some r) : Ends P todo a w Post := by
  unfold arunE at hK
  split at hK
  · rename_i id ops k
    cases hsel : Region.noSelect ops with
    | false =>
      rw [hsel] at hK
      exact absurd (hK none (by simp)) (by simp)
    | true =>
      rw [hsel] at hK
      simp only [cond_true] at hK
      have hall : ∀ σ ∈ ords pg.tb ops ops.size (Array.replicate ops.size false), aopsO pg.toCtx ops.toList σ st (fun st => arun pg n k st) = some r := by
        intro σ hσ
        exact hK _ (List.mem_map_of_mem (f := fun σ => aopsO pg.toCtx ops.toList σ st fun st => arun pg n k st) hσ)
      have hany := ords_ok (Q := fun e a w => e = .normal ∧ Next pg.nt w0 O (fun st => arun pg n k st) r a w) (cx := pg.toCtx) (cs := { nt := pg.nt, np := pg.np, tb := pg.tb, hd := hs }) (cv' := cv') ⟨hT.ti, hT.eq⟩ rfl hR.np hHs rfl rfl rfl h1 h2 hsel
        (fun a w hn => ⟨rfl, hn⟩) (fun c a w hq => by cases hq.1) ops.size (Array.replicate ops.size false) h.drew hall
      intro b cs
      obtain ⟨e, a', w', ⟨rfl, st', μ', S', hK', h'⟩, harr⟩ := wp_region_any (id := id) hm hany b k cs
      obtain ⟨a2, w2, t2, hp, hs⟩ := arun_ok hT hH hR n k _ _ _ _ _ h' hK' b cs
      exact ⟨a2, w2, t2, hp, Steps.trans harr hs⟩
  · exact absurd (hK none (by simp)) (by simp)

/-- from lists of one and the same -/
theorem all_same {β : Type} {l : List (Option β)} {F : Option β} (h : ∃ m, l = List.replicate m F) : ∀ q ∈ l, ∀ y, F = some y → q = some y := by
  obtain ⟨m, e⟩ := h
  intro q hq y hF
  rw [e] at hq
  rw [(List.mem_replicate.1 hq).2, hF]
theorem good_orders {f : FuncId} {pg : Prog R} {l : List (Nat × (List Item → St → Option R))} {cv' : Hand (AV × St)} {hs : Hand St} (hm : P.follows .mixedOrders = true) (hp : Parts P f pg l) (hHs : HandF P pg.nt hs) (h1 : HandNat pg.hd cv') (h2 : HandNat hs cv')
    {Post : Act → World → Prop} (hR : RunOK P w0 O pg r Post) {n : Nat} {T : List Item} {p : Tpl} {F : p.T → Option R}
    (seg : ∀ x, ∀ q ∈ arunE pg n T (mk p x), ∀ y, F x = some y → q = some y) : Good P pg.nt w0 O Post r T p F :=
  fun x μ S a w hF h => arunE_ok hm hp.tab hp.hand hHs h1 h2 hR h fun q hq => seg x q hq r hF
end
end Go.Proofs.YtjjepjfjikefiaaB
