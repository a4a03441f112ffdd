/- The core, part 18: from a body's run to the function's contract. -/
import Derived.Test.YtjjepjfjikefiaaB17
set_option linter.unusedVariables false
namespace Go.Proofs.YtjjepjfjikefiaaB
open Go

/-- results as one value -/
def retV (us : Array Value) : Value := if h : us.size = 1 then us[0] else .tuple us

/-- a result that is kept in memory -/
def cellRes (tb : Nat → Option TI) (st : St) (a : Nat) (t : TypeId) : Option V1 := match tb t, st.env a with
  | some ti, .one (.c p) => match pointee st.heap p with
    | some cs => bif ti.agg then (bif Nat.ble ti.zero.length cs.length then some (.agg (cs.take ti.zero.length)) else none) else (match cs with | c :: _ => some (.c c) | [] => none)
    | none => none
  | _, _ => none
def resKnown (tb : Nat → Option TI) (st : St) : List ResultVar → Bool
  | [] => true
  | .tmp _ :: l => resKnown tb st l
  | .cell a t :: l => (cellRes tb st a t).isSome && resKnown tb st l
/-- at a function's end: the results, then the parameters -/
def endSt (tb : Nat → Option TI) (rs : List ResultVar) (np : Nat) (st : St) : St :=
  { env := fun t => match rs[t]? with
      | some (.tmp s) => st.env s
      | some (.cell a ty) => (match cellRes tb st a ty with | some v => .one v | none => undefA)
      | none => bif Nat.blt (t - rs.length) np then st.env (t - rs.length) else undefA, heap := st.heap }
/-- what a function's end gives -/
def endOf (tb : Nat → Option TI) (rs : List ResultVar) (np : Nat) (pout : Tpl) (st : St) : Option pout.T := bif resKnown tb st rs then ext pout (endSt tb rs np st) else none

def Own.free (O : Own) : Own := { o := O.o, s := O.s, kept := O.kept, tb := O.tb }
def Own.pin (O : Own) (np : Nat) (args : Array Value) : Own := { o := O.o, s := O.s, np, args, kept := O.kept, tb := O.tb }

/-- a function's contract -/
structure Con (P : Program) (f : FuncId) (k nr np : Nat) (pin pout : Tpl) (impl : pin.T → Option pout.T) : Prop where
  enter : ∀ args w, (callFunc f args).run P w = .ok (.enter f args) w
  le : np ≤ k
  calls : ∀ (w : World) (O : Own) (vals : Array Value) (μ : Id → Option Value) (S : Nat → Prop) (x : pin.T) (y : pout.T), vals.size = k → O.free = O → Rel k w O μ S (mk pin x) ⟨vals, []⟩ w → impl x = some y →
    Calls P f vals w fun e w' => ∃ us : Array Value, us.size = nr ∧ e = .returned (retV us) ∧ ∃ μ' S', Rel (nr + np) w O μ' S' (mk pout y) ⟨us ++ (vals.toList.take np).toArray, []⟩ w'

section
variable {R : Type} {P : Program} {nt : Nat} {w0 : World} {O : Own} {μ : Id → Option Value} {S : Nat → Prop} {st : St} {a : Act} {w : World} {r : R}

theorem getD_append_undef (vals : Array Value) (n t : Nat) : (vals ++ Array.replicate n undef).getD t undef = vals.getD t undef := by
  simp only [Array.getD_eq_getD_getElem?]
  rcases Nat.lt_or_ge t vals.size with h | h
  · rw [Array.getElem?_append_left h]
  · rw [Array.getElem?_append_right h, Array.getElem?_eq_none h]
    rw [Array.getElem?_replicate]
    split <;> rfl

theorem Rel.start {k : Nat} {vals : Array Value} (h : Rel k w0 O μ S st ⟨vals, []⟩ w) (hk : vals.size = k) (hnt : k ≤ nt) {np : Nat} (hnp : np ≤ k) : Rel nt w0 (O.pin np (vals.toList.take np).toArray) μ S st ⟨vals ++ Array.replicate (nt - vals.size) undef, []⟩ w := by
  refine ⟨fun t => ?_, ?_, rfl, h.dom, h.blks, h.sep, h.imm, h.own, h.os, h.tape, h.output, h.grow, h.frame, h.sfrom, fun i hi => ?_, h.kept, h.tabs, h.tq⟩
  · rw [getD_append_undef]; exact h.env t
  · simp; omega
  · have hi' : i < np := hi
    show (vals ++ Array.replicate (nt - vals.size) undef)[i]? = (vals.toList.take np).toArray[i]?
    rw [Array.getElem?_append_left (by omega)]
    simp [List.getElem?_take_of_lt hi']

theorem cellRes_ok {tb : Nat → Option TI} (htb : ∀ t ti, tb t = some ti → TIok P t ti) (h : Rel nt w0 O μ S st a w) {x : Nat} {t : TypeId} {v : V1} (hv : cellRes tb st x t = some v) :
    ∃ u, (Bind.bind (asAddr (a.tmps.getD x undef)) fun p => loadVar t p : Sem Value).run P w = .ok u w ∧ V1Rel μ S w v u := by
  unfold cellRes at hv
  split at hv
  · rename_i ti p hti hx
    have hTI := htb _ _ hti
    split at hv
    · rename_i cs hp
      have hk : (V1.c p).known = true := by cases p <;> first | rfl | (simp [pointee] at hp)
      have hcell := h.env x
      rw [hx] at hcell
      obtain ⟨b, off, vals, hpv, hat, hall⟩ := pointee_ok h (cell_of hcell hk) hp
      have hlen := hall.length
      cases ha : ti.agg with
      | true =>
        rw [ha] at hv
        simp only [cond_true] at hv
        have hle := Nat.le_of_ble_eq_true (cond_some hv).1
        have hve := (cond_some hv).2
        simp only [Option.some.injEq] at hve
        subst hve
        refine ⟨.agg (vals.take ti.zero.length).toArray, ?_, ⟨_, rfl, by simpa using hall.take ti.zero.length⟩⟩
        have hl : (vals.take ti.zero.length).length = ti.zero.length := by rw [List.length_take]; omega
        have hr := run_loadCells_list (P := P) w ⟨b, off, none⟩ (vals.take ti.zero.length) (fun j u hj => by
          rw [add_plain]
          rw [List.getElem?_take] at hj
          split at hj
          · exact hat j u hj
          · cases hj)
        rw [hl] at hr
        simp [hpv, asAddr, loadVar, hTI.kind.agg, ha, size_run hTI, hr]
      | false =>
        rw [ha] at hv
        simp only [cond_false] at hv
        cases cs with
        | nil => cases hv
        | cons c cs =>
          simp only [Option.some.injEq] at hv
          subst hv
          cases vals with
          | nil => exact hall.elim
          | cons u us =>
            have hc := hat 0 u (by simp)
            simp only [Nat.add_zero] at hc
            exact ⟨u, by simp [hpv, asAddr, loadVar, hTI.kind.agg, ha, hc], hall.1⟩
    · cases hv
  · cases hv

theorem run_enter {f : FuncId} {fn : Func} {c : Code} (hf : P.funcs[f]? = some fn) (hname : (fn.name == "runtime.NumGoroutine") = false) (hb : fn.body = some c) (args : Array Value) (w : World) :
    (callFunc f args).run P w = .ok (.enter f args) w := by
  have h1 : ¬ fn.name = "runtime.NumGoroutine" := by simpa using hname
  simp [callFunc, hf, h1, hb]

def rvRun (tmps : Array Value) : ResultVar → Sem Value
  | .tmp t => pure (tmps.getD t undef)
  | .cell a t => do loadVar t (← asAddr (tmps.getD a undef))

theorem results_run {fn : Func} {rs : List ResultVar} (hr : fn.results = rs.toArray) (hl : rs.length ≤ 4) {tmps : Array Value} {us : List Value} (hu : All2 (fun rv u => (rvRun tmps rv).run P w = .ok u w) rs us) :
    (results fn tmps).run P w = .ok (retV us.toArray) w := by
  have hdef : results fn tmps = (do let vs ← fn.results.mapM (rvRun tmps); pure (retV vs)) := rfl
  rw [hdef, hr]
  match rs, us, hl, hu with
  | [], [], _, _ => simp [retV]
  | [x], [u], _, ⟨h1, _⟩ => simp [retV, h1]
  | [x, y], [u, v], _, ⟨h1, h2, _⟩ => simp [retV, h1, h2]
  | [x, y, z], [u, v, t], _, ⟨h1, h2, h3, _⟩ => simp [retV, h1, h2, h3]
  | [x, y, z, q], [u, v, t, s], _, ⟨h1, h2, h3, h4, _⟩ => simp [retV, h1, h2, h3, h4]
  | _ :: _ :: _ :: _ :: _ :: _, _, hl, _ => simp at hl

/-- the end of the run: its results have values, and these are told -/
theorem Rel.finish {tb : Nat → Option TI} (htb : ∀ t ti, tb t = some ti → TIok P t ti) (h : Rel nt w0 O μ S st a w) {rs : List ResultVar} (hk : resKnown tb st rs = true) (ha : O.args.size = O.np) :
    ∃ us : List Value, All2 (fun rv u => (rvRun a.tmps rv).run P w = .ok u w) rs us ∧ Rel (rs.length + O.np) w0 O.free μ S (endSt tb rs O.np st) ⟨us.toArray ++ O.args, []⟩ w := by
  have key : ∀ l, resKnown tb st l = true → ∃ us : List Value, All2 (fun rv u => (rvRun a.tmps rv).run P w = .ok u w ∧ match rv with
      | .tmp s => AVRel μ S w (st.env s) u
      | .cell x ty => ∃ v, cellRes tb st x ty = some v ∧ V1Rel μ S w v u) l us := by
    intro l
    induction l with
    | nil => exact fun _ => ⟨[], trivial⟩
    | cons rv l ih =>
      intro hk
      cases rv with
      | tmp s =>
        obtain ⟨us, hus⟩ := ih hk
        exact ⟨a.tmps.getD s undef :: us, ⟨by simp [rvRun], h.env s⟩, hus⟩
      | cell x ty =>
        simp only [resKnown, Bool.and_eq_true] at hk
        obtain ⟨us, hus⟩ := ih hk.2
        obtain ⟨v, hv⟩ := Option.isSome_iff_exists.1 hk.1
        obtain ⟨u, hu, hr⟩ := cellRes_ok htb h hv
        exact ⟨u :: us, ⟨hu, v, hv, hr⟩, hus⟩
  obtain ⟨us, hus⟩ := key rs hk
  have hlen := hus.length
  refine ⟨us, hus.mono fun _ _ h => h.1, fun t => ?_, by simp [ha, hlen], rfl, h.dom, h.blks, h.sep, h.imm, h.own, h.os, h.tape, h.output, h.grow, h.frame, h.sfrom, fun i hi => absurd hi (Nat.not_lt_zero i), h.kept, h.tabs, h.tq⟩
  simp only [endSt]
  rw [Array.getD_eq_getD_getElem?]
  cases hr : rs[t]? with
  | some rv =>
    obtain ⟨u, hu, _, hm⟩ := hus.get hr
    have hlt : t < us.length := (List.getElem?_eq_some_iff.1 hu).1
    rw [Array.getElem?_append_left (by simpa using hlt)]
    simp only [List.getElem?_toArray, hu, Option.getD_some]
    cases rv with
    | tmp s => exact hm
    | cell x ty =>
      obtain ⟨v, hv, hrel⟩ := hm
      simp only [hv]
      exact fun _ => hrel
  | none =>
    have hge : rs.length ≤ t := by simpa using hr
    rw [Array.getElem?_append_right (by simp; omega)]
    simp only [List.size_toArray]
    rw [← hlen]
    cases hb : Nat.blt (t - rs.length) O.np with
    | false => exact fun hk => by cases hk
    | true =>
      have hlt : t - rs.length < O.np := Nat.le_of_ble_eq_true hb
      rw [← h.pars _ hlt, ← Array.getD_eq_getD_getElem?]
      exact h.env _

/-- the body's run ends as the template says, so the function keeps its contract -/
theorem con_of_run {f : FuncId} {fn : Func} {c : Code} {k np : Nat} {rs : List ResultVar} {tb : Nat → Option TI} {pin pout : Tpl} {impl : pin.T → Option pout.T} (htb : ∀ t ti, tb t = some ti → TIok P t ti)
    (hf : P.funcs[f]? = some fn) (hname : (fn.name == "runtime.NumGoroutine") = false) (hb : fn.body = some c)
    (hr : fn.results = rs.toArray) (hl : rs.length ≤ 4) (hk : k ≤ fn.ntmps) (hnp : np ≤ k)
    (hrun : ∀ (w0 : World) (O : Own) (x : pin.T) (y : pout.T) (μ : Id → Option Value) (S : Nat → Prop) (a : Act) (w : World), O.np = np → impl x = some y → Rel fn.ntmps w0 O μ S (mk pin x) a w →
      Ends P [.code c] a w fun a' w' => ∃ μ' S' st', Rel fn.ntmps w0 O μ' S' st' a' w' ∧ endOf tb rs np pout st' = some y) : Con P f k rs.length np pin pout impl where
  enter := run_enter hf hname hb
  le := hnp
  calls := by
    intro w O vals μ S x y hsz hO hrel hx cs
    have hst := hrel.start (nt := fn.ntmps) hsz hk hnp
    have hends := hrun w _ x y μ S _ w rfl hx hst
    let b : Frame := { (default : Frame) with fn := f, kind := .normal }
    have henter : Frame.enter P f vals .normal = b.at ⟨vals ++ Array.replicate (fn.ntmps - vals.size) undef, []⟩ [.code c] := by
      simp [Frame.enter, Frame.at, hf, hb, b]
    obtain ⟨a', w', todo', ⟨μ', S', st', hrel', hext⟩, hsteps⟩ := hends b cs
    have hargs : (O.pin np (vals.toList.take np).toArray).args.size = (O.pin np (vals.toList.take np).toArray).np := by
      simp [Own.pin]; omega
    obtain ⟨us, hus, hfin⟩ := hrel'.finish htb (cond_some hext).1 hargs
    obtain ⟨μ2, S2, hrel2⟩ := ext_ok hfin (cond_some hext).2
    refine ⟨_, w', { b.at a' todo' with mode := .returning }, ⟨us.toArray, by simpa using hus.length.symm, rfl, μ2, S2, ?_⟩, by rw [henter]; exact hsteps, rfl, ?_⟩
    · have he : (O.pin np (vals.toList.take np).toArray).free = O := hO
      rw [he] at hrel2
      exact hrel2
    · exact ⟨rfl, hrel'.defers, rfl, fn, hf, results_run hr hl hus⟩
end
end Go.Proofs.YtjjepjfjikefiaaB
