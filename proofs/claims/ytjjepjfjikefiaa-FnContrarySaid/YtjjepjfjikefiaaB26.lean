/- The core, part 26: regions whose operations come up in any of several orders. -/
import Derived.Test.YtjjepjfjikefiaaB25
import Derived.Orders
set_option linter.unusedVariables false
namespace Go.Proofs.YtjjepjfjikefiaaB
open Go

section
variable {R : Type} {P : Program} {nt : Nat} {w0 : World} {O : Own} {μ : Id → Option Value} {S : Nat → Prop} {st : St} {a : Act} {w : World} {o : Oper} {K : St → Option R} {r : R} {Q : Exit → Act → World → Prop}

/-- an operation by itself, with its guard -/
def aopG (cx : Ctx R) (all : List Oper) (o : Oper) (st : St) (K : St → Option R) : Option R :=
  bif (match o.dst with | some d => Nat.blt d cx.nt && Nat.ble cx.np d | none => true) then match o.guard with
    | none => aop cx o st K
    | some (j, want) => match all[j]? with
      | some { dst := some t, .. } => match st.env t with
        | .one (.c (.d .bool b)) =>
          bif b then (let st := st.put (some t) (bv true); bif want then aop cx o st K else K (st.put o.dst skipA))
          else (let st := st.put (some t) (bv false); bif want then K (st.put o.dst skipA) else aop cx o st K)
        | .tup [] => K (st.put o.dst skipA)
        | _ => none
      | _ => none
    else none

theorem aopG_ok {cx : Ctx R} (hT : TabOK P cx) (hn : nt = cx.nt) (hnp : O.np = cx.np) (hH : HandOK P nt cx) {ops : Array Oper} {i : Nat} (hi : ops[i]? = some o) (h : Rel nt w0 O μ S st a w) (hK : aopG cx ops.toList o st K = some r) :
    wpOp P ops Q i (Next nt w0 O K r) a w := by
  unfold aopG at hK
  have hdb := (cond_some hK).1
  replace hK := (cond_some hK).2
  have hd : ∀ d, o.dst = some d → d < nt ∧ O.np ≤ d := by
    intro d hd
    rw [hd] at hdb
    simp only [Bool.and_eq_true] at hdb
    rw [hn, hnp]
    exact ⟨Nat.le_of_ble_eq_true hdb.1, Nat.le_of_ble_eq_true hdb.2⟩
  have skip : ∀ {st1 : St}, Rel nt w0 O μ S st1 a w → K (st1.put o.dst skipA) = some r → Next nt w0 O K r (a.put o.dst undef) w := by
    intro st1 h1 hop
    exact ⟨_, μ, S, hop, h1.put hd (v := skipA) (u := undef) ⟨#[], rfl, trivial⟩⟩
  unfold wpOp
  simp only [hi]
  split at hK
  · rename_i hg
    rw [if_pos (by simp [Region.wanted, hg])]
    exact .inl (aop_ok hT hH h hd hK)
  · rename_i j want hg
    split at hK
    · rename_i t op ty pos after g hoj
      have hoj' : (ops[j]?).bind (·.dst) = some t := by
        rw [← Array.getElem?_toList, hoj]; rfl
      split at hK
      · rename_i b hb
        have hbv := bool_of (S := S) (w := w) (μ := μ) (b := b) (v := a.tmps.getD t undef) (by have := h.env t; rw [hb] at this; exact this)
        have hy : yielded ops a.tmps j = some b := by
          simp [yielded, hoj', getD_some hbv (by cases b <;> simp [undef])]
        have hw : Region.wanted o (yielded ops a.tmps) = (b == want) := by
          simp only [Region.wanted, hg, hy]
          cases b <;> cases want <;> rfl
        rw [hw]
        have h1 : ∀ c, c = b → Rel nt w0 O μ S (st.put (some t) (bv c)) a w := fun c hc => by
          subst hc; exact h.known (by rw [hbv]; exact bool_rel c)
        cases b <;> cases want <;> simp only [cond_true, cond_false] at hK <;> simp
        · exact .inl (aop_ok hT hH (h1 false rfl) hd hK)
        · exact skip (h1 false rfl) hK
        · exact skip (h1 true rfl) hK
        · exact .inl (aop_ok hT hH (h1 true rfl) hd hK)
      · rename_i hb
        have hbv := skip_rel (μ := μ) (S := S) (w := w) (v := a.tmps.getD t undef) (by have := h.env t; rw [hb] at this; exact this)
        have hy : yielded ops a.tmps j = none := by
          simp only [yielded, hoj', Option.bind_some]
          rw [Array.getD_eq_getD_getElem?] at hbv
          cases ht : a.tmps[t]? with
          | none => rfl
          | some u => rw [ht] at hbv; simp at hbv; subst hbv; rfl
        have hw : Region.wanted o (yielded ops a.tmps) = false := by
          simp only [Region.wanted, hg, hy]
          cases want <;> rfl
        rw [hw]
        exact skip h hK
      · cases hK
    · cases hK

/-! ### Orders -/
def aopsO (cx : Ctx R) (all : List Oper) : List Nat → St → (St → Option R) → Option R
  | [], st, K => K st
  | i :: is, st, K => match all[i]? with
    | some o => aopG cx all o st fun st => aopsO cx all is st K
    | none => none
def allOrds (ops : Array Oper) : Nat → Array Bool → List (List Nat)
  | 0, _ => [[]]
  | n + 1, listed => match Region.ready .any ops listed with
    | [] => [[]]
    | r :: rs => (r :: rs).flatMap fun i => (allOrds ops n (listed.setIfInBounds i true)).map (i :: ·)
def ordsOf (ops : Array Oper) : List (List Nat) := allOrds ops ops.size (Array.replicate ops.size false)

theorem allOrds_mem {ops : Array Oper} : ∀ (n t : Nat) (listed : Array Bool), Region.linearise.go .any ops n t listed [] ∈ allOrds ops n listed
  | 0, t, listed => by simp [Region.linearise.go, allOrds]
  | n + 1, t, listed => by
    simp only [Region.linearise.go, allOrds]
    change (match (Region.ready .any ops listed)[t % (Region.ready .any ops listed).length]? with
      | some i => Region.linearise.go .any ops n (t / (Region.ready .any ops listed).length) (listed.setIfInBounds i true) [i]
      | none => [].reverse) ∈ _
    cases hr : Region.ready .any ops listed with
    | nil => simp
    | cons x xs =>
      have hlt : t % (x :: xs).length < (x :: xs).length := Nat.mod_lt _ (by simp)
      rw [List.getElem?_eq_getElem hlt]
      simp only []
      rw [linearise_go_acc]
      refine List.mem_flatMap.2 ⟨_, List.getElem_mem hlt, List.mem_map.2 ⟨_, allOrds_mem n (t / (x :: xs).length) _, ?_⟩⟩
      simp

theorem aopsO_ok {cx : Ctx R} (hT : TabOK P cx) (hn : nt = cx.nt) (hnp : O.np = cx.np) (hH : HandOK P nt cx) {ops : Array Oper} (hQ : ∀ a w, Next nt w0 O K r a w → Q .normal a w) :
    ∀ {σ : List Nat} {μ : Id → Option Value} {S : Nat → Prop} {st : St} {a : Act} {w : World}, Rel nt w0 O μ S st a w → aopsO cx ops.toList σ st K = some r → wpOps P ops Q σ a w
  | [], μ, S, st, a, w, h, hK => hQ a w ⟨st, μ, S, hK, h⟩
  | i :: σ, μ, S, st, a, w, h, hK => by
    unfold aopsO at hK
    split at hK
    · rename_i o ho
      rw [wpOps_cons]
      refine wpOp_mono ?_ (aopG_ok hT hn hnp hH (by rw [← Array.getElem?_toList]; exact ho) h hK)
      rintro a' w' ⟨st', μ', S', hK', hr'⟩
      exact aopsO_ok hT hn hnp hH hQ hr' hK'
    · cases hK

/-- all the orders of a region ahead -/
def arunD (pg : Prog R) (n : Nat) (todo : List Item) (st : St) : List (Option R) := match todo with
  | .code (.region _ ops true) :: k => (ordsOf ops).map fun σ => aopsO pg.toCtx ops.toList σ st fun st => arun pg n k st
  | _ => [none]

theorem arunD_ok {pg : Prog R} (hm : P.follows .mixedOrders = true) (hT : TabOK P pg.toCtx) (hH : HandOK P pg.nt pg.toCtx) {Post : Act → World → Prop} (hR : RunOK P w0 O pg r Post) {n m : Nat} {todo : List Item} (h : Rel pg.nt w0 O μ S st a w)
    (hK : arunD pg n todo st = List.replicate m (some r)) : Ends P todo a w Post := by
  unfold arunD at hK
  split at hK
  · rename_i id ops k
    intro b cs
    have hmem := allOrds_mem (ops := ops) ops.size (w.tape w.drawn (.order b.fn id)) (Array.replicate ops.size false)
    have hsched : Region.schedule (P.follows .mixedOrders) ops (w.tape w.drawn (.order b.fn id)) = Region.linearise.go .any ops ops.size (w.tape w.drawn (.order b.fn id)) (Array.replicate ops.size false) [] := by
      simp [Region.schedule, hm, Region.linearise]
    have hres : aopsO pg.toCtx ops.toList (Region.linearise.go .any ops ops.size (w.tape w.drawn (.order b.fn id)) (Array.replicate ops.size false) []) st (fun st => arun pg n k st) = some r := by
      have := List.mem_map_of_mem (f := fun σ => aopsO pg.toCtx ops.toList σ st fun st => arun pg n k st) hmem
      rw [show List.map (fun σ => aopsO pg.toCtx ops.toList σ st fun st => arun pg n k st) (allOrds ops ops.size (Array.replicate ops.size false)) = List.replicate m (some r) from hK] at this
      exact (List.mem_replicate.1 this).2
    have hops := aopsO_ok (Q := fun e a w => e = .normal ∧ Next pg.nt w0 O (fun st => arun pg n k st) r a w) hT rfl hR.np hH (fun a w hn => ⟨rfl, hn⟩) h.drew hres
    obtain ⟨e, a', w', ⟨rfl, st', μ', S', hK', h'⟩, harr⟩ := wp_ops _ _ _ hops b k cs
    obtain ⟨a2, w2, t2, hp, hs⟩ := arun_ok hT hH hR n k _ _ _ _ _ h' hK' b cs
    refine ⟨a2, w2, t2, hp, .head step_region_draw ?_⟩
    rw [hsched]
    exact Steps.trans harr hs
  · cases m with
    | zero => simp at hK
    | succ m => simp [List.replicate_succ] at hK

theorem good_draw {f : FuncId} {pg : Prog R} {l : List (Nat × (List Item → St → Option R))} (hm : P.follows .mixedOrders = true) (hp : Parts P f pg l) {Post : Act → World → Prop} (hR : RunOK P w0 O pg r Post) {n m : Nat} {T : List Item} {p : Tpl} {F : p.T → Option R}
    (seg : ∀ x, arunD pg n T (mk p x) = List.replicate m (F x)) : Good P pg.nt w0 O Post r T p F :=
  fun x μ S a w hF h => arunD_ok hm hp.tab hp.hand hR h (by rw [seg, hF])

/-- a callee at certain places -/
def handAt {R : Type} (f : FuncId) (dns : List Nat) (brw : Bool) (s : Summ) (rest : Hand R) : Hand R := fun g dn args st K => bif Nat.beq g f && hasId dns dn then callSum brw s dn args st K else rest g dn args st K
theorem handAt_ok {f : FuncId} {dns : List Nat} {brw : Bool} {s : Summ} {rest : Hand R} (hc : Con P f s.k s.nr s.np s.pin s.pout s.impl) (hr : HandF P nt rest) : HandF P nt (handAt f dns brw s rest) := by
  intro w0 O μ S st a w g dn args vals K r h ha hK
  unfold handAt at hK
  cases hb : (Nat.beq g f && hasId dns dn) with
  | true =>
    rw [hb] at hK
    simp only [Bool.and_eq_true] at hb
    have := Nat.eq_of_beq_eq_true hb.1
    subst this
    exact .inr (callSum_ok hc h ha hK)
  | false =>
    rw [hb] at hK
    exact hr w0 O μ S st a w g dn args vals K r h ha hK

theorem good_none {Post : Act → World → Prop} {T : List Item} {p : Tpl} : Good P nt w0 O Post r T p (fun _ => none) := fun x μ S a w h => by cases h

theorem con_of_run' {f : FuncId} {fn : Func} {c : Code} {k np : Nat} {rs : List ResultVar} {tab : Tab} {pin pout : Tpl} {impl : pin.T → Option pout.T} (ht : tabB P tab = true)
    (hf : P.funcs[f]? = some fn) (hname : (fn.name == "runtime.NumGoroutine") = false) (hb : fn.body = some c) (hnt : fn.ntmps = nt)
    (hr : fn.results = rs.toArray) (hl : Nat.ble rs.length 4 = true) (hk : Nat.ble k nt = true) (hnp : Nat.ble np k = true)
    (hrun : ∀ (w0 : World) (O : Own) (y : pout.T), O.np = np → Good P nt w0 O (fun a' w' => ∃ μ' S' st', Rel nt w0 O μ' S' st' a' w' ∧ endOf (tabOf tab) rs np pout st' = some y) y [.code c] pin impl) : Con P f k rs.length np pin pout impl := by
  subst hnt
  exact con_of_run (tb := tabOf tab) (fun t ti h => tiB_ok (tabB_mem ht _ (tabOf_mem h)).1) hf hname hb hr (Nat.le_of_ble_eq_true hl) (Nat.le_of_ble_eq_true hk) (Nat.le_of_ble_eq_true hnp)
    fun w0 O x y μ S a w hO hx h => hrun w0 O y hO x μ S a w hx h
end
end Go.Proofs.YtjjepjfjikefiaaB
