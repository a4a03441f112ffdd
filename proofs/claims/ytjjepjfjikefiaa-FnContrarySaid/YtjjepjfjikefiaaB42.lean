/- The core, part 42: the orders that matter where a map is filled. -/
import Derived.Test.YtjjepjfjikefiaaB41
set_option linter.unusedVariables false
namespace Go.Proofs.YtjjepjfjikefiaaB
open Go

section
variable {R : Type} {P : Program} {nt : Nat} {w0 w1 : World} {O : Own} {μ μ1 : Id → Option Value} {S : Nat → Prop} {st : St} {a : Act} {w : World} {o : Oper} {K : St → Option R} {r : R} {Q : Exit → Act → World → Prop}

def ordsG (tb : Nat → Option TI) (ops : Array Oper) (nq : List Nat) : Nat → Bool → Array Bool → List (List (Nat × Bool))
  | 0, _, listed => match Region.ready .any ops listed with
    | [] => [[]]
    | _ => [[(ops.size, false)]]
  | n + 1, ph, listed => match bif ph then firstQ tb ops nq listed else firstPure tb ops listed with
    | some i => (ordsG tb ops nq n ph (listed.setIfInBounds i true)).map ((i, match ops[i]? with | some o => !pureOp tb o | none => false) :: ·)
    | none => match Region.ready .any ops listed with
      | [] => [[]]
      | rs => bif grpOK ops listed rs then (ordsG tb ops nq n false (setAll listed rs)).map (rs.map (fun i => (i, false)) ++ ·)
        else rs.flatMap fun i => (ordsG tb ops nq n false (listed.setIfInBounds i true)).map ((i, false) :: ·)
theorem ordsG_ne (tb : Nat → Option TI) (ops : Array Oper) (nq : List Nat) : ∀ (n : Nat) (ph : Bool) (listed : Array Bool), ∃ σ, σ ∈ ordsG tb ops nq n ph listed
  | 0, ph, listed => by unfold ordsG; split <;> simp
  | n + 1, ph, listed => by
    unfold ordsG
    split
    · rename_i i _
      obtain ⟨σ, h⟩ := ordsG_ne tb ops nq n ph (listed.setIfInBounds i true)
      exact ⟨_, List.mem_map.2 ⟨σ, h, rfl⟩⟩
    · split
      · simp
      · rename_i rs hne
        cases hg : grpOK ops listed (Region.ready .any ops listed) with
        | true =>
          obtain ⟨σ, h⟩ := ordsG_ne tb ops nq n false (setAll listed (Region.ready .any ops listed))
          exact ⟨_, List.mem_map.2 ⟨σ, h, rfl⟩⟩
        | false =>
          cases hrs : Region.ready .any ops listed with
          | nil => exact absurd hrs hne
          | cons i is =>
            obtain ⟨σ, h⟩ := ordsG_ne tb ops nq n false (listed.setIfInBounds i true)
            exact ⟨_, List.mem_flatMap.2 ⟨i, by simp, List.mem_map.2 ⟨σ, h, rfl⟩⟩⟩

theorem group_hyp {cx : Ctx R} {cs : Ctx St} {cv' : Hand (AV × St)} {q : FuncId → Bool} {D : List Id} (htb : cs.tb = cx.tb) (hnt : cs.nt = cx.nt) (hnp : cs.np = cx.np) (h1 : HandNat cx.hd cv') (h2 : HandNat cs.hd cv') {ops : Array Oper}
    {l : List (List (Nat × Bool))} (hne : ∃ σ, σ ∈ l) : ∀ (rs : List Nat) (st : St), (∀ j ∈ rs, ∃ o, ops[j]? = some o) → (∀ σ ∈ l, aopsQ cx q D ops.toList (rs.map (fun i => (i, false)) ++ σ) st K = some r) →
    (∀ j tl o, rs = j :: tl → ops[j]? = some o → quietAt cx.tb q D ops.toList o st = true) ∧ ∃ s, runG cs ops.toList rs st = some s ∧ ∀ σ ∈ l, aopsQ cx q D ops.toList σ s K = some r
  | [], st, _, h => ⟨fun _ _ _ e => (by cases e), st, rfl, h⟩
  | j :: rs, st, hin, h => by
    obtain ⟨o, ho⟩ := hin j (by simp)
    have hne' : ∃ σ, σ ∈ l.map (rs.map (fun i => (i, false)) ++ ·) := by
      obtain ⟨σ, hσ⟩ := hne
      exact ⟨_, List.mem_map.2 ⟨σ, hσ, rfl⟩⟩
    obtain ⟨hq, _, s1, hs1, hrest⟩ := ordsQ_step (b := false) htb hnt hnp h1 h2 ho hne' (fun σ hσ => by
      obtain ⟨σ', hσ', rfl⟩ := List.mem_map.1 hσ
      exact h σ' hσ')
    obtain ⟨_, s, hs, hall⟩ := group_hyp htb hnt hnp h1 h2 hne rs s1 (fun i hi => hin i (by simp [hi])) (fun σ hσ => hrest _ (List.mem_map.2 ⟨σ, hσ, rfl⟩))
    refine ⟨fun j' tl o' e ho' => ?_, s, ?_, hall⟩
    · simp only [List.cons.injEq] at e
      obtain ⟨rfl, rfl⟩ := e
      rw [ho] at ho'
      obtain rfl := Option.some.inj ho'
      exact hq
    · unfold runG
      rw [show ops.toList[j]? = some o by rw [Array.getElem?_toList]; exact ho]
      simp only [hs1, Option.bind_some]
      exact hs

theorem Rel.sameMap {kt vt : Ty} {id : Id} {e e' : List (kt.den × vt.den)} (h : Rel nt w0 O μ S { st with heap := upd st.heap id (some (.map kt vt e)) } a w) (hs : SameMap kt vt e e') : Rel nt w0 O μ S { st with heap := upd st.heap id (some (.map kt vt e')) } a w := by
  refine ⟨h.env, h.size, h.defers, fun i hi => ?_, fun i b hb => ?_, h.sep, h.imm, h.own, h.os, h.tape, h.output, h.grow, h.frame, h.sfrom, h.pars, fun i v hk => ?_, h.tabs, h.tq⟩
  · by_cases e1 : i = id
    · subst e1; simp only [upd_same] at hi; cases hi
    · refine h.dom i ?_
      simp only [upd_other _ _ _ _ e1] at hi ⊢
      exact hi
  · by_cases e1 : i = id
    · subst e1
      simp only [upd_same, Option.some.injEq] at hb
      subst hb
      obtain ⟨hv, hm, rr, en, cl, g1, g2, es', g3, g4⟩ := h.blks i (.map kt vt e) (upd_same _ _ _)
      exact ⟨hv, hm, rr, en, cl, g1, g2, es', g3.trans hs, g4⟩
    · refine h.blks i b ?_
      simp only [upd_other _ _ _ _ e1] at hb ⊢
      exact hb
  · obtain ⟨k1, k2, k3⟩ := h.kept i v hk
    refine ⟨k1, k2, ?_⟩
    by_cases e1 : i = id
    · subst e1
      rcases k3 with k3 | k3
      · simp only [upd_same] at k3; cases k3
      · exact .inr k3
    · simp only [upd_other _ _ _ _ e1] at k3 ⊢
      exact k3

/-- in whatever order the rest of a group comes up -/
theorem group_ok {cs : Ctx St} (hT : TabOK P cs) (hn : nt = cs.nt) (hnp : O.np = cs.np) {q : FuncId → Bool} (hD : HandD P nt q cs.hd) {ops : Array Oper} {D : List Id} {listed : Array Bool} {rs : List Nat} (hrs : Region.ready .any ops listed = rs)
    (hclose : ∀ g ∈ rs, Region.ready .any ops (setAll listed (rs.filter fun j => !Nat.beq j g)) = [g]) {x : Nat} {kt vt : Ty} {desc : TypeDesc} (hk : KeyDesc kt desc) {id : Id} (hx : st.env x = cv (.map id)) (hid : hasId D id = true) {em : List (kt.den × vt.den)}
    (cont : ∀ (n : Nat) (μ : Id → Option Value) (S : Nat → Prop) (a : Act) (w : World), cnt (setAll listed rs) ≤ n → Rel nt w0 O μ S { st with heap := upd st.heap id (some (.map kt vt em)) } a w → SubF w1 μ μ1 → Still μ1 D w1 w → wpAnyH P .any ops Q (Still μ1 D w1) n (setAll listed rs) a w) :
    ∀ (m : Nat) (R' D' : List Nat) (ps e : List (kt.den × vt.den)) (n : Nat) {μ : Id → Option Value} {S : Nat → Prop} {a : Act} {w : World}, R'.length = m → All2 (Eff cs.tb ops.toList x kt vt) R' ps → (ps.Pairwise fun p q => p.1 ≠ q.1) → SameMap kt vt (putAll kt vt e ps) em →
      (∀ j, j ∈ rs ↔ j ∈ D' ∨ j ∈ R') → (∀ j ∈ R', j ∉ D') → R'.Nodup → Rel nt w0 O μ S { st with heap := upd st.heap id (some (.map kt vt e)) } a w → SubF w1 μ μ1 → Still μ1 D w1 w → cnt (setAll listed D') ≤ n →
      wpAnyH P .any ops Q (Still μ1 D w1) n (setAll listed D') a w := by
  intro m
  induction m with
  | zero =>
    intro R' D' ps e n μ S a w hm hall hpw hsame hmem hdis hnd h hsub hSW hc
    have : R' = [] := List.length_eq_zero_iff.1 hm
    subst this
    cases ps with
    | cons _ _ => exact hall.elim
    | nil =>
      have hDD : setAll listed D' = setAll listed rs := setAll_congr fun j => by simp [hmem j]
      rw [hDD] at hc ⊢
      exact cont n μ S a w hc (h.sameMap hsame) hsub hSW
  | succ m ih =>
    intro R' D' ps e n μ S a w hm hall hpw hsame hmem hdis hnd h hsub hSW hc
    obtain ⟨g, tl, hR⟩ : ∃ g tl, R' = g :: tl := by
      cases R' with
      | nil => simp at hm
      | cons g tl => exact ⟨g, tl, rfl⟩
    have hgR : g ∈ R' := by rw [hR]; simp
    have hgrs : g ∈ rs := (hmem g).2 (.inr hgR)
    have mono : ∀ {i : Nat}, listed[i]? = some true → ∀ D'' : List Nat, (setAll listed D'')[i]? = some true := by
      intro i hi D''
      rw [setAll_get, hi]
      split <;> rfl
    have hgready : g ∈ Region.ready .any ops (setAll listed D') := by
      have h0 : g ∈ Region.ready .any ops listed := by rw [hrs]; exact hgrs
      obtain ⟨h1, og, h2, h3⟩ := memR.1 h0
      exact memR.2 ⟨by rw [setAll_get, if_neg (hdis g hgR)]; exact h1, og, h2, fun ed he hb => mono (h3 ed he hb) D'⟩
    have hready : ∀ j ∈ Region.ready .any ops (setAll listed D'), j ∈ R' := by
      intro j hj
      apply Classical.byContradiction
      intro hjR
      obtain ⟨h1, oj, h2, h3⟩ := memR.1 hj
      have hjD : j ∉ D' := by
        intro hjD
        rw [setAll_get, if_pos hjD] at h1
        cases hl : listed[j]? with
        | none => rw [hl] at h1; cases h1
        | some b => rw [hl] at h1; simp at h1
      rw [setAll_get, if_neg hjD] at h1
      have hjrs : j ∉ rs := fun hj => ((hmem j).1 hj).elim hjD hjR
      have : j ∈ Region.ready .any ops (setAll listed (rs.filter fun i => !Nat.beq i g)) := by
        refine memR.2 ⟨by rw [setAll_get, if_neg (fun hf => hjrs (List.mem_filter.1 hf).1)]; exact h1, oj, h2, fun ed he hb => ?_⟩
        have h4 := h3 ed he hb
        rw [setAll_get] at h4
        by_cases hed : ed.on ∈ D'
        · rw [if_pos hed] at h4
          have hne : ed.on ≠ g := fun e => hdis g hgR (e ▸ hed)
          have hin : ed.on ∈ rs.filter fun i => !Nat.beq i g := List.mem_filter.2 ⟨(hmem _).2 (.inl hed), by
            cases hb' : Nat.beq ed.on g with
            | false => rfl
            | true => exact absurd (Nat.eq_of_beq_eq_true hb') hne⟩
          rw [setAll_get, if_pos hin]
          exact h4
        · rw [if_neg hed] at h4
          exact mono h4 _
      rw [hclose g hgrs, List.mem_singleton] at this
      subst this
      exact hjR hgR
    have hpos : 1 ≤ cnt (setAll listed D') := by
      have := cnt_set (memR.1 hgready).1
      omega
    obtain ⟨n, rfl⟩ : ∃ n', n = n' + 1 := ⟨n - 1, by omega⟩
    refine ⟨fun h0 => (by rw [h0] at hgready; cases hgready), fun j hj => ?_⟩
    have hjun := (memR.1 hj).1
    obtain ⟨l1, l2, hsplit⟩ := List.append_of_mem (hready j hj)
    subst hsplit
    obtain ⟨q1, qj, q2, rfl, hE1, hEj, hE2⟩ := hall.split
    obtain ⟨oj, hoj, hrun, hquiet⟩ := eff_run (cs := cs) (st := { st with heap := upd st.heap id (some (.map kt vt e)) }) hEj hx (upd_same _ _ _)
    have hoj' : ops[j]? = some oj := by rw [← Array.getElem?_toList]; exact hoj
    refine wpOp_mono ?_ (quiet_step (Q := Q) hT hn hnp hD hoj' (hquiet q D hid) h hsub hSW hrun)
    rintro a' w' ⟨hS', μ', S', hsub', hr'⟩
    refine ⟨hS', ?_⟩
    rw [← setAll_snoc]
    have hpa := List.pairwise_append.1 hpw
    have hpc := List.pairwise_cons.1 hpa.2.1
    rw [List.nodup_append] at hnd
    have hndc := List.nodup_cons.1 hnd.2.1
    refine ih (l1 ++ l2) (D' ++ [j]) (q1 ++ q2) (mapPut kt vt e qj.1 qj.2) n (S := S') (by simp only [List.length_append, List.length_cons] at hm ⊢; omega) (hE1.append hE2) ?_ ?_ ?_ ?_ ?_ ?_ hsub' hS' ?_
    · exact List.pairwise_append.2 ⟨hpa.1, hpc.2, fun p hp p' hp' => hpa.2.2 p hp p' (by simp [hp'])⟩
    · exact (putAll_take hk qj q1 q2 e fun p hp => hpa.2.2 p hp qj (by simp)).trans hsame
    · intro i
      rw [hmem i]
      simp only [List.mem_append, List.mem_cons, List.not_mem_nil, or_false]
      constructor
      · rintro (h1 | h1 | h1 | h1)
        · exact .inl (.inl h1)
        · exact .inr (.inl h1)
        · exact .inl (.inr h1)
        · exact .inr (.inr h1)
      · rintro ((h1 | h1) | h1 | h1)
        · exact .inl h1
        · exact .inr (.inr (.inl h1))
        · exact .inr (.inl h1)
        · exact .inr (.inr (.inr h1))
    · intro i hi hiD
      rcases List.mem_append.1 hiD with hiD | hiD
      · refine hdis i ?_ hiD
        simp only [List.mem_append, List.mem_cons] at hi ⊢
        rcases hi with hi | hi
        · exact .inl hi
        · exact .inr (.inr hi)
      · rw [List.mem_singleton] at hiD
        subst hiD
        rcases List.mem_append.1 hi with hi | hi
        · exact hnd.2.2 i hi i (by simp) rfl
        · exact hndc.1 hi
    · exact List.nodup_append.2 ⟨hnd.1, hndc.2, fun p hp p' hp' => hnd.2.2 p hp p' (by simp [hp'])⟩
    · have hh : (upd (upd st.heap id (some (.map kt vt e))) id (some (.map kt vt (mapPut kt vt e qj.1 qj.2)))) = upd st.heap id (some (.map kt vt (mapPut kt vt e qj.1 qj.2))) := upd_upd _ _ _ _
      simp only [hh] at hr'
      exact hr'
    · rw [setAll_snoc]
      have := cnt_set hjun
      omega

/-- a group as a whole -/
theorem group_all {cx : Ctx R} {cs : Ctx St} {cv' : Hand (AV × St)} (hT : TabOK P cs) (hn : nt = cs.nt) (hnp0 : O.np = cs.np) {q : FuncId → Bool} (hD : HandD P nt q cs.hd) (htb : cs.tb = cx.tb) (hnt : cs.nt = cx.nt) (hnp : cs.np = cx.np) (h1 : HandNat cx.hd cv') (h2 : HandNat cs.hd cv')
    {ops : Array Oper} {D : List Id} {listed : Array Bool} {l : List (List (Nat × Bool))} (hne : ∃ σ, σ ∈ l) (hg : grpOK ops listed (Region.ready .any ops listed) = true)
    (hall : ∀ σ ∈ l, aopsQ cx q D ops.toList ((Region.ready .any ops listed).map (fun i => (i, false)) ++ σ) st K = some r) (h : Rel nt w0 O μ S st a w) (hsub : SubF w1 μ μ1) (hSW : Still μ1 D w1 w)
    (cont : ∀ (s : St) (n : Nat) (μ : Id → Option Value) (S : Nat → Prop) (a : Act) (w : World), (∀ σ ∈ l, aopsQ cx q D ops.toList σ s K = some r) → cnt (setAll listed (Region.ready .any ops listed)) ≤ n → Rel nt w0 O μ S s a w → SubF w1 μ μ1 → Still μ1 D w1 w → wpAnyH P .any ops Q (Still μ1 D w1) n (setAll listed (Region.ready .any ops listed)) a w)
    {n : Nat} (hc : cnt listed ≤ n) : wpAnyH P .any ops Q (Still μ1 D w1) n listed a w := by
  obtain ⟨hrne, x, hins, hdist, hclose⟩ := grp_spec hg
  obtain ⟨hq, s, hs, hrest⟩ := group_hyp (cs := cs) htb hnt hnp h1 h2 hne (Region.ready .any ops listed) st (fun j hj => by
    obtain ⟨o, t, k, m, k', m', ho, _⟩ := hins j hj
    exact ⟨o, by rw [← Array.getElem?_toList]; exact ho⟩) hall
  have hnd : (Region.ready .any ops listed).Nodup := by
    unfold Region.ready
    exact (List.nodup_range).filter _
  generalize hrs : Region.ready .any ops listed = rs at *
  obtain ⟨g, tl, rfl⟩ : ∃ g tl, rs = g :: tl := by
    cases rs with
    | nil => exact absurd rfl hrne
    | cons g tl => exact ⟨g, tl, rfl⟩
  obtain ⟨o, t, k, m, k', m', ho, hi⟩ := hins g (by simp)
  have hs' := hs
  unfold runG at hs'
  rw [ho] at hs'
  obtain ⟨s1, hs1, _⟩ := Option.bind_eq_some_iff.1 hs'
  obtain ⟨id, kt, vt, e, p, hx, hid, hE, _⟩ := eff_of ho hi hs1
  obtain ⟨ps, hps, rfl⟩ := runG_eff (g :: tl) st s e hins hx hid hs
  have hkd : ∃ desc, KeyDesc kt desc := by
    obtain ⟨kk, rfl, _⟩ := eff_key hE
    exact ⟨_, rfl⟩
  obtain ⟨desc, hk⟩ := hkd
  have hDid : hasId D id = true := by
    have hqa := hq g tl o rfl (by rw [← Array.getElem?_toList]; exact ho)
    obtain ⟨e1, e2, e3⟩ := insOf_eq hi
    unfold quietAt quiet0 skipG pureOp at hqa
    simp only [e1, e2, show ev st (.tmp x) = some (st.env x) from rfl, hx] at hqa
    simpa [cv] using hqa
  have hst : ({ st with heap := upd st.heap id (some (.map kt vt e)) } : St) = st := by rw [upd_eta _ _ _ hid]
  have := group_ok (P := P) (Q := Q) (w1 := w1) (μ1 := μ1) (w0 := w0) (O := O) hT hn hnp0 hD (ops := ops) (D := D) (listed := listed) hrs hclose hk hx hDid (em := putAll kt vt e ps)
    (fun n μ S a w hc hr hsub hSW => cont _ n μ S a w hrest hc hr hsub hSW) (g :: tl).length (g :: tl) [] ps e n rfl hps (pairs_distinct hps hdist) SameMap.same (fun j => by simp) (fun j _ hj => by cases hj) hnd (by rw [hst]; exact h) hsub hSW hc
  exact this

theorem quietG_ok2 {cx : Ctx R} {cs : Ctx St} {cv' : Hand (AV × St)} (hT : TabOK P cs) (hn : nt = cs.nt) (hnp0 : O.np = cs.np) {q : FuncId → Bool} (hD : HandD P nt q cs.hd) (htb : cs.tb = cx.tb) (hnt : cs.nt = cx.nt) (hnp : cs.np = cx.np) (h1 : HandNat cx.hd cv') (h2 : HandNat cs.hd cv')
    {ops : Array Oper} (hsel : Region.noSelect ops = true) (hQ : ∀ a w, Next nt w0 O K r a w → Q .normal a w) (hQp : ∀ c a w, ¬ Q (.panic c) a w) {D : List Id} {nq : List Nat} :
    ∀ (m : Nat) (listed : Array Bool) (n : Nat) {μ : Id → Option Value} {S : Nat → Prop} {st : St} {a : Act} {w : World}, cnt listed ≤ n → Rel nt w0 O μ S st a w → SubF w1 μ μ1 → Still μ1 D w1 w → (∀ σ ∈ ordsG cs.tb ops nq m false listed, aopsQ cx q D ops.toList σ st K = some r) → wpAnyH P .any ops Q (Still μ1 D w1) n listed a w
  | 0, listed, n, μ, S, st, a, w, hc, h, hsub, hSW, hall => by
    unfold ordsG at hall
    split at hall
    · rename_i hr
      exact wpAnyH_done hr (hQ a w ⟨st, μ, S, by simpa [aopsQ] using hall [] (by simp), h⟩) n
    · have := hall [(ops.size, false)] (by simp)
      simp [aopsQ] at this
  | m + 1, listed, n, μ, S, st, a, w, hc, h, hsub, hSW, hall => by
    unfold ordsG at hall
    simp only [cond_false] at hall
    split at hall
    · rename_i i hfp
      have hmem := List.mem_of_find?_eq_some hfp
      have hun := (memR.1 hmem).1
      have hcs := cnt_set hun
      obtain ⟨n, rfl⟩ : ∃ n', n = n' + 1 := ⟨n - 1, by omega⟩
      have hpr := List.find?_some hfp
      simp only [Bool.and_eq_true] at hpr
      cases hoi : ops[i]? with
      | none => rw [hoi] at hpr; cases hpr.1
      | some oi =>
        rw [hoi] at hpr hall
        obtain ⟨_, _, s, hs, hrest⟩ := ordsQ_step htb hnt hnp h1 h2 hoi (l := ordsG cs.tb ops nq m false (listed.setIfInBounds i true)) (ordsG_ne cs.tb ops nq m false _) (fun σ hσ => hall _ (List.mem_map.2 ⟨σ, hσ, rfl⟩))
        obtain ⟨u, hy, h'⟩ := pure_yields hT hn hnp0 hpr.1 h hs
        exact wpAnyH_take hoi hsel hpr.2 (by simpa using hmem) (fun c a w hq => absurd hq (hQp _ _ _)) hy.yieldsIf hSW (quietG_ok2 hT hn hnp0 hD htb hnt hnp h1 h2 hsel hQ hQp m _ n (by omega) h' hsub hSW hrest)
    · split at hall
      · rename_i hr
        exact wpAnyH_done hr (hQ a w ⟨st, μ, S, by simpa [aopsQ] using hall [] (by simp), h⟩) n
      · rename_i rs hne
        cases hg : grpOK ops listed (Region.ready .any ops listed) with
        | true =>
          rw [hg] at hall
          simp only [cond_true] at hall
          exact group_all hT hn hnp0 hD htb hnt hnp h1 h2 (ordsG_ne cs.tb ops nq m false _) hg (fun σ hσ => hall _ (List.mem_map.2 ⟨σ, hσ, rfl⟩)) h hsub hSW
            (fun s n μ S a w hrest hc hr hsub hSW => quietG_ok2 hT hn hnp0 hD htb hnt hnp h1 h2 hsel hQ hQp m _ n hc hr hsub hSW hrest) hc
        | false =>
          rw [hg] at hall
          simp only [cond_false] at hall
          obtain ⟨n, rfl⟩ : ∃ n', n = n' + 1 := by
            cases hrs : Region.ready .any ops listed with
            | nil => exact absurd hrs hne
            | cons i is =>
              have := cnt_set (memR.1 (show i ∈ Region.ready .any ops listed by rw [hrs]; simp)).1
              exact ⟨n - 1, by omega⟩
          refine wpAnyH_all rfl hne fun i hi => ?_
          have hlt : i < ops.size := by simpa using (List.mem_filter.1 hi).1
          have hoi : ops[i]? = some ops[i] := Array.getElem?_eq_getElem hlt
          have hcs := cnt_set (memR.1 hi).1
          obtain ⟨hq, _, s, hs, hrest⟩ := ordsQ_step htb hnt hnp h1 h2 hoi (l := ordsG cs.tb ops nq m false (listed.setIfInBounds i true)) (ordsG_ne cs.tb ops nq m false _) (fun σ hσ => hall _ (List.mem_flatMap.2 ⟨i, hi, List.mem_map.2 ⟨σ, hσ, rfl⟩⟩))
          rw [← htb] at hq
          refine wpOp_mono ?_ (quiet_step (Q := Q) hT hn hnp0 hD hoi hq h hsub hSW hs)
          rintro a' w' ⟨hS', μ', S', hsub', hr'⟩
          exact ⟨hS', quietG_ok2 hT hn hnp0 hD htb hnt hnp h1 h2 hsel hQ hQp m _ n (by omega) hr' hsub' hS' hrest⟩

theorem quietG_ok1 {cx : Ctx R} {cs : Ctx St} {cv' : Hand (AV × St)} (hT : TabOK P cs) (hn : nt = cs.nt) (hnp0 : O.np = cs.np) {q : FuncId → Bool} (hD : HandD P nt q cs.hd) (htb : cs.tb = cx.tb) (hnt : cs.nt = cx.nt) (hnp : cs.np = cx.np) (h1 : HandNat cx.hd cv') (h2 : HandNat cs.hd cv')
    {ops : Array Oper} (hsel : Region.noSelect ops = true) (hQ : ∀ a w, Next nt w0 O K r a w → Q .normal a w) (hQp : ∀ c a w, ¬ Q (.panic c) a w) {D : List Id} {nq : List Nat} {S1 : Nat → Prop} :
    ∀ (m : Nat) (listed : Array Bool) (n : Nat) {st : St} {a : Act}, cnt listed ≤ n → Rel nt w0 O μ1 S1 st a w1 → (∀ σ ∈ ordsG cs.tb ops nq m true listed, aopsQ cx q D ops.toList σ st K = some r) → wpAnyH P .any ops Q (Still μ1 D w1) n listed a w1
  | 0, listed, n, st, a, hc, h, hall => by
    unfold ordsG at hall
    split at hall
    · rename_i hr
      exact wpAnyH_done hr (hQ a w1 ⟨st, μ1, S1, by simpa [aopsQ] using hall [] (by simp), h⟩) n
    · have := hall [(ops.size, false)] (by simp)
      simp [aopsQ] at this
  | m + 1, listed, n, st, a, hc, h, hall => by
    have hSW : Still μ1 D w1 w1 := ⟨Nat.le_refl _, fun _ _ _ => rfl⟩
    have hsub : SubF w1 μ1 μ1 := fun _ _ h => .inl h
    unfold ordsG at hall
    simp only [cond_true] at hall
    split at hall
    · rename_i i hfp
      have hmem := List.mem_of_find?_eq_some hfp
      have hcs := cnt_set (memR.1 hmem).1
      obtain ⟨n, rfl⟩ : ∃ n', n = n' + 1 := ⟨n - 1, by omega⟩
      have hpr := List.find?_some hfp
      simp only [Bool.and_eq_true] at hpr
      cases hoi : ops[i]? with
      | none => rw [hoi] at hpr; cases hpr.1
      | some oi =>
        rw [hoi] at hpr hall
        obtain ⟨hq, hb, s, hs, hrest⟩ := ordsQ_step htb hnt hnp h1 h2 hoi (l := ordsG cs.tb ops nq m true (listed.setIfInBounds i true)) (ordsG_ne cs.tb ops nq m true _) (fun σ hσ => hall _ (List.mem_map.2 ⟨σ, hσ, rfl⟩))
        cases hp : pureOp cs.tb oi with
        | true =>
          obtain ⟨u, hy, h'⟩ := pure_yields hT hn hnp0 hp h hs
          exact wpAnyH_take hoi hsel hpr.2 (by simpa using hmem) (fun c a w hq => absurd hq (hQp _ _ _)) hy.yieldsIf hSW (quietG_ok1 hT hn hnp0 hD htb hnt hnp h1 h2 hsel hQ hQp m _ n (by omega) h' hrest)
        | false =>
          have hl := hb (by show (!pureOp cs.tb oi) = true; rw [hp]; rfl)
          obtain ⟨u, hy, h'⟩ := loadFirst_ok hT hn hnp0 hl h hs
          exact wpAnyH_take hoi hsel hpr.2 (by simpa using hmem) (fun c a w hq => absurd hq (hQp _ _ _)) hy hSW (quietG_ok1 hT hn hnp0 hD htb hnt hnp h1 h2 hsel hQ hQp m _ n (by omega) h' hrest)
    · split at hall
      · rename_i hr
        exact wpAnyH_done hr (hQ a w1 ⟨st, μ1, S1, by simpa [aopsQ] using hall [] (by simp), h⟩) n
      · rename_i rs hne
        cases hg : grpOK ops listed (Region.ready .any ops listed) with
        | true =>
          rw [hg] at hall
          simp only [cond_true] at hall
          exact group_all hT hn hnp0 hD htb hnt hnp h1 h2 (ordsG_ne cs.tb ops nq m false _) hg (fun σ hσ => hall _ (List.mem_map.2 ⟨σ, hσ, rfl⟩)) h hsub hSW
            (fun s n μ S a w hrest hc hr hsub hSW => quietG_ok2 hT hn hnp0 hD htb hnt hnp h1 h2 hsel hQ hQp m _ n hc hr hsub hSW hrest) hc
        | false =>
          rw [hg] at hall
          simp only [cond_false] at hall
          obtain ⟨n, rfl⟩ : ∃ n', n = n' + 1 := by
            cases hrs : Region.ready .any ops listed with
            | nil => exact absurd hrs hne
            | cons i is =>
              have := cnt_set (memR.1 (show i ∈ Region.ready .any ops listed by rw [hrs]; simp)).1
              exact ⟨n - 1, by omega⟩
          refine wpAnyH_all rfl hne fun i hi => ?_
          have hlt : i < ops.size := by simpa using (List.mem_filter.1 hi).1
          have hoi : ops[i]? = some ops[i] := Array.getElem?_eq_getElem hlt
          have hcs := cnt_set (memR.1 hi).1
          obtain ⟨hq, _, s, hs, hrest⟩ := ordsQ_step htb hnt hnp h1 h2 hoi (l := ordsG cs.tb ops nq m false (listed.setIfInBounds i true)) (ordsG_ne cs.tb ops nq m false _) (fun σ hσ => hall _ (List.mem_flatMap.2 ⟨i, hi, List.mem_map.2 ⟨σ, hσ, rfl⟩⟩))
          rw [← htb] at hq
          refine wpOp_mono ?_ (quiet_step (Q := Q) hT hn hnp0 hD hoi hq h hsub hSW hs)
          rintro a' w' ⟨hS', μ', S', hsub', hr'⟩
          exact ⟨hS', quietG_ok2 hT hn hnp0 hD htb hnt hnp h1 h2 hsel hQ hQp m _ n (by omega) hr' hsub' hS' hrest⟩

/-- the orders that matter of such a region ahead -/
def arunG (pg : Prog R) (q : FuncId → Bool) (D : List Id) (nq : List Nat) (n : Nat) (todo : List Item) (st : St) : List (Option R) := match todo with
  | .code (.region _ ops true) :: k => bif Region.noSelect ops then (ordsG pg.tb ops nq ops.size true (Array.replicate ops.size false)).map fun σ => aopsQ pg.toCtx q D ops.toList σ st fun st => arun pg n k st else [none]
  | _ => [none]

theorem arunG_ok {pg : Prog R} {cv' : Hand (AV × St)} {hs : Hand St} {q : FuncId → Bool} {D : List Id} {nq : List Nat} (hm : P.follows .mixedOrders = true) (hT : TabOK P pg.toCtx) (hH : HandOK P pg.nt pg.toCtx) (hHs : HandD P pg.nt q hs) (h1 : HandNat pg.hd cv') (h2 : HandNat hs cv')
    {Post : Act → World → Prop} (hR : RunOK P w0 O pg r Post) {n : Nat} {todo : List Item} (h : Rel pg.nt w0 O μ S st a w)
    (hK : ∀ q' ∈ arunG pg q D nq n todo st, q' = some r) : Ends P todo a w Post := by
  unfold arunG at hK
  split at hK
  · rename_i id ops k
    cases hsel : Region.noSelect ops with
    | false =>
      rw [hsel] at hK
      exact absurd (hK none (by simp)) (by simp)
    | true =>
      rw [hsel] at hK
      simp only [cond_true] at hK
      have hall : ∀ σ ∈ ordsG pg.tb ops nq ops.size true (Array.replicate ops.size false), aopsQ pg.toCtx q D ops.toList σ st (fun st => arun pg n k st) = some r := by
        intro σ hσ
        exact hK _ (List.mem_map_of_mem (f := fun σ => aopsQ pg.toCtx q D ops.toList σ st fun st => arun pg n k st) hσ)
      have hcnt : cnt (Array.replicate ops.size false) ≤ ops.size := by unfold cnt; simp
      have hany := quietG_ok1 (Q := fun e a w => e = .normal ∧ Next pg.nt w0 O (fun st => arun pg n k st) r a w) (cx := pg.toCtx) (cs := { nt := pg.nt, np := pg.np, tb := pg.tb, hd := hs }) (cv' := cv') ⟨hT.ti, hT.eq⟩ rfl hR.np hHs rfl rfl rfl h1 h2 hsel
        (fun a w hn => ⟨rfl, hn⟩) (fun c a w hq => by cases hq.1) (D := D) (nq := nq) ops.size (Array.replicate ops.size false) ops.size hcnt h.drew hall
      intro b cs
      obtain ⟨e, a', w', ⟨rfl, st', μ', S', hK', h'⟩, harr⟩ := wp_region_held (id := id) hm hany b k cs
      obtain ⟨a2, w2, t2, hp, hs⟩ := arun_ok hT hH hR n k _ _ _ _ _ h' hK' b cs
      exact ⟨a2, w2, t2, hp, Steps.trans harr hs⟩
  · exact absurd (hK none (by simp)) (by simp)

theorem good_group {f : FuncId} {pg : Prog R} {l : List (Nat × (List Item → St → Option R))} {cv' : Hand (AV × St)} {hs : Hand St} {q : FuncId → Bool} {D : List Id} {nq : List Nat} (hm : P.follows .mixedOrders = true) (hp : Parts P f pg l) (hHs : HandD P pg.nt q hs) (h1 : HandNat pg.hd cv') (h2 : HandNat hs cv')
    {Post : Act → World → Prop} (hR : RunOK P w0 O pg r Post) {n : Nat} {T : List Item} {p : Tpl} {F : p.T → Option R}
    (seg : ∀ x, ∀ q' ∈ arunG pg q D nq n T (mk p x), ∀ y, F x = some y → q' = some y) : Good P pg.nt w0 O Post r T p F :=
  fun x μ S a w hF h => arunG_ok hm hp.tab hp.hand hHs h1 h2 hR h fun q' hq => seg x q' hq r hF
end
end Go.Proofs.YtjjepjfjikefiaaB
