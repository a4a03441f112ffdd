/- The core, part 33: calls of strings.Builder's methods. -/
import Derived.Test.YtjjepjfjikefiaaB32
set_option linter.unusedVariables false
namespace Go.Proofs.YtjjepjfjikefiaaB
open Go Go.Shelf Go.RowKit

section
variable {R : Type} {P : Program} {ρ : Ren} {nt : Nat} {w0 : World} {O : Own} {μ : Id → Option Value} {S : Nat → Prop} {st : St} {a : Act} {w w' : World} {r : R}

/-- a row that is let go, whatever becomes of its block -/
theorem Rel.drop (h : Rel nt w0 O μ S st a w) {id : Id} {hv : Value} (hm : μ id = some hv) {N : Nat} (hrow : ∃ A c, hv = .slice A N c) (hg : w.grownBy w' (blockOf hv)) :
    Rel nt w0 O (upd μ id none) S { st.kill id N with heap := upd (st.kill id N).heap id none } a w' := by
  have hs := h.s_frame hg (id := id) (hv := hv) (fun k e => ⟨hm, e⟩)
  have hbut : MuBut id N μ (upd μ id none) := ⟨by obtain ⟨A, c, e⟩ := hrow; exact ⟨A, c, by rw [hm, e]⟩, fun id' v hne e => by rw [upd_other _ _ _ _ hne]; exact e⟩
  have ne : ∀ id' v, upd μ id none id' = some v → id' ≠ id ∧ μ id' = some v := by
    intro id' v e
    by_cases e2 : id' = id
    · subst e2; rw [upd_same] at e; cases e
    · rw [upd_other _ _ _ _ e2] at e; exact ⟨e2, e⟩
  refine ⟨fun t => ((h.env t).frame hs).kill hbut, h.size, h.defers, fun id' he => ?_, fun id' b he => ?_, fun id1 id2 v1 v2 k h1 h2 h3 h4 => h.sep _ _ _ _ _ (ne _ _ h1).2 (ne _ _ h2).2 h3 h4, fun k hk => ?_, fun id' hv2 k h1 h2 => ?_,
    hg.os.trans h.os, hg.tape.trans h.tape, hg.output.trans h.output, Nat.le_trans h.grow hg.size, fun k hk ho => ?_, h.sfrom, h.pars, fun id' v hk => ?_, fun k o hk => ?_, h.tq⟩
  · by_cases e : id' = id
    · subst e; exact upd_same _ _ _
    · simp only [upd_other _ _ _ _ e, St.kill, killH] at he ⊢
      refine h.dom _ ?_
      cases hx : st.heap id' with
      | none => rfl
      | some b => rw [hx] at he; cases he
  · by_cases e : id' = id
    · subst e; simp [upd_same] at he
    · simp only [upd_other _ _ _ _ e, St.kill, killH] at he ⊢
      cases hx : st.heap id' with
      | none => rw [hx] at he; cases he
      | some b1 =>
        rw [hx] at he
        simp only [Option.some.injEq] at he
        subst he
        obtain ⟨hv2, hm', hb'⟩ := h.blks id' b1 hx
        exact ⟨hv2, hm', (hb'.frame hs fun k hk => hg.block k (h.own _ _ _ hm' hk).2 fun e2 => e (h.sep id' id hv2 hv k hm' hm hk e2.symm)).kill hbut⟩
  · exact ⟨Nat.lt_of_lt_of_le (h.imm k hk).1 hg.size, fun id' hv2 h1 h2 => (h.imm k hk).2 _ _ (ne _ _ h1).2 h2⟩
  · exact ⟨(h.own _ _ _ (ne _ _ h1).2 h2).1, Nat.lt_of_lt_of_le (h.own _ _ _ (ne _ _ h1).2 h2).2 hg.size⟩
  · rw [hg.block k (Nat.lt_of_lt_of_le hk h.grow) fun e => ?_]
    · exact h.frame k hk ho
    · rcases (h.own id hv k hm e.symm).1 with h1 | h1
      · omega
      · exact ho h1
  · obtain ⟨k1, k2, k3⟩ := h.kept id' v hk
    refine ⟨k1, k2, ?_⟩
    by_cases e : id' = id
    · subst e; exact .inl (upd_same _ _ _)
    · simp only [upd_other _ _ _ _ e, St.kill, killH]
      refine k3.imp_left fun hn => ?_
      rw [hn]
  · obtain ⟨h1, h2⟩ := h.tabs_frame hg (id := id) (hv := hv) (fun k e => ⟨hm, e⟩) k o hk
    exact ⟨h2, fun id' hv2 g1 g2 => (h.tabs k o hk).2 _ _ (ne _ _ g1).2 g2⟩

/-- the three methods, by their numbers; T, e: the types of a builder and of a byte -/
def bldHd (fW fL fS : FuncId) (T e : TypeId) (rest : FuncId → Nat → List AV → St → (AV → St → Option R) → Option R) : FuncId → Nat → List AV → St → (AV → St → Option R) → Option R := fun g dn args st K =>
  bif Nat.beq g fW then (match args with
    | [.one (.c (.ptr id 0)), .one (.c (.d .str s))] => match st.heap id with
      | some (.bld T' bid) => match st.heap bid with
        | some (.buf e' l) => bif Nat.beq T' T && Nat.beq e' e && !Nat.beq bid id && !fixedB bid && decide (l.length + s.length ≤ 140737488355328) then
            K (.tup [.c (.d (.int .i64) (s.length : Int)), .c .nilif]) { st.kill bid l.length with heap := upd (upd (st.kill bid l.length).heap bid (some (.buf e' (l ++ s)))) id (some (.bld T' bid)) }
          else none
        | _ => none
      | _ => none
    | _ => none)
  else bif Nat.beq g fL then (match args with
    | [.one (.c (.ptr id 0))] => match st.heap id with
      | some (.bld T' bid) => match st.heap bid with
        | some (.buf e' l) => bif Nat.beq T' T then K (iv (l.length : Int)) st else none
        | _ => none
      | _ => none
    | _ => none)
  else bif Nat.beq g fS then (match args with
    | [.one (.c (.ptr id 0))] => match st.heap id with
      | some (.bld T' bid) => match st.heap bid with
        | some (.buf e' l) => bif Nat.beq T' T && Nat.beq e' e then K (dv .str l) { st.kill bid l.length with heap := upd (st.kill bid l.length).heap bid none } else none
        | _ => none
      | _ => none
    | _ => none)
  else rest g dn args st K

theorem strCells_vals (s : ByteArray) : Lib.strCells s = byteVals s.data.toList := by simp [Lib.strCells, byteVals]

theorem bldHd_ok {fW fL fS : FuncId} {T e : TypeId} {rest : FuncId → Nat → List AV → St → (AV → St → Option R) → Option R}
    (LW : Lays.n166 P ρ) (LL : ∀ (b : Nat) (p : Value) (ao : Option Addr) (n cap : Nat) (w : World), w.heap[b]? = some (.cells #[p, .slice ao n cap] T (0, 0)) → Calls P fL #[.pointer (some ⟨b, 0, none⟩)] w fun e w' => e = .returned (.int .i64 n) ∧ w' = w)
    (LS : ∀ (b : Nat) (p v : Value) (l : List UInt8) (w : World), w.heap[b]? = some (.cells #[p, v] T (0, 0)) → w.ownsRow 0 e 1 v l.length (byteVals l) → (l = [] → v = .slice none 0 0) →
      Calls P fS #[.pointer (some ⟨b, 0, none⟩)] w fun e w' => e = .returned (.string ⟨l.toArray⟩) ∧ (w' = w.drew ∨ ∃ g, blockOf v = some g ∧ w' = w.drew.freeze ⟨g, 0, none⟩ l.length))
    (X : Builder.Extra P ρ) (hW : fW = ρ.f 166) (hT : T = ρ.t 72) (he : e = ρ.t 5)
    (eW : ∀ args w, (callFunc fW args).run P w = .ok (.enter fW args) w) (eL : ∀ args w, (callFunc fL args).run P w = .ok (.enter fL args) w) (eS : ∀ args w, (callFunc fS args).run P w = .ok (.enter fS args) w)
    (hrest : HandF P nt rest) : HandF P nt (bldHd fW fL fS T e rest) := by
  subst hT he
  intro w0 O μ S st a w g dn args vals K r h ha hK
  unfold bldHd at hK
  cases hgW : Nat.beq g fW with
  | true =>
    rw [hgW] at hK
    have := Nat.eq_of_beq_eq_true hgW
    subst this
    simp only [cond_true] at hK
    split at hK
    · rename_i id s
      obtain ⟨u1, u2, e1, h1, h2⟩ := ha.two
      have hv : vals = #[u1, u2] := by rw [← Array.toList_inj, e1]
      subst hv
      split at hK
      · rename_i T' bid hid
        split at hK
        · rename_i e' l hbid
          have hc := (cond_some hK).1
          replace hK := (cond_some hK).2
          simp only [Bool.and_eq_true, decide_eq_true_eq, Bool.not_eq_true'] at hc
          obtain ⟨⟨⟨⟨c1, c2⟩, c3⟩, c5⟩, c4⟩ := hc
          have c1 := Nat.eq_of_beq_eq_true c1
          have c2 := Nat.eq_of_beq_eq_true c2
          have c3 := Nat.ne_of_beq_eq_false c3
          subst c1 c2
          obtain ⟨b, g1, rfl⟩ := h1 rfl
          obtain ⟨sb, g2, g3⟩ := h2 rfl
          simp only [List.cons.injEq, and_true] at g2
          subst g2 g3
          obtain ⟨hv, hm, b', p, v, q1, q2, q3, q4, q5⟩ := h.blks _ _ hid
          rw [g1] at hm
          simp only [Option.some.injEq] at hm
          subst hm
          simp only [Value.pointer.injEq, Option.some.injEq, Addr.mk.injEq, and_true] at q1
          subst q1
          obtain ⟨v2, hm2, hown, hnil⟩ := h.blks _ _ hbid
          rw [q4] at hm2
          simp only [Option.some.injEq] at hm2
          subst hm2
          have hne : blockOf v ≠ some b := fun e => c3 (h.sep _ _ _ _ _ q4 g1 e rfl)
          right
          refine ⟨eW _ _, ?_⟩
          have hsz : sb.size = sb.data.toList.length := by rw [Array.length_toList]; rfl
          subst hW
          refine (bld_write LW X b p v l.length (byteVals l) sb w q2 q3 hown hne (by rw [hsz]; exact c4)).mono ?_
          rintro ex w3 ⟨rfl, w1, v', w2, k1, k2, k3, k4, k5, k6, k7, rfl⟩
          obtain ⟨A, n, c, rfl⟩ := q5
          have hN : n = l.length := by
            rcases hown.2 with ⟨e, hz⟩ | ⟨gg, cap, cur, e, _⟩
            · simp only [Value.slice.injEq] at e; omega
            · simp only [Value.slice.injEq] at e; exact e.2.1
          have r1 := h.update hid g1 (nb := .bld (ρ.t 72) bid) k2 ⟨b, _, _, rfl, k1, .inr rfl, q4, _, _, _, rfl⟩
          have hbid1 : (upd st.heap id (some (.bld (ρ.t 72) bid))) bid = some (.buf (ρ.t 5) l) := by rw [upd_other _ _ _ _ c3]; exact hbid
          have hv' : ∃ A n c, v' = .slice A n c := by
            rcases k4.2 with ⟨e, _⟩ | ⟨gg, cap, cur, e, _⟩ <;> exact ⟨_, _, _, e⟩
          have hlt : b < w1.heap.size := (Array.getElem?_eq_some_iff.1 k1).1
          have r2 := r1.renew (N := l.length) (hv' := v') (nb := .buf (ρ.t 5) (l ++ sb.data.toList)) hbid1 q4 c5 ⟨A, c, by rw [hN]⟩ k5 k6
            ⟨by rw [List.length_append, ← hsz, show byteVals (l ++ sb.data.toList) = byteVals l ++ Lib.strCells sb by rw [strCells_vals]; simp [byteVals]]; exact k4,
             fun hn => by
              have hn := List.append_eq_nil_iff.1 hn
              exact k7.2 ⟨hnil hn.1, by rw [hsz, hn.2]; rfl⟩⟩
          have hb2 : w2.heap[b]? = some (.cells #[.pointer (some ⟨b, 0, none⟩), .slice A n c] (ρ.t 72) (0, 0)) := by
            rw [k5.block b hlt (fun e => hne e.symm)]; exact k1
          have hid2 : (upd (St.kill { st with heap := upd st.heap id (some (.bld (ρ.t 72) bid)) } bid l.length).heap bid (some (.buf (ρ.t 5) (l ++ sb.data.toList)))) id = some (.box [.undef, .undef]) := by
            rw [upd_other _ _ _ _ (fun e => c3 e.symm)]
            simp [St.kill, killH, upd_same, killB]
          have hm2 : (upd μ bid (some v')) id = some (.pointer (some ⟨b, 0, none⟩)) := by rw [upd_other _ _ _ _ (fun e => c3 e.symm)]; exact g1
          have r3 := r2.update hid2 hm2 (w' := w2.setCell ⟨b, 1, none⟩ v') (nb := .bld (ρ.t 72) bid) ⟨rfl, rfl, rfl, by simp [World.setCell], fun k _ hk => Below.heap_setCell _ _ _ _ (fun e => hk (by simp [blockOf, e]))⟩
            ⟨b, _, _, rfl, by simp [World.setCell, Array.getElem?_modify, hb2], .inr rfl, upd_same _ _ _, hv'⟩
          refine ⟨_, rfl, _, _, upd μ bid (some v'), S, hK, ?_, ?_⟩
          rotate_left
          · have hst : ({ st.kill bid l.length with heap := upd (upd (st.kill bid l.length).heap bid (some (.buf (ρ.t 5) (l ++ sb.data.toList)))) id (some (.bld (ρ.t 72) bid)) } : St) =
              { env := (St.kill { st with heap := upd st.heap id (some (.bld (ρ.t 72) bid)) } bid l.length).env, heap := upd (upd (St.kill { st with heap := upd st.heap id (some (.bld (ρ.t 72) bid)) } bid l.length).heap bid (some (.buf (ρ.t 5) (l ++ sb.data.toList)))) id (some (.bld (ρ.t 72) bid)) } := by
              refine congrArg (St.mk (St.kill st bid l.length).env) (funext fun x => ?_)
              show upd (upd _ _ _) _ _ x = upd (upd _ _ _) _ _ x
              by_cases ex : x = id
              · subst ex; rw [upd_same, upd_same]
              · rw [upd_other _ _ _ _ ex, upd_other _ _ _ _ ex]
                by_cases eb : x = bid
                · subst eb; rw [upd_same, upd_same]
                · rw [upd_other _ _ _ _ eb, upd_other _ _ _ _ eb]
                  simp only [St.kill, killH, upd_other _ _ _ _ ex]
            rw [hst]
            exact r3
          · exact ⟨_, rfl, (by rw [hsz]; exact (rfl : [Value.int .i64 _] = _)), (rfl : Value.nilIface = _), trivial⟩
        · cases hK
      · cases hK
    · cases hK
  | false =>
    rw [hgW] at hK
    simp only [cond_false] at hK
    cases hgL : Nat.beq g fL with
    | true =>
      rw [hgL] at hK
      have := Nat.eq_of_beq_eq_true hgL
      subst this
      simp only [cond_true] at hK
      split at hK
      · rename_i id
        obtain ⟨u1, e1, h1⟩ := ha.three
        have hv : vals = #[u1] := by rw [← Array.toList_inj, e1]
        subst hv
        split at hK
        · rename_i T' bid hid
          split at hK
          · rename_i e' l hbid
            have c1 := Nat.eq_of_beq_eq_true (cond_some hK).1
            replace hK := (cond_some hK).2
            subst c1
            obtain ⟨b, g1, rfl⟩ := h1 rfl
            obtain ⟨hv, hm, b', p, v, q1, q2, q3, q4, q5⟩ := h.blks _ _ hid
            rw [g1] at hm
            simp only [Option.some.injEq] at hm
            subst hm
            simp only [Value.pointer.injEq, Option.some.injEq, Addr.mk.injEq, and_true] at q1
            subst q1
            obtain ⟨v2, hm2, hown, hnil⟩ := h.blks _ _ hbid
            rw [q4] at hm2
            simp only [Option.some.injEq] at hm2
            subst hm2
            obtain ⟨A, n, c, rfl⟩ := q5
            have hN : n = l.length := by
              rcases hown.2 with ⟨e, hz⟩ | ⟨gg, cap, cur, e, _⟩
              · simp only [Value.slice.injEq] at e; omega
              · simp only [Value.slice.injEq] at e; exact e.2.1
            right
            refine ⟨eL _ _, (LL b p A n c w q2).mono ?_⟩
            rintro ex w3 ⟨rfl, rfl⟩
            subst hN
            exact ⟨_, rfl, _, _, _, _, hK, int_rel _ _, h⟩
          · cases hK
        · cases hK
      · cases hK
    | false =>
      rw [hgL] at hK
      simp only [cond_false] at hK
      cases hgS : Nat.beq g fS with
      | true =>
        rw [hgS] at hK
        have := Nat.eq_of_beq_eq_true hgS
        subst this
        simp only [cond_true] at hK
        split at hK
        · rename_i id
          obtain ⟨u1, e1, h1⟩ := ha.three
          have hv : vals = #[u1] := by rw [← Array.toList_inj, e1]
          subst hv
          split at hK
          · rename_i T' bid hid
            split at hK
            · rename_i e' l hbid
              have hc := (cond_some hK).1
              replace hK := (cond_some hK).2
              simp only [Bool.and_eq_true] at hc
              have c1 := Nat.eq_of_beq_eq_true hc.1
              have c2 := Nat.eq_of_beq_eq_true hc.2
              subst c1 c2
              obtain ⟨b, g1, rfl⟩ := h1 rfl
              obtain ⟨hv, hm, b', p, v, q1, q2, q3, q4, q5⟩ := h.blks _ _ hid
              rw [g1] at hm
              simp only [Option.some.injEq] at hm
              subst hm
              simp only [Value.pointer.injEq, Option.some.injEq, Addr.mk.injEq, and_true] at q1
              subst q1
              obtain ⟨v2, hm2, hown, hnil⟩ := h.blks _ _ hbid
              rw [q4] at hm2
              simp only [Option.some.injEq] at hm2
              subst hm2
              obtain ⟨A, n, c, rfl⟩ := q5
              have hN : n = l.length := by
                rcases hown.2 with ⟨e, hz⟩ | ⟨gg, cap, cur, e, _⟩
                · simp only [Value.slice.injEq] at e; omega
                · simp only [Value.slice.injEq] at e; exact e.2.1
              subst hN
              right
              refine ⟨eS _ _, (LS b p _ l w q2 hown hnil).mono ?_⟩
              rintro ex w3 ⟨rfl, hw⟩
              have hg : w.grownBy w3 (blockOf (.slice A l.length c)) := by
                rcases hw with rfl | ⟨gg, e, rfl⟩
                · exact ⟨rfl, rfl, rfl, Nat.le_refl _, fun _ _ _ => rfl⟩
                · rw [e]
                  refine ⟨?_, ?_, ?_, ?_, fun k hk hne => ?_⟩
                  · unfold World.freeze; split <;> rfl
                  · unfold World.freeze; split <;> rfl
                  · unfold World.freeze; split <;> rfl
                  · unfold World.freeze; split
                    · exact Nat.le_refl _
                    · simp
                  · unfold World.freeze
                    split
                    · rfl
                    · simp only [Array.getElem?_modify]
                      rw [if_neg (fun e => hne (by rw [e]))]
                      rfl
              exact ⟨_, rfl, _, _, _, _, hK, str_rel _ _ (by simp), h.drop q4 ⟨A, c, rfl⟩ hg⟩
            · cases hK
          · cases hK
        · cases hK
      | false =>
        rw [hgS] at hK
        exact hrest w0 O μ S st a w g dn args vals K r h ha hK
end
end Go.Proofs.YtjjepjfjikefiaaB
