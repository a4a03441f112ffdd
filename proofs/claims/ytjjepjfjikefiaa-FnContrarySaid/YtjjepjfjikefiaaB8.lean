/- The core, part 8: the built-ins, slices, structs. -/
import Derived.Test.YtjjepjfjikefiaaB7
set_option linter.unusedVariables false
namespace Go.Proofs.YtjjepjfjikefiaaB
open Go

section
variable {R : Type} {P : Program} {nt : Nat} {w0 : World} {O : Own} {μ : Id → Option Value} {S : Nat → Prop} {st : St} {a : Act} {w : World} {o : Oper} {K : St → Option R} {r : R} {Q : Exit → Act → World → Prop}

/-- behind a built-in: a value, a state -/
def NextV (nt : Nat) (w0 : World) (O : Own) (K : AV → St → Option R) (r : R) (a : Act) (u : Value) (w : World) : Prop := ∃ v st μ S, K v st = some r ∧ AVRel μ S w v u ∧ Rel nt w0 O μ S st a w

/-- what is told of elements -/
theorem elemTy_ok {cx : Ctx R} (hcx : ∀ t ti, cx.tb t = some ti → TIok P t ti) {e : TypeId} {t : Ty} {bytes : Nat} (h : elemTy cx e = some (t, bytes)) :
    ∃ i z, P.info? e = some i ∧ i.zero = some z ∧ i.size = t.sz ∧ i.bytes = bytes ∧ z.cells.size = t.sz ∧ 0 < t.sz ∧ 0 < bytes ∧ ∀ S w, Reads S w t t.dflt z.cells.toList := by
  unfold elemTy at h
  split at h
  · rename_i ti hti
    split at h
    · rename_i ty hty
      simp only [Option.some.injEq, Prod.mk.injEq] at h
      obtain ⟨rfl, rfl⟩ := h
      have hk := hcx _ _ hti
      obtain ⟨i, z, hi, hz, hs, hb, hzero, hdat⟩ := hk.info
      obtain ⟨h1, h2, _, _, h4⟩ := hk.data ty hty
      exact ⟨i, z, hi, hz, by rw [hs, h1], hb, by rw [← Array.length_toList, ← (hzero (fun _ => none) (fun _ => False) default).length]; exact h1.symm, h2, h4, hdat ty hty⟩
    · cases h
  · cases h

theorem aappend_ok {cx : Ctx R} {KV : AV → St → Option R} (hcx : ∀ t ti, cx.tb t = some ti → TIok P t ti) (h : Rel nt w0 O μ S st a w) {dst : Nat} {t ty e : TypeId} (ht : P.underlying t = some (.slice e)) {s x : AV} {vs vx : Value}
    (hs : AVRel μ S w s vs) (hx : AVRel μ S w x vx) (hK : aappend cx dst e s x st KV = some r) :
    ∃ u w', (Builtin.append_ #[t, t] ty #[vs, vx]).run P w = .ok u w' ∧ NextV nt w0 O KV r a u w' := by
  unfold aappend at hK
  split at hK
  · rename_i ty' bytes hte
    obtain ⟨i, z, hi, hz, hisz, hby, hzs, hpos, hbpos, hdat⟩ := elemTy_ok hcx hte
    have hRsz : ∀ (x : ty'.den) (c : List Value), Reads S w ty' x c → c.length = ty'.sz := fun x c => Reads.length
    split at hK
    · rename_i sc xc
      split at hK
      · rename_i ys hys
        have hxk : (V1.c xc).known = true := by cases xc <;> first | rfl | (simp [cellData, cellD] at hys)
        obtain ⟨A, cp, rfl, hcp, hmem⟩ := src_ok h (hx hxk) hys
        -- the source's cells
        obtain ⟨news, hnrow, hnat⟩ : ∃ news, RowCells (Reads S w ty') ys news ∧ (0 < ys.length → ∃ b off, A = some ⟨b, off, none⟩ ∧ CellsAt w b off news) := by
          rcases Nat.eq_zero_or_pos ys.length with h0 | h0
          · have : ys = [] := List.eq_nil_of_length_eq_zero h0
            subst this
            exact ⟨[], rfl, fun h => absurd h (by simp)⟩
          · obtain ⟨b, off, cells, h1, h2, h3⟩ := hmem (by rintro rfl; simp at h0)
            exact ⟨cells, h2, fun _ => ⟨b, off, h1, h3⟩⟩
        have hnl : news.length = ys.length * ty'.sz := hnrow.length ty'.sz hRsz
        have hn1 : ∀ u ∈ news, u.oneCell' = true := hnrow.oneCell fun x c => Reads.oneCell
        split at hK
        · rename_i id
          split at hK
          · rename_i e' ne t2 xs hid
            split at hK
            · rename_i ys2 hc2
              obtain ⟨e2, he2⟩ := castTo_eq hc2
              simp only [Ty.sl.injEq] at e2
              subst e2
              simp only at he2
              subst he2
              cases hb : (Nat.beq e' e && !fixedB id && decide ((xs.length + ys.length) * bytes ≤ room)) with
              | false => rw [hb] at hK; cases hK
              | true =>
                rw [hb] at hK
                simp only [Bool.and_eq_true, decide_eq_true_eq, Bool.not_eq_true'] at hb
                have hfx := hb.1.2
                replace hb := And.intro hb.1.1 hb.2
                have := Nat.eq_of_beq_eq_true hb.1
                subst this
                have hv := hs rfl
                obtain ⟨hv2, hm2, cells, hown, hrc, hne⟩ := h.blks _ _ hid
                have hm := hv.1
                rw [hm] at hm2
                simp only [Option.some.injEq] at hm2
                subst hm2
                have hmax : xs.length + ys.length ≤ maxLen := by
                  have h1 : xs.length + ys.length ≤ (xs.length + ys.length) * bytes := Nat.le_mul_of_pos_right _ hbpos
                  simp only [room, maxLen] at hb ⊢
                  omega
                obtain ⟨v', w', hrun, hown', hg, hform, hblk, hnil⟩ := append_any (P := P) (ty := ty) ht hi hz hisz hby hzs hown hnl hn1 hnat hmax (by simpa [room] using hb.2) hpos
                have hform3 : ∃ A c, vs = .slice A xs.length c := by
                  rcases hown.2 with ⟨e1, e2⟩ | ⟨g, cap', cur, e1, _⟩
                  · exact ⟨_, _, by rw [e2]; exact e1⟩
                  · exact ⟨_, _, e1⟩
                refine ⟨v', w', hrun, _, _, _, S, hK, of_cell (c := .row id) ⟨upd_same _ _ _, hform⟩, h.renew hid hm hfx hform3 hg hblk ⟨cells ++ news, by simpa using hown', ?_, fun h1 h2 => ?_⟩⟩
                · have hsf := h.s_frame hg (id := id) (hv := vs) (fun k e => ⟨hm, e⟩)
                  exact (hrc.append hnrow).mono fun _ _ hx => hx.frame hsf
                · have h3 := List.append_eq_nil_iff.1 h2
                  exact hnil.2 ⟨hne h1 h3.1, by rw [h3.2]; rfl⟩
            · cases hK
          · cases hK
        · rename_i id n sz
          split at hK
          · rename_i e' ne t2 xs hid
            split at hK
            · rename_i ys2 hc2
              obtain ⟨e2, he2⟩ := castTo_eq hc2
              simp only [Ty.sl.injEq] at e2
              subst e2
              simp only at he2
              subst he2
              cases hb : (Nat.beq e' e && Nat.beq sz ty'.sz && !fixedB id && decide ((n + ys.length) * bytes ≤ room)) with
              | false => rw [hb] at hK; cases hK
              | true =>
                rw [hb] at hK
                simp only [Bool.and_eq_true, decide_eq_true_eq, Bool.not_eq_true'] at hb
                have hfx := hb.1.2
                replace hb := And.intro hb.1.1 hb.2
                have := Nat.eq_of_beq_eq_true hb.1.1
                subst this
                have := Nat.eq_of_beq_eq_true hb.1.2
                subst this
                obtain ⟨A0, c0, N, cap, rfl, hnc, hlo, hrow⟩ := hs rfl
                obtain ⟨hv2, hm2, cells, hown, hrc, hne⟩ := h.blks _ _ hid
                have hmax : n + ys.length ≤ maxLen := by
                  have h1 : n + ys.length ≤ (n + ys.length) * bytes := Nat.le_mul_of_pos_right _ hbpos
                  simp only [room, maxLen] at hb ⊢
                  omega
                -- the window's own row
                have hwin : w.ownsRow 0 e' ty'.sz (.slice A0 n c0) n (cells.take (n * ty'.sz)) ∧ μ id = some hv2 ∧ blockOf hv2 = blockOf (.slice A0 n c0) ∧ n ≤ xs.length := by
                  refine ⟨?_, hm2, ?_⟩
                  · rcases hrow with ⟨hm, h0, hA, hc0⟩ | ⟨b, hm, _, hA⟩
                    · have hn0 : n = 0 := by omega
                      subst hn0 hA hc0
                      exact ⟨by simp, .inl ⟨rfl, rfl⟩⟩
                    · obtain ⟨hA, hcap⟩ := hA rfl
                      subst hA hcap
                      rw [hm] at hm2
                      simp only [Option.some.injEq] at hm2
                      subst hm2
                      rcases hown.2 with ⟨e1, _⟩ | ⟨g, cap', cur, e1, h1, h2, h3, h4, h5, h6⟩
                      · cases e1
                      · simp only [Value.slice.injEq, Option.some.injEq, Addr.mk.injEq, and_true] at e1
                        obtain ⟨rfl, rfl, rfl⟩ := e1
                        have hle : n * ty'.sz ≤ xs.length * ty'.sz := Nat.mul_le_mul_right _ (by omega)
                        refine ⟨by rw [List.length_take, hown.1]; omega, .inr ⟨b, _, cur, rfl, h1, h2, hnc, h4, h5, ?_⟩⟩
                        rw [← h6, List.take_take]
                        congr 1
                        omega
                  · rcases hrow with ⟨hm, h0, hA, _⟩ | ⟨b, hm, _, hA⟩
                    · rw [hm] at hm2
                      simp only [Option.some.injEq] at hm2
                      subst hm2 hA
                      exact ⟨rfl, by omega⟩
                    · obtain ⟨hA, _⟩ := hA rfl
                      rw [hm] at hm2
                      simp only [Option.some.injEq] at hm2
                      subst hm2 hA
                      refine ⟨rfl, ?_⟩
                      rcases hown.2 with ⟨e1, _⟩ | ⟨g, cap', cur, e1, _⟩
                      · cases e1
                      · simp only [Value.slice.injEq] at e1; omega
                obtain ⟨hown1, hm, hblk0, hnx⟩ := hwin
                obtain ⟨v', w', hrun, hown', hg, hform, hblk, hnil⟩ := append_any (P := P) (ty := ty) ht hi hz hisz hby hzs hown1 hnl hn1 hnat hmax (by simpa [room] using hb.2) hpos
                rw [← hblk0] at hg hblk
                have hform2 : ∃ A c, hv2 = .slice A xs.length c := by
                  rcases hown.2 with ⟨e1, e2⟩ | ⟨g, cap', cur, e1, _⟩
                  · exact ⟨_, _, by rw [e2]; exact e1⟩
                  · exact ⟨_, _, e1⟩
                refine ⟨v', w', hrun, _, _, _, S, hK, of_cell (c := .row id) ⟨upd_same _ _ _, hform⟩, h.renew hid hm hfx hform2 hg hblk ⟨cells.take (n * ty'.sz) ++ news, ?_, ?_, fun h1 => by cases h1⟩⟩
                · have hl : (xs.take n ++ ys).length = n + ys.length := by simp; omega
                  rw [hl]
                  exact hown'
                · have hsf := h.s_frame hg (id := id) (hv := hv2) (fun k e => ⟨hm, e⟩)
                  exact ((hrc.take ty'.sz hRsz n).append hnrow).mono fun _ _ hx => hx.frame hsf
            · cases hK
          · cases hK
        · cases hb : decide (ys.length * bytes ≤ room) with
          | false => rw [hb] at hK; cases hK
          | true =>
            rw [hb] at hK
            simp only [decide_eq_true_eq] at hb
            obtain ⟨hid, hK⟩ := new_ok hK
            have hv : vs = .slice none 0 0 := hs rfl
            subst hv
            have hmax : 0 + ys.length ≤ maxLen := by
              have h1 : ys.length ≤ ys.length * bytes := Nat.le_mul_of_pos_right _ hbpos
              simp only [room, maxLen] at hb ⊢
              omega
            obtain ⟨v', w', hrun, hown', hg, hform, hblk, hnil⟩ := append_any (P := P) (ty := ty) ht hi hz hisz hby hzs (World.ownsRow_nil w 0 e ty'.sz) hnl hn1 hnat hmax (by simpa [room] using hb) hpos
            simp only [Nat.zero_add, List.nil_append] at hown'
            refine ⟨v', w', hrun, _, _, _, S, hK, of_cell (c := .row dst) ⟨upd_same _ _ _, hform⟩, h.alloc hid hg (fun k hk => ?_) ⟨news, hown', ?_, fun _ h2 => ?_⟩⟩
            · obtain ⟨h1, h2⟩ := hblk k hk
              rcases h1 with h1 | h1
              · cases h1
              · exact ⟨h1, h2⟩
            · have hsf := h.s_frame hg (id := dst) (hv := .nilIface) (fun k e => by cases e)
              exact hnrow.mono fun _ _ hx => hx.frame hsf
            · exact hnil.2 ⟨rfl, by rw [h2]; rfl⟩
        · rename_i t2 xs2
          split at hK
          · rename_i xs hc2
            obtain ⟨e2, he2⟩ := castTo_eq hc2
            simp only [Ty.sl.injEq] at e2
            subst e2
            simp only at he2
            subst he2
            cases hb : (decide ((xs2.length + ys.length) * bytes ≤ room) && Nat.blt 0 ys.length) with
            | false => rw [hb] at hK; cases hK
            | true =>
              rw [hb] at hK
              simp only [Bool.and_eq_true, decide_eq_true_eq] at hb
              have hm0 : 0 < ys.length := by simpa using hb.2
              obtain ⟨hid, hK⟩ := new_ok hK
              obtain ⟨A0, rfl, hrd⟩ := hs rfl
              obtain ⟨A1, c1, e1, hc1, hmem1⟩ := hrd
              simp only [List.cons.injEq, and_true, Value.slice.injEq, true_and] at e1
              obtain ⟨rfl, rfl⟩ := e1
              have hmax : xs2.length + ys.length ≤ maxLen := by
                have h1 : xs2.length + ys.length ≤ (xs2.length + ys.length) * bytes := Nat.le_mul_of_pos_right _ hbpos
                simp only [room, maxLen] at hb ⊢
                omega
              obtain ⟨olds, horow, hoat⟩ : ∃ olds, RowCells (Reads S w t2) xs2 olds ∧ (0 < xs2.length → ∃ b off, A0 = some ⟨b, off, none⟩ ∧ CellsAt w b off olds) := by
                rcases Nat.eq_zero_or_pos xs2.length with h0 | h0
                · have : xs2 = [] := List.eq_nil_of_length_eq_zero h0
                  subst this
                  exact ⟨[], rfl, fun h => absurd h (by simp)⟩
                · obtain ⟨b, off, cells, h1, _, h2, h3⟩ := hmem1 (by rintro rfl; simp at h0)
                  exact ⟨cells, h2, fun _ => ⟨b, off, h1, h3⟩⟩
              obtain ⟨cap, w', hrun, hown', hg, hlt⟩ := append_clip (P := P) (ty := ty) ht hi hz hisz hby hzs (horow.length t2.sz hRsz) hoat hnl hnat hmax (by simpa [room] using hb.1) hm0
              refine ⟨_, w', hrun, _, _, _, S, hK, of_cell (c := .row dst) ⟨upd_same _ _ _, _, _, _, rfl⟩, h.alloc hid hg (fun k hk => ?_) ⟨olds ++ news, by simpa using hown', ?_, fun _ h2 => ?_⟩⟩
              · simp only [blockOf, Option.some.injEq] at hk; subst hk; exact ⟨Nat.le_refl _, hlt⟩
              · have hsf := h.s_frame hg (id := dst) (hv := .nilIface) (fun k e => by cases e)
                exact (horow.append hnrow).mono fun _ _ hx => hx.frame hsf
              · have h3 := List.append_eq_nil_iff.1 h2
                rw [h3.2] at hm0
                simp at hm0
          · cases hK
        · cases hK
      · cases hK
    · cases hK
  · cases hK
end
end Go.Proofs.YtjjepjfjikefiaaB
