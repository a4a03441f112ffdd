/- The core, part 11: slices, lengths, operators, function values. -/
import Derived.Test.YtjjepjfjikefiaaB10
import Derived.Laws.BytesArg
set_option linter.unusedVariables false
namespace Go.Proofs.YtjjepjfjikefiaaB
open Go

section
variable {R : Type} {P : Program} {nt : Nat} {w0 : World} {O : Own} {μ : Id → Option Value} {S : Nat → Prop} {st : St} {a : Act} {w : World} {o : Oper} {K : St → Option R} {r : R} {Q : Exit → Act → World → Prop}

theorem sliceAt_slice {t e : TypeId} (hu : P.underlying t = some (.slice e)) {sz : Nat} (hs : ∀ w, (sizeOf e).run P w = .ok sz w) {lo hi mx : Option Value} {n cap l hh m : Nat} {A : Option Addr}
    (hb : ∀ w, (Instr.sliceBounds true n cap lo hi mx).run P w = .ok (l, hh, m) w) (w : World) :
    (Instr.sliceAt t (.slice A n cap) lo hi mx).run P w = .ok (.slice (if m = l then A else A.map (·.add (l * sz))) (hh - l) (m - l)) w := by
  simp [Instr.sliceAt, Instr.slice, Go.underlying, hu, hb, hs]

theorem sliceAt_string {t : TypeId} (hu : P.underlying t = some .string) {lo hi : Option Value} {s : ByteArray} {l hh m : Nat}
    (hb : ∀ w, (Instr.sliceBounds false s.size s.size lo hi none).run P w = .ok (l, hh, m) w) (w : World) :
    (Instr.sliceAt t (.string s) lo hi none).run P w = .ok (.string (s.extract l hh)) w := by
  simp [Instr.sliceAt, Instr.slice, Go.underlying, hu, hb]

theorem slice_str_gen (h : Rel nt w0 O μ S st a w) {t : TypeId} {x : Operand} {lo hi : Option Operand} (ho : o.op = .slice t x lo hi none) (hu : P.underlying t = some .string) {s : List UInt8} (hx : ev st x = some (dv .str s))
    {l hh : Int} (hlo : intO st 0 lo = some l) (hhi : intO st s.length hi = some hh) (hb : 0 ≤ l ∧ l ≤ hh ∧ hh ≤ s.length) : ∃ u, (∀ w', (execOp a.eval o).run P w' = .ok (.value u) w') ∧ AVRel μ S w (dv .str ((s.take hh.toNat).drop l.toNat)) u := by
  obtain ⟨sb, e1, e2⟩ := str_of (ev_ok h hx)
  have hlen : sb.size = s.length := by rw [← e2]; rfl
  rw [← hlen] at hhi hb
  refine ⟨.string (sb.extract l.toNat hh.toNat), fun w' => ?_, str_rel _ _ ?_⟩
  · have := sliceAt_string (P := P) hu (fun w => bounds_run (P := P) h hlo hhi hb false sb.size (Nat.le_refl _) w)
    simp [execOp, ho, e1, this]
  · rw [ByteArray.data_extract, Array.toList_extract, e2, List.extract_eq_take_drop, List.drop_take]

theorem slice_str_ok (h : Rel nt w0 O μ S st a w) (hd : ∀ d, o.dst = some d → d < nt ∧ O.np ≤ d) {t : TypeId} {x : Operand} {lo hi : Option Operand} (ho : o.op = .slice t x lo hi none) (hu : P.underlying t = some .string) {s : List UInt8} (hx : ev st x = some (dv .str s))
    {l hh : Int} (hlo : intO st 0 lo = some l) (hhi : intO st s.length hi = some hh) (hb : 0 ≤ l ∧ l ≤ hh ∧ hh ≤ s.length) (hK : K (st.put o.dst (dv .str ((s.take hh.toNat).drop l.toNat))) = some r) : o.wp P a w (Next nt w0 O K r) Q := by
  obtain ⟨u, g1, g2⟩ := slice_str_gen h ho hu hx hlo hhi hb
  exact out_ok h hd (g1 w) g2 hK

theorem slice_data_gen (h : Rel nt w0 O μ S st a w) {t e : TypeId} {x : Operand} {lo hi mx : Option Operand} (ho : o.op = .slice t x lo hi mx) (hu : P.underlying t = some (.slice e)) {ty : Ty}
    (hs : ∀ w, (sizeOf e).run P w = .ok ty.sz w) {xs : List ty.den} (hx : ev st x = some (dv (.sl ty) xs)) {l hh : Int} (hlo : intO st 0 lo = some l) (hhi : intO st xs.length hi = some hh) (hb : 0 ≤ l ∧ l ≤ hh ∧ hh ≤ xs.length)
    {c : Cell} (hc : (mx = none ∧ c = .d (.sl ty) ((xs.take hh.toNat).drop l.toNat)) ∨ (∃ m, mx = some m ∧ hi.isSome = true ∧ intO st 0 (some m) = some hh ∧ c = .clip ty ((xs.take hh.toNat).drop l.toNat))) :
    ∃ u, (∀ w', (execOp a.eval o).run P w' = .ok (.value u) w') ∧ AVRel μ S w (cv c) u := by
  obtain ⟨A, cp, e1, hcp, hmem⟩ := cell_of (ev_ok h hx) rfl
  simp only [List.cons.injEq, and_true] at e1
  have hRsz : ∀ (x : ty.den) (c : List Value), Reads S w ty x c → c.length = ty.sz := fun x c => Reads.length
  have hlen : ((xs.take hh.toNat).drop l.toNat).length = hh.toNat - l.toNat := by simp; omega
  have hread : ∀ (m : Nat), hh.toNat ≤ m → Reads S w (.sl ty) ((xs.take hh.toNat).drop l.toNat) [.slice (if m = l.toNat then A else A.map (·.add (l.toNat * ty.sz))) (hh.toNat - l.toNat) (m - l.toNat)] := by
    intro m hm
    refine ⟨_, _, by rw [hlen], by rw [hlen]; omega, fun hne => ?_⟩
    have hpos : 0 < hh.toNat - l.toNat := by
      rcases Nat.eq_zero_or_pos (hh.toNat - l.toNat) with h0 | h0
      · exact absurd (List.eq_nil_of_length_eq_zero (by rw [hlen, h0])) hne
      · exact h0
    have hxs : xs ≠ [] := by rintro rfl; simp at hne
    obtain ⟨b, off, cells, rfl, hS, hrow, hat⟩ := hmem hxs
    refine ⟨b, off + l.toNat * ty.sz, (cells.take (hh.toNat * ty.sz)).drop (l.toNat * ty.sz), ?_, hS, (hrow.take ty.sz hRsz _).drop ty.sz hRsz _, fun j u hj => ?_⟩
    · rw [if_neg (by omega)]
      simp [add_plain]
    · rw [List.getElem?_drop, List.getElem?_take] at hj
      split at hj
      · have := hat _ u hj
        rwa [← Nat.add_assoc] at this
      · cases hj
  rcases hc with ⟨rfl, rfl⟩ | ⟨m, rfl, hi2, hm, rfl⟩
  · refine ⟨.slice (if cp = l.toNat then A else A.map (·.add (l.toNat * ty.sz))) (hh.toNat - l.toNat) (cp - l.toNat), fun w' => ?_, of_cell (c := .d (.sl ty) _) (hread cp (by omega))⟩
    have := sliceAt_slice (P := P) (A := A) hu hs (fun w => bounds_run (P := P) h hlo hhi hb true cp hcp w)
    simp [execOp, ho, e1, this]
  · obtain ⟨y, k, e2, hm2⟩ := (intO_ok h hm).resolve_left (by simp)
    simp only [Option.some.injEq] at e2
    subst e2
    refine ⟨.slice (if hh.toNat = l.toNat then A else A.map (·.add (l.toNat * ty.sz))) (hh.toNat - l.toNat) (hh.toNat - l.toNat), fun w' => ?_, of_cell (c := .clip ty _) ⟨_, by rw [hlen], hread hh.toNat (Nat.le_refl _)⟩⟩
    have := sliceAt_slice (P := P) (A := A) hu hs (fun w => bounds3_run (P := P) h hlo hhi hi2 hm2 hb rfl true cp hcp w)
    simp [execOp, ho, e1, this]

theorem slice_data_ok (h : Rel nt w0 O μ S st a w) (hd : ∀ d, o.dst = some d → d < nt ∧ O.np ≤ d) {t e : TypeId} {x : Operand} {lo hi mx : Option Operand} (ho : o.op = .slice t x lo hi mx) (hu : P.underlying t = some (.slice e)) {ty : Ty}
    (hs : ∀ w, (sizeOf e).run P w = .ok ty.sz w) {xs : List ty.den} (hx : ev st x = some (dv (.sl ty) xs)) {l hh : Int} (hlo : intO st 0 lo = some l) (hhi : intO st xs.length hi = some hh) (hb : 0 ≤ l ∧ l ≤ hh ∧ hh ≤ xs.length)
    {c : Cell} (hc : (mx = none ∧ c = .d (.sl ty) ((xs.take hh.toNat).drop l.toNat)) ∨ (∃ m, mx = some m ∧ hi.isSome = true ∧ intO st 0 (some m) = some hh ∧ c = .clip ty ((xs.take hh.toNat).drop l.toNat)))
    (hK : K (st.put o.dst (cv c)) = some r) : o.wp P a w (Next nt w0 O K r) Q := by
  obtain ⟨u, g1, g2⟩ := slice_data_gen h ho hu hs hx hlo hhi hb hc
  exact out_ok h hd (g1 w) g2 hK

theorem slice_row_gen (h : Rel nt w0 O μ S st a w) {t e : TypeId} {x : Operand} {lo hi : Option Operand} (ho : o.op = .slice t x lo hi none) (hu : P.underlying t = some (.slice e)) {sz : Nat}
    (hs : ∀ w, (sizeOf e).run P w = .ok sz w) {c : Cell} (hx : ev st x = some (cv c)) {n : Nat} {l hh : Int} (hlo : intO st 0 lo = some l) (hhi : intO st n hi = some hh) (hb : 0 ≤ l ∧ l ≤ hh ∧ hh ≤ n) {id lo0 : Nat}
    (hc : (∃ e' ne ty xs, c = .row id ∧ st.heap id = some (.row e' ne ty xs) ∧ ty.sz = sz ∧ n = xs.length ∧ lo0 = 0) ∨ (c = .win id lo0 n sz)) :
    ∃ u, (∀ w', (execOp a.eval o).run P w' = .ok (.value u) w') ∧ AVRel μ S w (cv (.win id (lo0 + l.toNat) (hh.toNat - l.toNat) sz)) u := by
  have hform : ∃ A cp N cap, a.eval x = .slice A n cp ∧ n ≤ cp ∧ lo0 + n ≤ N ∧ ((μ id = some (.slice none 0 0) ∧ N = 0 ∧ A = none ∧ cp = 0) ∨
      ∃ b, μ id = some (.slice (some ⟨b, 0, none⟩) N cap) ∧ (0 < n → A = some ⟨b, lo0 * sz, none⟩) ∧ (lo0 = 0 → A = some ⟨b, 0, none⟩ ∧ cp = cap)) := by
    rcases hc with ⟨e', ne, ty, xs, rfl, hid, hsz, hn, rfl⟩ | rfl
    · have hv := cell_of (ev_ok h hx) rfl
      obtain ⟨hv2, hm2, cells, hown, hrc, _⟩ := h.blks _ _ hid
      have hm := hv.1
      rw [hm] at hm2
      simp only [Option.some.injEq] at hm2
      rcases hown.2 with ⟨e1, e2⟩ | ⟨g, cap, cur, e1, _, _, hnc, _⟩
      · rw [← hm2] at e1
        rw [e1] at hm ⊢
        have : n = 0 := by omega
        subst this
        exact ⟨none, 0, 0, 0, rfl, Nat.le_refl _, Nat.le_refl _, .inl ⟨hm, rfl, rfl, rfl⟩⟩
      · rw [← hm2] at e1
        rw [e1] at hm ⊢
        rw [hn]
        exact ⟨_, cap, xs.length, cap, rfl, hnc, by omega, .inr ⟨g, hm, fun _ => by simp, fun _ => ⟨rfl, rfl⟩⟩⟩
    · exact cell_of (ev_ok h hx) rfl
  obtain ⟨A, cp, N, cap, e1, hncp, hlo0, hrow⟩ := hform
  refine ⟨.slice (if cp = l.toNat then A else A.map (·.add (l.toNat * sz))) (hh.toNat - l.toNat) (cp - l.toNat), fun w' => ?_, of_cell (c := .win _ _ _ _) ⟨_, _, N, cap, rfl, by omega, by omega, ?_⟩⟩
  · have := sliceAt_slice (P := P) (A := A) hu hs (fun w => bounds_run (P := P) h hlo hhi hb true cp hncp w)
    simp [execOp, ho, e1, this]
  · rcases hrow with ⟨hm, h0, hA, hc0⟩ | ⟨b, hm, hA, hA0⟩
    · subst hA hc0
      exact .inl ⟨hm, h0, by simp, by omega⟩
    · refine .inr ⟨b, hm, fun hpos => ?_, fun h0 => ?_⟩
      · rw [hA (by omega), if_neg (by omega)]
        simp [add_plain, Nat.add_mul]
      · have hl0 : l.toNat = 0 := by omega
        have hz : lo0 = 0 := by omega
        obtain ⟨hA1, hcap⟩ := hA0 hz
        subst hA1 hcap
        rw [hl0]
        simp [add_plain]

theorem slice_row_ok (h : Rel nt w0 O μ S st a w) (hd : ∀ d, o.dst = some d → d < nt ∧ O.np ≤ d) {t e : TypeId} {x : Operand} {lo hi : Option Operand} (ho : o.op = .slice t x lo hi none) (hu : P.underlying t = some (.slice e)) {sz : Nat}
    (hs : ∀ w, (sizeOf e).run P w = .ok sz w) {c : Cell} (hx : ev st x = some (cv c)) {n : Nat} {l hh : Int} (hlo : intO st 0 lo = some l) (hhi : intO st n hi = some hh) (hb : 0 ≤ l ∧ l ≤ hh ∧ hh ≤ n) {id lo0 : Nat}
    (hc : (∃ e' ne ty xs, c = .row id ∧ st.heap id = some (.row e' ne ty xs) ∧ ty.sz = sz ∧ n = xs.length ∧ lo0 = 0) ∨ (c = .win id lo0 n sz))
    (hK : K (st.put o.dst (cv (.win id (lo0 + l.toNat) (hh.toNat - l.toNat) sz))) = some r) : o.wp P a w (Next nt w0 O K r) Q := by
  obtain ⟨u, g1, g2⟩ := slice_row_gen h ho hu hs hx hlo hhi hb hc
  exact out_ok h hd (g1 w) g2 hK

theorem isD_ok {cx : Ctx R} (hcx : ∀ t ti, cx.tb t = some ti → TIok P t ti) {t : TypeId} {ty : Ty} (h : isD (cx.tb t) ty = true) : DataOK P t ty := by
  unfold isD at h
  cases ht : cx.tb t with
  | none => rw [ht] at h; cases h
  | some ti =>
    rw [ht] at h
    simp only at h
    cases hdat : ti.data with
    | none => rw [hdat] at h; cases h
    | some t' =>
      rw [hdat] at h
      have : t' = ty := by simpa using h
      subst this
      exact ((hcx _ _ ht).data _ hdat).2.2.2.1
theorem isSl_ok {cx : Ctx R} (hcx : ∀ t ti, cx.tb t = some ti → TIok P t ti) {t : TypeId} (h : isSl (cx.tb t) = true) : ∃ e, P.underlying t = some (.slice e) := by
  unfold isSl at h
  cases ht : cx.tb t with
  | none => rw [ht] at h; cases h
  | some ti =>
    rw [ht] at h
    have hk := (hcx _ _ ht).kind
    cases hkd : ti.kind with
    | slice e => rw [hkd] at hk; exact ⟨e, hk⟩
    | scalar => simp [hkd] at h
    | struct fs => simp [hkd] at h
    | map k v => simp [hkd] at h
    | iface => simp [hkd] at h
    | bld e => simp [hkd] at h
theorem cond_some' {X : Type} {b : Bool} {x : Option X} {r : X} (h : (bif b then x else none) = some r) : b = true ∧ x = some r := by
  cases b
  · cases h
  · exact ⟨rfl, h⟩
theorem isIf_ok {cx : Ctx R} (hcx : ∀ t ti, cx.tb t = some ti → TIok P t ti) {t : TypeId} (h : isIf (cx.tb t) = true) : ∃ ms, P.underlying t = some (.interface ms) := by
  unfold isIf at h
  split at h
  · rename_i ti hti
    split at h
    · rename_i hk
      have := (hcx _ _ hti).kind
      rw [hk] at this
      exact this
    · cases h
  · cases h
theorem isMap_ok {cx : Ctx R} (hcx : ∀ t ti, cx.tb t = some ti → TIok P t ti) {t : TypeId} (h : isMap (cx.tb t) = true) : ∃ k v, P.underlying t = some (.map k v) := by
  unfold isMap at h
  cases ht : cx.tb t with
  | none => rw [ht] at h; cases h
  | some ti =>
    rw [ht] at h
    have hk := (hcx _ _ ht).kind
    cases hkd : ti.kind with
    | map k v => rw [hkd] at hk; obtain ⟨a, b, hd, _⟩ := hk; exact ⟨a, b, hd⟩
    | scalar => simp [hkd] at h
    | struct fs => simp [hkd] at h
    | slice e => simp [hkd] at h
    | iface => simp [hkd] at h
    | bld e => simp [hkd] at h

theorem len_ok {cx : Ctx R} (hcx : ∀ t ti, cx.tb t = some ti → TIok P t ti) {t ty : TypeId} (h : Rel nt w0 O μ S st a w) {c : Cell} {v : Value} {n : Nat} (hv : CellRel μ S w c v) (hn : lenC st.heap c = some n) (hf : lenFits (cx.tb t) c = true) :
    (Builtin.len_ #[t] ty #[v]).run P w = .ok (goInt n) w := by
  have hel : ∀ A m cp, isSl (cx.tb t) = true → v = .slice A m cp → n = m → (Builtin.len_ #[t] ty #[v]).run P w = .ok (goInt n) w := by
    rintro A m cp hel rfl rfl
    obtain ⟨e, hk⟩ := isSl_ok hcx hel
    simp [Builtin.len_, Go.underlying, hk]
  unfold lenC at hn
  split at hn
  · simp only [Option.some.injEq] at hn
    subst hn
    obtain ⟨s, e1, e2⟩ := hv
    simp only [List.cons.injEq, and_true] at e1
    subst e1
    have hu : P.underlying t = some .string := isD_ok hcx hf
    have hl : s.data.toList.length = s.size := rfl
    rw [← e2, hl]
    simp [Builtin.len_, Go.underlying, hu]
  · simp only [Option.some.injEq] at hn
    obtain ⟨A, cp, e1, _⟩ := hv
    simp only [List.cons.injEq, and_true] at e1
    exact hel A _ cp hf e1 hn.symm
  · simp only [Option.some.injEq] at hn
    obtain ⟨A, e1, _⟩ := hv
    exact hel A _ _ hf e1 hn.symm
  · simp only [Option.some.injEq] at hn
    exact hel none 0 0 hf hv hn.symm
  · split at hn
    · rename_i id e ne ty' xs hid
      simp only [Option.some.injEq] at hn
      obtain ⟨hv2, hm2, cells, hown, _⟩ := h.blks _ _ hid
      have hm := hv.1
      rw [hm] at hm2
      simp only [Option.some.injEq] at hm2
      subst hm2
      rcases hown.2 with ⟨e1, e2⟩ | ⟨g, cap, cur, e1, _⟩
      · exact hel none 0 0 hf e1 (by omega)
      · exact hel _ _ _ hf e1 hn.symm
    · cases hn
  · simp only [Option.some.injEq] at hn
    obtain ⟨A, cp, N, cap, e1, _⟩ := hv
    exact hel A _ cp hf e1 hn.symm
  · simp only [Option.some.injEq] at hn
    obtain ⟨A, cp, e1⟩ := hv
    exact hel A _ cp hf e1 hn.symm
  · split at hn
    · rename_i id kt vt es hid
      simp only [Option.some.injEq] at hn
      obtain ⟨hv2, hm2, q, entries, clock, e1, hw, es0, hsame, hall⟩ := h.blks _ _ hid
      have hm := hv.1
      rw [hm] at hm2
      simp only [Option.some.injEq] at hm2
      subst hm2
      subst e1
      obtain ⟨kT, vT, hu⟩ := isMap_ok hcx hf
      have hl : es.length = entries.size := hsame.1.symm.trans (hall.length.trans Array.length_toList)
      subst hn
      have hgo : (getObj q).run P w = .ok (.map entries clock) w := by simp [getObj, Sem.run, hw]
      rw [hl]
      simp [Builtin.len_, Go.underlying, hu, hgo]
    · cases hn
  · cases hn

theorem len_any {cx : Ctx R} (hcx : ∀ t ti, cx.tb t = some ti → TIok P t ti) {t ty : TypeId} (h : Rel nt w0 O μ S st a w) {c : Cell} {v : Value} {n : Nat} (hv : CellRel μ S w c v) (hn : lenC st.heap c = some n) (hf : lenFits (cx.tb t) c = true) (hnm : isMap (cx.tb t) = false) (w' : World) :
    (Builtin.len_ #[t] ty #[v]).run P w' = .ok (goInt n) w' := by
  have hel : ∀ A m cp, isSl (cx.tb t) = true → v = .slice A m cp → n = m → (Builtin.len_ #[t] ty #[v]).run P w' = .ok (goInt n) w' := by
    rintro A m cp hel rfl rfl
    obtain ⟨e, hk⟩ := isSl_ok hcx hel
    simp [Builtin.len_, Go.underlying, hk]
  unfold lenC at hn
  split at hn
  · simp only [Option.some.injEq] at hn
    subst hn
    obtain ⟨s, e1, e2⟩ := hv
    simp only [List.cons.injEq, and_true] at e1
    subst e1
    have hu : P.underlying t = some .string := isD_ok hcx hf
    have hl : s.data.toList.length = s.size := rfl
    rw [← e2, hl]
    simp [Builtin.len_, Go.underlying, hu]
  · simp only [Option.some.injEq] at hn
    obtain ⟨A, cp, e1, _⟩ := hv
    simp only [List.cons.injEq, and_true] at e1
    exact hel A _ cp hf e1 hn.symm
  · simp only [Option.some.injEq] at hn
    obtain ⟨A, e1, _⟩ := hv
    exact hel A _ _ hf e1 hn.symm
  · simp only [Option.some.injEq] at hn
    exact hel none 0 0 hf hv hn.symm
  · split at hn
    · rename_i id e ne ty' xs hid
      simp only [Option.some.injEq] at hn
      obtain ⟨hv2, hm2, cells, hown, _⟩ := h.blks _ _ hid
      have hm := hv.1
      rw [hm] at hm2
      simp only [Option.some.injEq] at hm2
      subst hm2
      rcases hown.2 with ⟨e1, e2⟩ | ⟨g, cap, cur, e1, _⟩
      · exact hel none 0 0 hf e1 (by omega)
      · exact hel _ _ _ hf e1 hn.symm
    · cases hn
  · simp only [Option.some.injEq] at hn
    obtain ⟨A, cp, N, cap, e1, _⟩ := hv
    exact hel A _ cp hf e1 hn.symm
  · simp only [Option.some.injEq] at hn
    obtain ⟨A, cp, e1⟩ := hv
    exact hel A _ cp hf e1 hn.symm
  · rw [show lenFits (cx.tb t) (.map _) = isMap (cx.tb t) from rfl, hnm] at hf
    cases hf
  · cases hn

theorem cap0_ok {cx : Ctx R} (hcx : ∀ t ti, cx.tb t = some ti → TIok P t ti) {t ty : TypeId} (h : Rel nt w0 O μ S st a w) {c : Cell} {v : Value} (hv : CellRel μ S w c v) (hs : isSl (cx.tb t) = true) (hn : cap0 st.heap c = true) :
    (Builtin.cap_ #[t] ty #[v]).run P w = .ok (goInt 0) w := by
  obtain ⟨e, hu⟩ := isSl_ok hcx hs
  have e1 : v = .slice none 0 0 := by
    unfold cap0 at hn
    split at hn
    · exact hv
    · split at hn
      · rename_i id e' ty' xs hid
        obtain ⟨hv2, hm2, cells, hown, hrc, hne⟩ := h.blks _ _ hid
        have hm := hv.1
        rw [hm] at hm2
        simp only [Option.some.injEq] at hm2
        rw [hm2]
        exact hne rfl (List.isEmpty_iff.1 hn)
      · cases hn
    · cases hn
  subst e1
  simp [Builtin.cap_, Go.underlying, hu]

theorem slice_nil_gen (h : Rel nt w0 O μ S st a w) {t e : TypeId} {x : Operand} {lo hi : Option Operand} (ho : o.op = .slice t x lo hi none) (hu : P.underlying t = some (.slice e)) {sz : Nat} (hs : ∀ w, (sizeOf e).run P w = .ok sz w)
    (hx : ev st x = some (cv .nilS)) {l hh : Int} (hlo : intO st 0 lo = some l) (hhi : intO st (0 : Nat) hi = some hh) (hb : 0 ≤ l ∧ l ≤ hh ∧ hh ≤ (0 : Nat)) :
    ∃ u, (∀ w', (execOp a.eval o).run P w' = .ok (.value u) w') ∧ AVRel μ S w (cv .nilS) u := by
  have e1 : a.eval x = .slice none 0 0 := cell_of (ev_ok h hx) rfl
  refine ⟨.slice none 0 0, fun w' => ?_, of_cell (c := .nilS) rfl⟩
  have := sliceAt_slice (P := P) (A := none) hu hs (fun w => bounds_run (P := P) h hlo hhi hb true 0 (Nat.le_refl _) w)
  have hl : l.toNat = 0 := by omega
  have hh0 : hh.toNat = 0 := by omega
  rw [hl, hh0] at this
  simp [execOp, ho, e1, this]

theorem slice_nil_ok (h : Rel nt w0 O μ S st a w) (hd : ∀ d, o.dst = some d → d < nt ∧ O.np ≤ d) {t e : TypeId} {x : Operand} {lo hi : Option Operand} (ho : o.op = .slice t x lo hi none) (hu : P.underlying t = some (.slice e)) {sz : Nat} (hs : ∀ w, (sizeOf e).run P w = .ok sz w)
    (hx : ev st x = some (cv .nilS)) {l hh : Int} (hlo : intO st 0 lo = some l) (hhi : intO st (0 : Nat) hi = some hh) (hb : 0 ≤ l ∧ l ≤ hh ∧ hh ≤ (0 : Nat))
    (hK : K (st.put o.dst (cv .nilS)) = some r) : o.wp P a w (Next nt w0 O K r) Q := by
  obtain ⟨u, g1, g2⟩ := slice_nil_gen h ho hu hs hx hlo hhi hb
  exact out_ok h hd (g1 w) g2 hK

theorem nilC_ok (h : Rel nt w0 O μ S st a w) {c : Cell} {v : Value} {b : Bool} (hv : CellRel μ S w c v) (hb : nilC st.heap c = some b) (hk : nilOK st.heap c = true) : ∃ A n cp, v = .slice A n cp ∧ b = A.isNone := by
  unfold nilC at hb
  split at hb
  · simp only [Option.some.injEq] at hb
    subst hb
    exact ⟨none, 0, 0, hv, rfl⟩
  · split at hb
    · rename_i id e ty xs hid
      simp only [Option.some.injEq] at hb
      subst hb
      obtain ⟨hv2, hm2, cells, hown, hrc, hne⟩ := h.blks _ _ hid
      have hm := hv.1
      rw [hm] at hm2
      simp only [Option.some.injEq] at hm2
      subst hm2
      rcases hown.2 with ⟨e1, e2⟩ | ⟨g, cap, cur, e1, _⟩
      · have : xs = [] := List.eq_nil_of_length_eq_zero e2
        subst this
        exact ⟨none, 0, 0, e1, rfl⟩
      · refine ⟨_, _, _, e1, ?_⟩
        cases xs with
        | nil => have := hne rfl rfl; rw [this] at e1; cases e1
        | cons => rfl
    · rename_i id e ty xs hid
      simp only [Option.some.injEq] at hb
      subst hb
      obtain ⟨hv2, hm2, cells, hown, hrc, hne⟩ := h.blks _ _ hid
      have hm := hv.1
      rw [hm] at hm2
      simp only [Option.some.injEq] at hm2
      subst hm2
      have hx : xs ≠ [] := by
        rintro rfl
        simp only [nilOK, hid] at hk
        cases hk
      rcases hown.2 with ⟨e1, e2⟩ | ⟨g, cap, cur, e1, _⟩
      · exact absurd (List.eq_nil_of_length_eq_zero e2) hx
      · exact ⟨_, _, _, e1, rfl⟩
    · cases hb
  · rename_i ty xs
    simp only [Option.some.injEq] at hb
    subst hb
    obtain ⟨A, cp, e1, _, hmem⟩ := hv
    have hx : xs ≠ [] := by
      rintro rfl
      cases hk
    obtain ⟨b, off, cells, e2, _⟩ := hmem hx
    simp only [List.cons.injEq, and_true] at e1
    exact ⟨A, _, _, e1, by rw [e2]; rfl⟩
  · rename_i ty xs
    simp only [Option.some.injEq] at hb
    subst hb
    obtain ⟨A, e1, hr⟩ := hv
    obtain ⟨A2, cp, e3, _, hmem⟩ := hr
    have hx : xs ≠ [] := by
      rintro rfl
      cases hk
    obtain ⟨b, off, cells, e2, _⟩ := hmem hx
    simp only [List.cons.injEq, and_true] at e3
    exact ⟨A2, _, _, e3, by rw [e2]; rfl⟩
  · cases hb

theorem eq_nil_run {t e : TypeId} (hu : P.underlying t = some (.slice e)) (A : Option Addr) (n cp d : Nat) (w : World) : (Op.equalIn (d + 1) t (.slice A n cp) (.slice none 0 0)).run P w = .ok A.isNone w := by
  cases A <;> simp [Op.equalIn, Go.underlying, hu]

theorem binop_gen {cx : Ctx R} (hcx : ∀ t ti, cx.tb t = some ti → TIok P t ti) (heq : ∀ t ts, eqfOf (cx.tb t) = some ts → EqOK P t ts) (h : Rel nt w0 O μ S st a w) {op : BinOp} {t yt : TypeId} {x y : Operand}
    (ho : o.op = .binOp op t x y yt) {va vb : AV} {KV : AV → Option R} (hx : ev st x = some va) (hy : ev st y = some vb) (hK : binop (cx.tb t) (isConst y) st.heap op va vb KV = some r) : ∃ v u, KV v = some r ∧ AVRel μ S w v u ∧ ∀ w', (execOp a.eval o).run P w' = .ok (.value u) w' := by
  have h1 := ev_ok h hx
  have h2 := ev_ok h hy
  unfold binop at hK
  split at hK
  · rename_i k m k' m'
    have e1 := int_of h1
    have e2 := int_of h2
    have hg : ∀ w, (eqGuard op t x y (a.eval x) (a.eval y)).run P w = .ok () w := fun w => eqGuard_plain (by rw [e1, e2]) w
    split at hK
    · cases hb : decide (m' < 0) with
      | true => rw [hb] at hK; cases hK
      | false =>
        rw [hb] at hK
        have hb : ¬ m' < 0 := by simpa using hb
        exact ⟨_, _, hK, (int_rel _ _), exec_bin ho hg (fun w => by rw [e1, e2]; simp [binOp, Op.shift, hb])⟩
    · cases hb : decide (m' < 0) with
      | true => rw [hb] at hK; cases hK
      | false =>
        rw [hb] at hK
        have hb : ¬ m' < 0 := by simpa using hb
        exact ⟨_, _, hK, (int_rel _ _), exec_bin ho hg (fun w => by rw [e1, e2]; simp [binOp, Op.shift, hb])⟩
    · split at hK
      · rename_i m2 hc
        obtain ⟨ek, em⟩ := castTo_eq hc
        simp only [Ty.int.injEq] at ek
        subst ek
        simp only at em
        subst em
        obtain ⟨v, u, hKv, hr, hrun⟩ := binInt_run (P := P) (t := t) hK
        exact ⟨_, _, hKv, (hr _ _ _), exec_bin ho hg (fun w => by rw [e1, e2]; exact hrun w)⟩
      · cases hK
  · obtain ⟨s1, e1, f1⟩ := str_of h1
    obtain ⟨s2, e2, f2⟩ := str_of h2
    subst f1 f2
    have hg : ∀ w, (eqGuard op t x y (a.eval x) (a.eval y)).run P w = .ok () w := fun w => eqGuard_plain (by rw [e1, e2]) w
    obtain ⟨v, u, hKv, hr, hrun⟩ := binStr_run (P := P) (t := t) hK
    exact ⟨_, _, hKv, (hr _ _ _), exec_bin ho hg (fun w => by rw [e1, e2]; exact hrun w)⟩
  · have e1 := bool_of h1
    have e2 := bool_of h2
    have hg : ∀ w, (eqGuard op t x y (a.eval x) (a.eval y)).run P w = .ok () w := fun w => eqGuard_plain (by rw [e1, e2]) w
    cases hdt : isD (cx.tb t) .bool with
    | false => rw [hdt] at hK; cases hK
    | true =>
      rw [hdt] at hK
      simp only [cond_true] at hK
      have hu : P.underlying t = some .bool := isD_ok hcx hdt
      obtain ⟨c, hc, hcase⟩ := eqK_ok hK
      simp only [Option.some.injEq] at hc
      subst hc
      rcases hcase with ⟨rfl, hKv⟩ | ⟨rfl, hKv⟩
      · exact ⟨_, _, hKv, (bool_rel _), exec_bin ho hg (fun w => by rw [e1, e2]; exact run_eql_bool w t _ _ hu)⟩
      · exact ⟨_, _, hKv, (bool_rel _), exec_bin ho hg (fun w => by rw [e1, e2]; exact run_neq_bool w t _ _ hu)⟩
  · rename_i xs ys
    split at hK
    · rename_i ts hti
      have hE := heq _ _ hti
      obtain ⟨c, hc, hcase⟩ := eqK_ok hK
      obtain ⟨us, e1, f1⟩ := agg_of h1
      obtain ⟨vs, e2, f2⟩ := agg_of h2
      have hg : ∀ w, (eqGuard op t x y (a.eval x) (a.eval y)).run P w = .ok () w := fun w => by rw [e1, e2]; exact run_eqGuard_agg w op t x y us vs hE.guard
      have hrun : ∀ w1, (Op.equalIn 10000 t (.agg us) (.agg vs)).run P w1 = .ok c w1 := by
        intro w1
        rw [run_equalIn_agg w1 9999 t us vs hE.struct hE.stood]
        exact eqAll_run (P := P) (pre := 0) hc hE.fields (fun j f hj => by rw [hE.offs j f hj]; omega) (by simpa using f1) (by simpa using f2) 9998 w1
      rcases hcase with ⟨rfl, hKv⟩ | ⟨rfl, hKv⟩
      · exact ⟨_, _, hKv, (bool_rel _), exec_bin ho hg (fun w => by rw [e1, e2, run_eql_struct, hrun]; rfl)⟩
      · exact ⟨_, _, hKv, (bool_rel _), exec_bin ho hg (fun w => by rw [e1, e2, run_neq_struct, hrun]; rfl)⟩
    · cases hK
  · rename_i xc
    cases hsl : isSl (cx.tb t) with
    | false => rw [hsl] at hK; cases hK
    | true =>
      rw [hsl, Bool.true_and] at hK
      have hnk := (cond_some' hK).1
      replace hK := (cond_some' hK).2
      obtain ⟨e, hu⟩ := isSl_ok hcx hsl
      obtain ⟨c, hc, hcase⟩ := eqK_ok hK
      have hk : (V1.c xc).known = true := by cases xc <;> first | rfl | (simp [nilC] at hc)
      obtain ⟨A, n, cp, e1, e3⟩ := nilC_ok h (cell_of h1 hk) hc hnk
      have e2 : a.eval y = .slice none 0 0 := cell_of h2 rfl
      have hg : ∀ w, (eqGuard op t x y (a.eval x) (a.eval y)).run P w = .ok () w := fun w => eqGuard_plain (by rw [e1, e2]) w
      have hrun : ∀ w1, (Op.equal t (.slice A n cp) (.slice none 0 0)).run P w1 = .ok c w1 := fun w1 => by rw [e3]; exact eq_nil_run hu A n cp 9999 w1
      rcases hcase with ⟨rfl, hKv⟩ | ⟨rfl, hKv⟩
      · refine ⟨_, .bool c, hKv, bool_rel _, exec_bin ho hg (u := .bool c) (fun w => ?_)⟩
        rw [e1, e2]
        show Sem.run P (do pure (Value.bool (← Op.equal t (.slice A n cp) (.slice none 0 0)))) w = _
        simp only [Sem.run_bind, hrun, Result.andThen_ok, Sem.run_pure]
      · refine ⟨_, .bool (!c), hKv, bool_rel _, exec_bin ho hg (u := .bool (!c)) (fun w => ?_)⟩
        rw [e1, e2]
        show Sem.run P (do pure (Value.bool (!(← Op.equal t (.slice A n cp) (.slice none 0 0))))) w = _
        simp only [Sem.run_bind, hrun, Result.andThen_ok, Sem.run_pure]
  · rename_i xc
    have hb := (cond_some' hK).1
    replace hK := (cond_some' hK).2
    simp only [Bool.and_eq_true] at hb
    obtain ⟨ms, hu⟩ := isIf_ok hcx hb.1
    obtain ⟨c, hc, hcase⟩ := eqK_ok hK
    have hk : (V1.c xc).known = true := by cases xc <;> first | rfl | (simp [errC] at hc)
    have e2 : a.eval y = .nilIface := cell_of h2 rfl
    have e1 := cell_of h1 hk
    have e3 : (c = true ∧ a.eval x = .nilIface) ∨ (c = false ∧ ∃ t p, a.eval x = .iface t p) := by
      cases xc with
      | nilif => simp only [errC, Option.some.injEq] at hc; subst hc; exact .inl ⟨rfl, e1⟩
      | err z =>
        simp only [errC, Option.some.injEq] at hc
        subst hc
        cases z with
        | true => exact .inl ⟨rfl, e1⟩
        | false => exact .inr ⟨rfl, e1⟩
      | _ => simp [errC] at hc
    obtain ⟨yv, hyv⟩ : ∃ yv, y = .const yv := by cases y <;> first | exact ⟨_, rfl⟩ | (simp [isConst] at hb)
    have hg : ∀ w, (eqGuard op t x y (a.eval x) (a.eval y)).run P w = .ok () w := fun w => by
      rw [e2, hyv]
      rcases e3 with ⟨_, e3⟩ | ⟨_, tt, p, e3⟩ <;> rw [e3] <;> rcases hcase with ⟨rfl, _⟩ | ⟨rfl, _⟩ <;> simp [eqGuard]
    have hrun : ∀ w1, (Op.equal t (a.eval x) .nilIface).run P w1 = .ok c w1 := fun w1 => by
      have hd : ∀ d : Nat, (Op.equalIn (d + 1) t (a.eval x) .nilIface).run P w1 = .ok c w1 := fun d => by
        rcases e3 with ⟨rfl, e3⟩ | ⟨rfl, tt, p, e3⟩ <;> rw [e3] <;> simp [Op.equalIn, Go.underlying, hu]
      exact hd 9999
    have hne : ∀ k n, a.eval x ≠ .int k n := by rcases e3 with ⟨_, e3⟩ | ⟨_, tt, p, e3⟩ <;> rw [e3] <;> intro k n h <;> cases h
    rcases hcase with ⟨rfl, hKv⟩ | ⟨rfl, hKv⟩
    · refine ⟨_, .bool c, hKv, bool_rel _, exec_bin ho hg (u := .bool c) (fun w => ?_)⟩
      rw [e2]
      have : (binOp .eql t (a.eval x) .nilIface) = (do pure (Value.bool (← Op.equal t (a.eval x) .nilIface))) := by
        rcases e3 with ⟨_, e3⟩ | ⟨_, tt, p, e3⟩ <;> rw [e3] <;> rfl
      rw [this]
      simp only [Sem.run_bind, hrun, Result.andThen_ok, Sem.run_pure]
    · refine ⟨_, .bool (!c), hKv, bool_rel _, exec_bin ho hg (u := .bool (!c)) (fun w => ?_)⟩
      rw [e2]
      have : (binOp .neq t (a.eval x) .nilIface) = (do pure (Value.bool (!(← Op.equal t (a.eval x) .nilIface)))) := by
        rcases e3 with ⟨_, e3⟩ | ⟨_, tt, p, e3⟩ <;> rw [e3] <;> rfl
      rw [this]
      simp only [Sem.run_bind, hrun, Result.andThen_ok, Sem.run_pure]
  · cases hK

theorem binop_ok {cx : Ctx R} (hcx : ∀ t ti, cx.tb t = some ti → TIok P t ti) (heq : ∀ t ts, eqfOf (cx.tb t) = some ts → EqOK P t ts) (h : Rel nt w0 O μ S st a w) (hd : ∀ d, o.dst = some d → d < nt ∧ O.np ≤ d) {op : BinOp} {t yt : TypeId} {x y : Operand}
    (ho : o.op = .binOp op t x y yt) {va vb : AV} (hx : ev st x = some va) (hy : ev st y = some vb) (hK : binop (cx.tb t) (isConst y) st.heap op va vb (fun v => K (st.put o.dst v)) = some r) : o.wp P a w (Next nt w0 O K r) Q := by
  obtain ⟨v, u, h1, h2, h3⟩ := binop_gen hcx heq h ho hx hy hK
  exact out_ok h hd (h3 w) h2 h1

theorem unop_gen (h : Rel nt w0 O μ S st a w) {op : UnOp} {t : TypeId} {x : Operand} (ho : o.op = .unOp op t x) {va : AV} {KV : AV → Option R} (hx : ev st x = some va) (hK : unop op va KV = some r) :
    ∃ v u, KV v = some r ∧ AVRel μ S w v u ∧ ∀ w', (execOp a.eval o).run P w' = .ok (.value u) w' := by
  have h1 := ev_ok h hx
  unfold unop at hK
  split at hK
  · have e1 := bool_of h1
    exact ⟨_, .bool _, hK, bool_rel _, fun w' => by simp [execOp, ho, e1, Op.unary]⟩
  · have e1 := int_of h1
    exact ⟨_, .int _ _, hK, int_rel _ _, fun w' => by simp [execOp, ho, e1, Op.unary, Op.intArith]⟩
  · cases hK
theorem unop_ok (h : Rel nt w0 O μ S st a w) (hd : ∀ d, o.dst = some d → d < nt ∧ O.np ≤ d) {op : UnOp} {t : TypeId} {x : Operand} (ho : o.op = .unOp op t x) {va : AV} (hx : ev st x = some va) (hK : unop op va (fun v => K (st.put o.dst v)) = some r) :
    o.wp P a w (Next nt w0 O K r) Q := by
  obtain ⟨v, u, h1, h2, h3⟩ := unop_gen (P := P) h ho hx hK
  exact out_ok h hd (h3 w) h2 h1

theorem rowInts {k : IntKind} : ∀ {ys : List Int} {cells : List Value} {i : Nat}, RowCells (Reads S w (.int k)) ys cells → i < ys.length → cells[i]? = some (.int k (ys.getD i 0))
  | [], _, _, _, hi => by simp at hi
  | y :: ys, _, i, ⟨c1, r1, e, hy, hr⟩, hi => by
    have : c1 = [.int k y] := hy
    subst this e
    cases i with
    | zero => rfl
    | succ i => simpa using rowInts hr (by simpa using hi)

theorem bytes_ok {cx : Ctx R} (hcx : ∀ t ti, cx.tb t = some ti → TIok P t ti) (h : Rel nt w0 O μ S st a w) (hd : ∀ d, o.dst = some d → d < nt ∧ O.np ≤ d) {s t : TypeId} {x : Operand} (ho : o.op = .convert s t x) {c : Cell} {l : List UInt8} (hx : ev st x = some (cv c))
    (hc : bytesC cx s t st.heap c = some l) (hK : K (st.put o.dst (dv .str l)) = some r) : o.wp P a w (Next nt w0 O K r) Q := by
  have h1 := ev_ok h hx
  unfold bytesC at hc
  split at hc
  · rename_i e he
    split at hc
    · rename_i bytes hte
      have hb := (cond_some' hc).1
      replace hc := (cond_some' hc).2
      split at hc
      · rename_i ys hys
        simp only [Option.some.injEq] at hc
        subst hc
        cases hti : cx.tb s with
        | none => rw [hti] at he; cases he
        | some ti =>
          rw [hti] at he
          have hs : P.underlying s = some (.slice e) := by
            have := (hcx _ _ hti).kind
            simp only [Option.bind_some, TI.elem] at he
            split at he
            · rename_i e' hk; rw [hk] at this; simp only [Option.some.injEq] at he; subst he; exact this
            · cases he
          have hu8 : P.underlying e = some (.int .u8) := by
            unfold elemTy at hte
            split at hte
            · rename_i te hte'
              split at hte
              · rename_i ty hty
                simp only [Option.some.injEq, Prod.mk.injEq] at hte
                obtain ⟨rfl, _⟩ := hte
                exact ((hcx _ _ hte').data _ hty).2.2.2.1
              · cases hte
            · cases hte
          have hdst : P.underlying t = some .string := isD_ok hcx hb
          have hk : (V1.c c).known = true := by cases c <;> first | rfl | (simp [cellData, cellD] at hys)
          obtain ⟨A, cp, hv, hcp, hmem⟩ := src_ok h (cell_of h1 hk) hys
          have hrun : (convert s t (a.eval x)).run P w = .ok (.string ⟨(strOf ys).toArray⟩) w := by
            rw [hv]
            rcases Nat.eq_zero_or_pos ys.length with h0 | h0
            · have : ys = [] := List.eq_nil_of_length_eq_zero h0
              subst this
              cases A with
              | none => exact run_convert_bytes_nil w s e hs hu8 _ _ t hdst
              | some ad =>
                rw [run_convert_bytes_string w s t e _ _ _ hs hu8 hdst]
                simp [Conv.bytesToString, loadCells, loadCellsFrom, strOf]
                rfl
            · obtain ⟨b, off, cells, rfl, hrc, hat⟩ := hmem (by rintro rfl; simp at h0)
              refine run_convert_bytes_arg w s e hs hu8 b off ys.length cp ys rfl (fun i hi => ?_) t hdst
              exact hat i _ (rowInts hrc hi)
          exact out_ok h hd (u := .string ⟨(strOf ys).toArray⟩) (by simp [execOp, ho, hrun]) (str_rel _ _ rfl) hK
      · cases hc
    · cases hc
  · cases hc

theorem conv_gen {cx : Ctx R} (hcx : ∀ t ti, cx.tb t = some ti → TIok P t ti) (h : Rel nt w0 O μ S st a w) {s t : TypeId} {x : Operand} (ho : o.op = .convert s t x) {c c' : Cell} (hx : ev st x = some (cv c))
    (hc : convC (cx.tb s) (cx.tb t) c = some c') : ∃ u, AVRel μ S w (cv c') u ∧ ∀ w', (execOp a.eval o).run P w' = .ok (.value u) w' := by
  have h1 := ev_ok h hx
  have husrc : ∀ ti, cx.tb s = some ti → ∃ d, P.underlying s = some d := by
    intro ti hti
    have hk := (hcx _ _ hti).kind
    cases hkd : ti.kind with
    | scalar => rw [hkd] at hk; obtain ⟨d, hd, _⟩ := hk; exact ⟨d, hd⟩
    | struct fs => rw [hkd] at hk; obtain ⟨f, hd, _⟩ := hk; exact ⟨_, hd⟩
    | slice e => rw [hkd] at hk; exact ⟨_, hk⟩
    | map k v => rw [hkd] at hk; obtain ⟨_, _, hd, _⟩ := hk; exact ⟨_, hd⟩
    | iface => rw [hkd] at hk; obtain ⟨_, hd⟩ := hk; exact ⟨_, hd⟩
    | bld e => rw [hkd] at hk; obtain ⟨_, hd⟩ := hk; exact ⟨_, hd⟩
  unfold convC at hc
  split at hc
  · split at hc
    · rename_i ti hti
      split at hc
      · rename_i k hk
        cases hsrc : (cx.tb s).isSome with
        | false => rw [hsrc] at hc; cases hc
        | true =>
          rw [hsrc] at hc
          simp only [cond_true, Option.some.injEq] at hc
          subst hc
          obtain ⟨ts, hts⟩ := Option.isSome_iff_exists.1 hsrc
          obtain ⟨d, hd1⟩ := husrc _ hts
          have hu : P.underlying t = some (.int k) := ((hcx _ _ hti).data _ hk).2.2.2.1
          have e1 := int_of h1
          refine ⟨.int k (k.wrap _), int_rel _ _, fun w' => ?_⟩
          simp [execOp, ho, e1, convert, Go.underlying, hd1, hu, Conv.intToInt]
      · cases hc
    · cases hc
  · cases hb : (isD (cx.tb s) .str && isD (cx.tb t) .str) with
    | false => rw [hb] at hc; cases hc
    | true =>
      rw [hb] at hc
      simp only [cond_true, Option.some.injEq] at hc
      subst hc
      simp only [Bool.and_eq_true] at hb
      have hu1 : P.underlying s = some .string := isD_ok hcx hb.1
      have hu : P.underlying t = some .string := isD_ok hcx hb.2
      obtain ⟨sb, e1, f1⟩ := str_of h1
      refine ⟨.string sb, str_rel _ _ f1, fun w' => ?_⟩
      simp [execOp, ho, e1, convert, Go.underlying, hu1, hu]
  · cases hc
theorem conv_ok {cx : Ctx R} (hcx : ∀ t ti, cx.tb t = some ti → TIok P t ti) (h : Rel nt w0 O μ S st a w) (hd : ∀ d, o.dst = some d → d < nt ∧ O.np ≤ d) {s t : TypeId} {x : Operand} (ho : o.op = .convert s t x) {c c' : Cell} (hx : ev st x = some (cv c))
    (hc : convC (cx.tb s) (cx.tb t) c = some c') (hK : K (st.put o.dst (cv c')) = some r) : o.wp P a w (Next nt w0 O K r) Q := by
  obtain ⟨u, h1, h2⟩ := conv_gen hcx h ho hx hc
  exact out_ok h hd (h2 w) h1 hK
end
end Go.Proofs.YtjjepjfjikefiaaB
