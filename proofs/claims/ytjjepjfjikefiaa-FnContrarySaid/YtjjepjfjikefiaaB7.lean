/- The core, part 7: append, copy, make. -/
import Derived.Test.YtjjepjfjikefiaaB6
set_option linter.unusedVariables false
namespace Go.Proofs.YtjjepjfjikefiaaB
open Go

section
variable {R : Type} {P : Program} {nt : Nat} {w0 : World} {O : Own} {μ : Id → Option Value} {S : Nat → Prop} {st : St} {a : Act} {w : World} {o : Oper} {K : St → Option R} {r : R} {Q : Exit → Act → World → Prop}

/-- what a slice holds at this moment, in memory -/
theorem src_ok (h : Rel nt w0 O μ S st a w) {t : Ty} {c : Cell} {v : Value} {ys : List t.den} (hv : CellRel μ S w c v) (hy : cellData st.heap t c = some ys) :
    ∃ A cp, v = .slice A ys.length cp ∧ ys.length ≤ cp ∧ (ys ≠ [] → ∃ b off cells, A = some ⟨b, off, none⟩ ∧ RowCells (Reads S w t) ys cells ∧ CellsAt w b off cells) := by
  have fin : ∀ {c : Cell}, CellRel μ S w c v → cellD (.sl t) c = some ys → ∃ A cp, v = .slice A ys.length cp ∧ ys.length ≤ cp ∧ (ys ≠ [] → ∃ b off cells, A = some ⟨b, off, none⟩ ∧ RowCells (Reads S w t) ys cells ∧ CellsAt w b off cells) := by
    intro c hv hy
    obtain ⟨A, cp, e, hcp, hr⟩ := cellD_ok hv hy
    simp only [List.cons.injEq, and_true] at e
    exact ⟨A, cp, e, hcp, fun hne => by obtain ⟨b, off, cells, h1, _, h2, h3⟩ := hr hne; exact ⟨b, off, cells, h1, h2, h3⟩⟩
  unfold cellData at hy
  split at hy
  · rename_i id
    split at hy
    · rename_i e ne t' xs hid
      obtain ⟨e2, he⟩ := castTo_eq hy
      simp only [Ty.sl.injEq] at e2
      subst e2
      simp only at he
      subst he
      obtain ⟨hv2, hm2, cells, hown, hrc, _⟩ := h.blks _ _ hid
      have hm := hv.1
      rw [hm] at hm2
      simp only [Option.some.injEq] at hm2
      subst hm2
      rcases row_reads hown hrc with ⟨e3, e4⟩ | ⟨b, cap, e3, hcap, _, hat⟩
      · subst e4; exact ⟨none, 0, e3, Nat.le_refl _, fun hn => absurd rfl hn⟩
      · exact ⟨_, cap, e3, hcap, fun _ => ⟨b, 0, cells, rfl, hrc, hat⟩⟩
    · cases hy
  · rename_i id lo n sz
    split at hy
    · rename_i e ne t' xs hid
      cases hz : Nat.beq sz t'.sz with
      | false => rw [hz] at hy; cases hy
      | true =>
        rw [hz] at hy
        have hz := Nat.eq_of_beq_eq_true hz
        obtain ⟨e2, he⟩ := castTo_eq hy
        simp only [Ty.sl.injEq] at e2
        subst e2
        simp only at he
        subst he hz
        obtain ⟨hv2, hm2, cells, hown, hrc, _⟩ := h.blks _ _ hid
        obtain ⟨A, c, N, cap, e1, hnc, hlo, hrow⟩ := hv
        rcases hrow with ⟨hm, h0, hA, _⟩ | ⟨b, hm, hA, _⟩
        · have hn0 : n = 0 := by omega
          subst hn0
          exact ⟨A, c, by simpa using e1, by simp, fun hn => by simp at hn⟩
        · rw [hm] at hm2
          simp only [Option.some.injEq] at hm2
          subst hm2
          rcases row_reads hown hrc with ⟨e3, e4⟩ | ⟨b', cap', e3, hcap, _, hat⟩
          · cases e3
          · simp only [Value.slice.injEq, Option.some.injEq, Addr.mk.injEq, and_true] at e3
            obtain ⟨rfl, rfl, rfl⟩ := e3
            have hl : ((xs.drop lo).take n).length = n := by simp; omega
            refine ⟨A, c, by rw [hl]; exact e1, by rw [hl]; exact hnc, fun hn => ?_⟩
            have hpos : 0 < n := by
              rcases Nat.eq_zero_or_pos n with h0 | h0
              · subst h0; exact absurd (by simp) hn
              · exact h0
            have hsz : ∀ (x : t'.den) (c : List Value), Reads S w t' x c → c.length = t'.sz := fun x c => Reads.length
            refine ⟨b, lo * t'.sz, (cells.drop (lo * t'.sz)).take (n * t'.sz), hA hpos, (hrc.drop t'.sz hsz lo).take t'.sz hsz n, fun j u hj => ?_⟩
            rw [List.getElem?_take] at hj
            split at hj
            · rw [List.getElem?_drop] at hj
              have := hat _ u hj
              simpa using this
            · cases hj
    · cases hy
  · exact fin hv hy

/-- nothing is appended -/
theorem append_nothing {t ty e : TypeId} {i : TypeInfo} (ht : P.underlying t = some (.slice e)) (hi : P.info? e = some i) {base A : Option Addr} {n cap c : Nat} (hn : n ≤ cap) (w : World) :
    (Builtin.append_ #[t, t] ty #[.slice base n cap, .slice A 0 c]).run P w = .ok (.slice base n cap) w := by
  cases base <;> cases A <;> simp [Builtin.append_, run_underlying ht, sizeOf, typeInfo, hi, Builtin.lenOf, Builtin.firstCells, hn, storeCells, loadCells, loadCellsFrom]

theorem grown_drew_alloc (w : World) (o : Obj) (row : Option Nat) : w.grownBy (w.drew.alloc o) row := ⟨rfl, rfl, rfl, by simp, fun k hk _ => heap_alloc_old w.drew o k hk⟩

/-- a new array that has been made for an append -/
theorem owns_new {e : TypeId} {sz n cap : Nat} (old new rest : Array Value) {cells : List Value} (hc : cells = old.toList ++ new.toList) (hl : cells.length = n * sz) (hn : n ≤ cap) (hm : cap ≤ maxLen) (hr : rest.size = (cap - n) * sz) (w : World) :
    (w.drew.alloc (.cells (old ++ new ++ rest) e)).ownsRow 0 e sz (.slice (some ⟨w.heap.size, 0, none⟩) n cap) n cells := by
  subst hc
  refine ⟨hl, .inr ⟨w.heap.size, cap, _, rfl, Nat.zero_le _, heap_alloc_new w.drew _, hn, hm, ?_, ?_⟩⟩
  · simp only [List.length_append, Array.length_toList] at hl
    simp only [Array.size_append, hr, hl, ← Nat.add_mul]
    congr 1
    omega
  · simp only [Array.toList_append, ← hl]
    exact List.take_left

/-- append to a row that is held, in whatever way it goes -/
theorem append_any {t ty e : TypeId} {i : TypeInfo} {z : Value} {sz bytes : Nat} (ht : P.underlying t = some (.slice e)) (hi : P.info? e = some i) (hz : i.zero = some z) (hsize : i.size = sz) (hby : i.bytes = bytes) (hzs : z.cells.size = sz)
    {v : Value} {n : Nat} {cells : List Value} (hown : w.ownsRow 0 e sz v n cells) {Ad : Option Addr} {m c : Nat} {news : List Value} (hl : news.length = m * sz) (h1 : ∀ u ∈ news, u.oneCell' = true)
    (hsrc : 0 < m → ∃ b off, Ad = some ⟨b, off, none⟩ ∧ CellsAt w b off news) (hmax : n + m ≤ maxLen) (hbytes : (n + m) * bytes ≤ 140737488355328) (hsz : 0 < sz) :
    ∃ v' w', (Builtin.append_ #[t, t] ty #[v, .slice Ad m c]).run P w = .ok v' w' ∧ w'.ownsRow 0 e sz v' (n + m) (cells ++ news) ∧ w.grownBy w' (blockOf v) ∧ (∃ A n c, v' = .slice A n c) ∧
      (∀ k, blockOf v' = some k → (blockOf v = some k ∨ w.heap.size ≤ k) ∧ k < w'.heap.size) ∧ (v' = .slice none 0 0 ↔ v = .slice none 0 0 ∧ m = 0) := by
  subst hsize
  subst hby
  have hsmall : n + m ≤ 9223372036854775807 := by simp only [maxLen] at hmax; omega
  rcases Nat.eq_zero_or_pos m with hm | hm
  · subst hm
    have hn : news = [] := List.eq_nil_of_length_eq_zero (by simpa using hl)
    subst hn
    rcases hown.2 with ⟨rfl, rfl⟩ | ⟨g, cap, cur, rfl, _, hw, hnc, _⟩
    · exact ⟨_, w, append_nothing ht hi (Nat.le_refl _) w, by simpa using hown, ⟨rfl, rfl, rfl, Nat.le_refl _, fun _ _ _ => rfl⟩, ⟨_, _, _, rfl⟩, fun k hk => by simp [blockOf] at hk, by simp⟩
    · exact ⟨_, w, append_nothing ht hi hnc w, by simpa using hown, ⟨rfl, rfl, rfl, Nat.le_refl _, fun _ _ _ => rfl⟩, ⟨_, _, _, rfl⟩, fun k hk => ⟨.inl hk, by simp only [blockOf, Option.some.injEq] at hk; subst hk; exact (Array.getElem?_eq_some_iff.1 hw).1⟩, by simp⟩
  · obtain ⟨b, off, rfl, hat⟩ := hsrc hm
    have hnews : ∀ j u, news[j]? = some u → w.cell? ((⟨b, off, none⟩ : Addr).add j) = some u := fun j u hj => by rw [add_plain]; exact hat j u hj
    have hlen : (cells ++ news).length = (n + m) * i.size := by rw [List.length_append, hown.1, hl, Nat.add_mul]
    rcases hown.2 with ⟨rfl, rfl⟩ | ⟨g, cap, cur, rfl, hbg, hg, hnc, hcm, hcs, htake⟩
    · have hx : cells = [] := List.eq_nil_of_length_eq_zero (by simpa using hown.1)
      subst hx
      simp only [Nat.zero_add] at hbytes hmax hsmall hlen ⊢
      have hr := run_append_nil (P := P) w t ty e i z ht hi hz ⟨b, off, none⟩ m c news hl hnews hm (by omega) (by omega)
      have hge := grownCap_ge w m 0 e
      refine ⟨_, _, hr, ?_, grown_drew_alloc w _ _, ⟨_, _, _, rfl⟩, fun k hk => ?_, by simp; omega⟩
      · have := owns_new (e := e) (sz := i.size) #[] news.toArray (Builtin.zeroCells z.cells (grownCap w m 0 e - m)) (cells := [] ++ news) (by simp) (by simpa using hl) hge (grownCap_le_maxLen w m 0 e hmax) (by rw [size_zeroCells, hzs]) w
        simpa using this
      · simp only [blockOf, Option.some.injEq] at hk; subst hk; simp
    · by_cases hroom : n + m ≤ cap
      · have hfit : n * i.size + news.length ≤ cur.size := by rw [hl, hcs, ← Nat.add_mul]; exact Nat.mul_le_mul_right _ hroom
        have hr := run_append_room (P := P) w t ty e i ht hi g n cap cur hg ⟨b, off, none⟩ m c news hl hnews h1 hroom hfit
        refine ⟨_, _, hr, ⟨hlen, .inr ⟨g, cap, _, rfl, hbg, setRow_heap w g cur _ e _ hg, hroom, hcm, ?_, ?_⟩⟩, grown_setRow w g _, ⟨_, _, _, rfl⟩, fun k hk => ⟨.inl hk, ?_⟩, by simp⟩
        · simp only [List.size_toArray, List.length_append, List.length_take, List.length_drop, Array.length_toList]
          omega
        · rw [htake, ← hlen]
          exact List.take_left
        · simp only [blockOf, Option.some.injEq] at hk; subst hk; simpa using (Array.getElem?_eq_some_iff.1 hg).1
      · have holds : ∀ j u, cells[j]? = some u → w.cell? ((⟨g, 0, none⟩ : Addr).add j) = some u := hown.cells (g := g) rfl
        have hr := run_append_grow (P := P) w t ty e i z ht hi hz ⟨g, 0, none⟩ n cap cells hown.1 holds ⟨b, off, none⟩ m c news hl hnews (by omega) (by omega) (growslice_fits (by omega) hbytes)
        have hge := grownCap_ge w (n + m) cap e
        refine ⟨_, _, hr, ?_, grown_drew_alloc w _ _, ⟨_, _, _, rfl⟩, fun k hk => ?_, by simp⟩
        · exact owns_new (e := e) (sz := i.size) cells.toArray news.toArray (Builtin.zeroCells z.cells (grownCap w (n + m) cap e - (n + m))) (by simp) hlen hge (grownCap_le_maxLen w (n + m) cap e hmax) (by rw [size_zeroCells, hzs]) w
        · simp only [blockOf, Option.some.injEq] at hk; subst hk; simp

/-- append to a slice that ends where its array ends: a new array is made -/
theorem append_clip {t ty e : TypeId} {i : TypeInfo} {z : Value} {sz bytes : Nat} (ht : P.underlying t = some (.slice e)) (hi : P.info? e = some i) (hz : i.zero = some z) (hsize : i.size = sz) (hby : i.bytes = bytes) (hzs : z.cells.size = sz)
    {A : Option Addr} {n : Nat} {cells : List Value} (hcl : cells.length = n * sz) (hold : 0 < n → ∃ b off, A = some ⟨b, off, none⟩ ∧ CellsAt w b off cells) {Ad : Option Addr} {m c : Nat} {news : List Value} (hl : news.length = m * sz)
    (hsrc : 0 < m → ∃ b off, Ad = some ⟨b, off, none⟩ ∧ CellsAt w b off news) (hmax : n + m ≤ maxLen) (hbytes : (n + m) * bytes ≤ 140737488355328) (hm : 0 < m) :
    ∃ cap w', (Builtin.append_ #[t, t] ty #[.slice A n n, .slice Ad m c]).run P w = .ok (.slice (some ⟨w.heap.size, 0, none⟩) (n + m) cap) w' ∧ w'.ownsRow 0 e sz (.slice (some ⟨w.heap.size, 0, none⟩) (n + m) cap) (n + m) (cells ++ news) ∧
      w.grownBy w' none ∧ w.heap.size < w'.heap.size := by
  subst hsize
  subst hby
  have hsmall : n + m ≤ 9223372036854775807 := by simp only [maxLen] at hmax; omega
  obtain ⟨b, off, rfl, hat⟩ := hsrc hm
  have hnews : ∀ j u, news[j]? = some u → w.cell? ((⟨b, off, none⟩ : Addr).add j) = some u := fun j u hj => by rw [add_plain]; exact hat j u hj
  have hlen : (cells ++ news).length = (n + m) * i.size := by rw [List.length_append, hcl, hl, Nat.add_mul]
  have main : ∀ (a0 : Addr), A = some a0 → (∀ j u, cells[j]? = some u → w.cell? (a0.add j) = some u) → ∃ cap w', (Builtin.append_ #[t, t] ty #[.slice A n n, .slice (some ⟨b, off, none⟩) m c]).run P w = .ok (.slice (some ⟨w.heap.size, 0, none⟩) (n + m) cap) w' ∧
      w'.ownsRow 0 e i.size (.slice (some ⟨w.heap.size, 0, none⟩) (n + m) cap) (n + m) (cells ++ news) ∧ w.grownBy w' none ∧ w.heap.size < w'.heap.size := by
    rintro a0 rfl holds
    have hr := run_append_grow (P := P) w t ty e i z ht hi hz a0 n n cells hcl holds ⟨b, off, none⟩ m c news hl hnews (by omega) (by omega) (growslice_fits (by omega) hbytes)
    have hge := grownCap_ge w (n + m) n e
    exact ⟨_, _, hr, owns_new (e := e) (sz := i.size) cells.toArray news.toArray (Builtin.zeroCells z.cells (grownCap w (n + m) n e - (n + m))) (by simp) hlen hge (grownCap_le_maxLen w (n + m) n e hmax) (by rw [size_zeroCells, hzs]) w, grown_drew_alloc w _ _, by simp⟩
  rcases Nat.eq_zero_or_pos n with hn | hn
  · subst hn
    have hx : cells = [] := List.eq_nil_of_length_eq_zero (by simpa using hcl)
    subst hx
    cases A with
    | some a0 => exact main a0 rfl (by simp)
    | none =>
      simp only [Nat.zero_add] at hbytes hmax hsmall hlen ⊢
      have hr := run_append_nil (P := P) w t ty e i z ht hi hz ⟨b, off, none⟩ m c news hl hnews hm (by omega) (by omega)
      have hge := grownCap_ge w m 0 e
      refine ⟨_, _, hr, ?_, grown_drew_alloc w _ _, by simp⟩
      have := owns_new (e := e) (sz := i.size) #[] news.toArray (Builtin.zeroCells z.cells (grownCap w m 0 e - m)) (cells := [] ++ news) (by simp) (by simpa using hl) hge (grownCap_le_maxLen w m 0 e hmax) (by rw [size_zeroCells, hzs]) w
      simpa using this
  · obtain ⟨b', off', rfl, hat'⟩ := hold hn
    exact main _ rfl fun j u hj => by rw [add_plain]; exact hat' j u hj
end
end Go.Proofs.YtjjepjfjikefiaaB
