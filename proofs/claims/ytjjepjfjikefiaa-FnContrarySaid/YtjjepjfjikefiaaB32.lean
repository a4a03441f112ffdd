/- The core, part 32: strings.Builder, whose block and buffer are held by name. -/
import Derived.Test.YtjjepjfjikefiaaB31
import Derived.Shelf.Strings.BuilderF
set_option linter.unusedVariables false
namespace Go.Proofs.YtjjepjfjikefiaaB
open Go Go.Shelf Go.RowKit

section
variable {P : Program} {ρ : Ren} {w : World}

/-- a string's bytes behind a row that is held, in whatever way it goes; where the new row lies -/
theorem append_str {t u ty e : TypeId} {i : TypeInfo} (ht : P.underlying t = some (.slice e)) (hu : P.underlying u = some .string) (hi : P.info? e = some i) (hz : i.zero = some (.int .u8 0)) (hsize : i.size = 1) (hby : i.bytes = 1)
    {v : Value} {n : Nat} {xs : List Value} (hown : w.ownsRow 0 e 1 v n xs) (s : ByteArray) (hbytes : n + s.size ≤ 140737488355328) :
    ∃ v' w', (Builtin.append_ #[t, u] ty #[v, .string s]).run P w = .ok v' w' ∧ w'.ownsRow 0 e 1 v' (n + s.size) (xs ++ Lib.strCells s) ∧ w.grownBy w' (blockOf v) ∧
      (∀ k, blockOf v' = some k → (blockOf v = some k ∨ w.heap.size ≤ k) ∧ k < w'.heap.size) ∧ (v' = .slice none 0 0 ↔ v = .slice none 0 0 ∧ s.size = 0) := by
  have hob : v.ownBlock = blockOf v := by
    rcases hown.2 with ⟨rfl, _⟩ | ⟨g, cap, cur, rfl, _⟩ <;> rfl
  obtain ⟨v', w', hr, h1, h2, h3⟩ := Lib.run_append_own_string (P := P) w 0 t u ty e i ht hu hi hz hsize hby v n xs hown s (by unfold maxLen; omega) hbytes (Nat.zero_le _)
  rw [hob] at h2
  refine ⟨v', w', hr, h1, h2, fun k hk => ?_, h3⟩
  have hlt : k < w'.heap.size := by
    rcases h1.2 with ⟨rfl, _⟩ | ⟨g, cap, cur, rfl, _, hg, _⟩
    · simp [blockOf] at hk
    · simp only [blockOf, Option.some.injEq] at hk
      subst hk
      exact (Array.getElem?_eq_some_iff.1 hg).1
  refine ⟨?_, hlt⟩
  have hxl : xs.length = n := by simpa using hown.1
  rcases hown.2 with ⟨rfl, rfl⟩ | ⟨g, cap, cur, rfl, _, hg, hnc, hcm, hcs, htake⟩
  · by_cases hm : s.size = 0
    · rw [h3.2 ⟨rfl, hm⟩] at hk
      simp [blockOf] at hk
    · have hr2 := run_append_nil_string (P := P) w t u ty e i (.int .u8 0) ht hu hi hz s (by omega) (by omega) (by rw [hby]; omega)
      rw [hr] at hr2
      simp only [Result.ok.injEq] at hr2
      rw [hr2.1] at hk
      simp only [blockOf, Option.some.injEq] at hk
      right; omega
  · by_cases hroom : n + s.size ≤ cap
    · have hcs' : cur.size = cap := by simpa using hcs
      have hr2 := Lib.run_append_room_string (P := P) w t u ty e i ht hu hi hsize g n cap cur hg s hroom (by omega)
      rw [hr] at hr2
      simp only [Result.ok.injEq] at hr2
      rw [hr2.1] at hk
      exact .inl hk
    · have holds : ∀ j u, xs[j]? = some u → w.cell? ((⟨g, 0, none⟩ : Addr).add j) = some u := hown.cells (g := g) rfl
      have hr2 := Lib.run_append_grow_string (P := P) w t u ty e i (.int .u8 0) ht hu hi hz ⟨g, 0, none⟩ n cap xs (by rw [hsize]; simpa using hxl) holds s (by omega) (by omega) (by rw [hby]; exact growslice_fits (by omega) (by omega))
      rw [hr] at hr2
      simp only [Result.ok.injEq] at hr2
      rw [hr2.1] at hk
      simp only [blockOf, Option.some.injEq] at hk
      right; omega

theorem wp_append_str {ops : Array Oper} {rest : List Oper} {o : Oper} {a : Act} {Q : Exit → Act → World → Prop} (hgd : o.guard = none) (sl x : Operand) (t u : TypeId)
    (ho : o.op = .call { callee := .builtin .append, args := #[sl, x], argTypes := #[t, u] }) (e : TypeId) (i : TypeInfo) (ht : P.underlying t = some (.slice e)) (hu : P.underlying u = some .string) (hi : P.info? e = some i)
    (hz : i.zero = some (.int .u8 0)) (hsize : i.size = 1) (hby : i.bytes = 1) (v : Value) (n : Nat) (xs : List Value) (hs : a.eval sl = v) (hown : w.ownsRow 0 e 1 v n xs) (s : ByteArray) (hx : a.eval x = .string s) (hbytes : n + s.size ≤ 140737488355328)
    (h : ∀ v' w', w'.ownsRow 0 e 1 v' (n + s.size) (xs ++ Lib.strCells s) → w.grownBy w' (blockOf v) → (∀ k, blockOf v' = some k → (blockOf v = some k ∨ w.heap.size ≤ k) ∧ k < w'.heap.size) → (v' = .slice none 0 0 ↔ v = .slice none 0 0 ∧ s.size = 0) →
      wpList P ops Q rest (a.put o.dst v') w') : wpList P ops Q (o :: rest) a w := by
  refine wpList_plain hgd fun K hK => ?_
  obtain ⟨v', w', hr, h1, h2, h3, h4⟩ := append_str (P := P) (ty := o.type) ht hu hi hz hsize hby hown s hbytes
  unfold Oper.wp execOp
  simp only [ho, resolve, invoke, builtin, Sem.run_bind, Sem.run_pure, Result.andThen_ok, List.map_toArray, List.map_cons, List.map_nil, hs, hx, hr]
  exact hK _ _ (h v' w' h1 h2 h3 h4)

/-- copyCheck: behind it the builder holds its own address -/
theorem bld_check (L : Lays.n240 P ρ) (X : Builder.X72 P ρ) (b : Nat) (p v : Value) (w : World) (hbk : w.heap[b]? = some (.cells #[p, v] (ρ.t 72) (0, 0))) (hp : p = .pointer none ∨ p = .pointer (some ⟨b, 0, none⟩)) :
    Calls P (ρ.f 240) #[.pointer (some ⟨b, 0, none⟩)] w fun e w' => e = .returned (.tuple #[]) ∧ w'.heap[b]? = some (.cells #[.pointer (some ⟨b, 0, none⟩), v] (ρ.t 72) (0, 0)) ∧ w.grownBy w' (some b) ∧ w'.heap.size = w.heap.size := by
  rcases hp with rfl | rfl
  · refine (Any.Builder_copyCheck_fresh L X b w (by rw [Lib.cell_of_heap hbk]; rfl) (by simp [World.shape?, hbk]) (Lib.frozen_of_heap hbk 0)).mono ?_
    rintro e w' ⟨rfl, rfl⟩
    refine ⟨rfl, by simp [World.setCell, Array.getElem?_modify, hbk], ⟨rfl, rfl, rfl, by simp [World.setCell], fun k _ hk => Below.heap_setCell _ _ _ _ (fun e => hk (by simp [e]))⟩, by simp [World.setCell]⟩
  · refine (Any.Builder_copyCheck_used L X b w (by rw [Lib.cell_of_heap hbk]; rfl)).mono ?_
    rintro e w' ⟨rfl, rfl⟩
    exact ⟨rfl, hbk, ⟨rfl, rfl, rfl, Nat.le_refl _, fun _ _ _ => rfl⟩, rfl⟩

set_option maxHeartbeats 2000000 in
set_option maxRecDepth 100000 in
/-- WriteString, step by step: the builder's own block, the buffer, the builder's own block -/
theorem bld_write (L : Lays.n166 P ρ) (X : Builder.Extra P ρ) (b : Nat) (p v : Value) (n : Nat) (bs : List Value) (s : ByteArray) (w : World) (hbk : w.heap[b]? = some (.cells #[p, v] (ρ.t 72) (0, 0))) (hp : p = .pointer none ∨ p = .pointer (some ⟨b, 0, none⟩))
    (hown : w.ownsRow 0 (ρ.t 5) 1 v n bs) (hne : blockOf v ≠ some b) (hlen : n + s.size ≤ 140737488355328) :
    Calls P (ρ.f 166) #[.pointer (some ⟨b, 0, none⟩), .string s] w fun e w' => e = .returned (.tuple #[.int .i64 s.size, .nilIface]) ∧ ∃ w1 v' w2, w1.heap[b]? = some (.cells #[.pointer (some ⟨b, 0, none⟩), v] (ρ.t 72) (0, 0)) ∧ w.grownBy w1 (some b) ∧
      w1.heap.size = w.heap.size ∧ w2.ownsRow 0 (ρ.t 5) 1 v' (n + s.size) (bs ++ Lib.strCells s) ∧ w1.grownBy w2 (blockOf v) ∧ (∀ k, blockOf v' = some k → (blockOf v = some k ∨ w1.heap.size ≤ k) ∧ k < w2.heap.size) ∧
      (v' = .slice none 0 0 ↔ v = .slice none 0 0 ∧ s.size = 0) ∧ w' = w2.setCell ⟨b, 1, none⟩ v' := by
  obtain ⟨i0, hi, hz0, hz1, hz2⟩ := info_parts X.infoByte
  have mixed := L.mixed
  have t72 := L.t72; have a72 := L.a72; have z72 := L.z72; have v72 := L.v72; have u72 := run_underlying L.t72
  have t70 := L.t70; have a70 := L.a70; have z70 := L.z70; have v70 := L.v70; have u70 := run_underlying L.t70
  have t37 := L.t37; have a37 := L.a37; have z37 := L.z37; have v37 := L.v37; have u37 := run_underlying L.t37
  have t3 := L.t3; have a3 := L.a3; have z3 := L.z3; have v3 := L.v3; have u3 := run_underlying L.t3
  have t9 := L.t9; have a9 := L.a9; have z9 := L.z9; have v9 := L.v9; have u9 := run_underlying L.t9
  have t4 := L.t4; have a4 := L.a4; have z4 := L.z4; have v4 := L.v4; have u4 := run_underlying L.t4
  have t164 := L.t164; have a164 := L.a164; have z164 := L.z164; have v164 := L.v164; have u164 := run_underlying L.t164
  have t5 := X.t5; have a5 := X.a5; have z5 := X.z5; have v5 := X.v5; have u5 := run_underlying X.t5
  have e240 : ∀ args w, (callFunc (ρ.f 240) args).run P w = .ok (.enter (ρ.f 240) args) w := enters_of L.f240 (by kernel_rfl) rfl
  go_enter L.f166, Body.n166_ntmps ρ
  go_wp2_with (go_at_fn (ρ.f 240); refine (bld_check { L with } X.toX72 b p v _ hbk hp).mono ?_)
  rintro e w1 ⟨rfl, hbk1, hg1, hs1⟩
  have hown1 : w1.ownsRow 0 (ρ.t 5) 1 v n bs := by
    refine ⟨hown.1, ?_⟩
    rcases hown.2 with ho | ⟨g, cap, cur, rfl, hb, hg, rest⟩
    · exact .inl ho
    · refine .inr ⟨g, cap, cur, rfl, hb, ?_, rest⟩
      rw [hg1.block g (Array.getElem?_eq_some_iff.1 hg).1 (fun e => hne (by rw [← e]; rfl))]
      exact hg
  have c0 : w1.cell? ⟨b, 0, none⟩ = some (.pointer (some ⟨b, 0, none⟩)) := by rw [Lib.cell_of_heap hbk1]; rfl
  have c1 : w1.cell? ⟨b, 1, none⟩ = some v := by rw [Lib.cell_of_heap hbk1]; rfl
  go_wp2_with (at_builtin; refine wp_append_str rfl _ _ (ρ.t 37) (ρ.t 9) rfl (ρ.t 5) i0 L.t37 L.t9 hi hz0 hz1 hz2 _ _ _ rfl hown1 s rfl hlen ?_)
  intro v' w2 hown' hgrow hnew hnil
  have HK : Hid ((∀ k, blockOf v' = some k → (blockOf v = some k ∨ w1.heap.size ≤ k) ∧ k < w2.heap.size) ∧ (v' = .slice none 0 0 ↔ v = .slice none 0 0 ∧ s.size = 0)) := ⟨by first | exact hnew | (rw [hs1]; exact hnew), by simpa using hnil⟩
  clear hnew hnil
  have hlt : b < w1.heap.size := by
    rcases Nat.lt_or_ge b w1.heap.size with h' | h'
    · exact h'
    · simp [Array.getElem?_eq_none h'] at hbk1
  have hb2 : w2.heap[b]? = some (.cells #[.pointer (some ⟨b, 0, none⟩), v] (ρ.t 72) (0, 0)) := by
    rw [hgrow.block b hlt (fun e => hne e.symm)]
    exact hbk1
  have d0 : w2.cell? ⟨b, 0, none⟩ = some (.pointer (some ⟨b, 0, none⟩)) := by rw [Lib.cell_of_heap hb2]; rfl
  have d1 : w2.cell? ⟨b, 1, none⟩ = some v := by rw [Lib.cell_of_heap hb2]; rfl
  have f1 : w2.frozen? ⟨b, 1, none⟩ = false := Lib.frozen_of_heap hb2 1
  obtain ⟨ao, n', cap, rfl⟩ : ∃ ao n' cap, v' = .slice ao n' cap := by
    rcases hown'.2 with ⟨hv, _⟩ | ⟨g, cap, cur, hv, _⟩
    · exact ⟨_, _, _, hv⟩
    · exact ⟨_, _, _, hv⟩
  go_wp2
  go_ret2
  exact ⟨rfl, w1, _, w2, hbk1, hg1, hs1, hown', hgrow, HK.out.1, HK.out.2, rfl⟩

set_option maxHeartbeats 2000000 in
set_option maxRecDepth 100000 in
theorem bld_len (L : Lays.n170 P ρ) (b : Nat) (p : Value) (ao : Option Addr) (n cap : Nat) (w : World) (hbk : w.heap[b]? = some (.cells #[p, .slice ao n cap] (ρ.t 72) (0, 0))) :
    Calls P (ρ.f 170) #[.pointer (some ⟨b, 0, none⟩)] w fun e w' => e = .returned (.int .i64 n) ∧ w' = w := by
  have c1 : w.cell? ⟨b, 1, none⟩ = some (.slice ao n cap) := by rw [Lib.cell_of_heap hbk]; rfl
  have mixed := L.mixed
  have t72 := L.t72; have a72 := L.a72; have z72 := L.z72; have v72 := L.v72; have u72 := run_underlying L.t72
  have t70 := L.t70; have a70 := L.a70; have z70 := L.z70; have v70 := L.v70; have u70 := run_underlying L.t70
  have t37 := L.t37; have a37 := L.a37; have z37 := L.z37; have v37 := L.v37; have u37 := run_underlying L.t37
  have t3 := L.t3; have a3 := L.a3; have z3 := L.z3; have v3 := L.v3; have u3 := run_underlying L.t3
  go_enter L.f170, Body.n170_ntmps ρ
  go_wp2
  go_ret
  exact ⟨rfl, rfl⟩

set_option maxHeartbeats 2000000 in
set_option maxRecDepth 100000 in
theorem bld_string (L : Lays.n169 P ρ) (X : Builder.Extra P ρ) (b : Nat) (p v : Value) (l : List UInt8) (w : World) (hbk : w.heap[b]? = some (.cells #[p, v] (ρ.t 72) (0, 0))) (hown : w.ownsRow 0 (ρ.t 5) 1 v l.length (byteVals l)) (hnil : l = [] → v = .slice none 0 0) :
    Calls P (ρ.f 169) #[.pointer (some ⟨b, 0, none⟩)] w fun e w' => e = .returned (.string ⟨l.toArray⟩) ∧ (w' = w.drew ∨ ∃ g, blockOf v = some g ∧ w' = w.drew.freeze ⟨g, 0, none⟩ l.length) := by
  have mixed := L.mixed
  have t72 := L.t72; have a72 := L.a72; have z72 := L.z72; have v72 := L.v72; have u72 := run_underlying L.t72
  have t70 := L.t70; have a70 := L.a70; have z70 := L.z70; have v70 := L.v70; have u70 := run_underlying L.t70
  have t37 := L.t37; have a37 := L.a37; have z37 := L.z37; have v37 := L.v37; have u37 := run_underlying L.t37
  have t127 := L.t127; have a127 := L.a127; have z127 := L.z127; have v127 := L.v127; have u127 := run_underlying L.t127
  have t3 := L.t3; have a3 := L.a3; have z3 := L.z3; have v3 := L.v3; have u3 := run_underlying L.t3
  have t9 := L.t9; have a9 := L.a9; have z9 := L.z9; have v9 := L.v9; have u9 := run_underlying L.t9
  have t5 := X.t5; have a5 := X.a5; have z5 := X.z5; have v5 := X.v5; have u5 := run_underlying X.t5
  by_cases h0 : l = []
  · have hv := hnil h0
    subst h0 hv
    have hUS := Any.unsafeString_none L X
    have c1 : w.drew.cell? ⟨b, 1, none⟩ = some (.slice none 0 0) := by
      have : w.drew.heap[b]? = some (.cells #[p, .slice none 0 0] (ρ.t 72) (0, 0)) := hbk
      rw [Lib.cell_of_heap this]; rfl
    have hSD : (Builtin.unsafeSliceData_ #[(ρ.t 37)] (ρ.t 127) #[.slice none 0 0]).run P w.drew = .ok (.pointer none) w.drew := rfl
    go_enter L.f169, Body.n169_ntmps ρ
    go_wp2
    go_region_o
    all_goals (go_wp2; go_ret; exact ⟨rfl, .inl rfl⟩)
  · have hl0 : l.length ≠ 0 := by simpa using h0
    obtain ⟨g, cap, cur, rfl, hg, hnc, hcm, hcs, htake⟩ : ∃ g cap cur, v = .slice (some ⟨g, 0, none⟩) l.length cap ∧ w.heap[g]? = some (.cells cur (ρ.t 5) (0, 0)) ∧ l.length ≤ cap ∧ cap ≤ maxLen ∧ cur.size = cap * 1 ∧ cur.toList.take (l.length * 1) = byteVals l := by
      rcases hown.2 with ⟨_, hz⟩ | ⟨g, cap, cur, hv, _, r⟩
      · exact absurd hz hl0
      · exact ⟨g, cap, cur, hv, r⟩
    have c1 : w.drew.cell? ⟨b, 1, none⟩ = some (.slice (some ⟨g, 0, none⟩) l.length cap) := by
      have : w.drew.heap[b]? = some (.cells #[p, .slice (some ⟨g, 0, none⟩) l.length cap] (ρ.t 72) (0, 0)) := hbk
      rw [Lib.cell_of_heap this]; rfl
    have hSD : (Builtin.unsafeSliceData_ #[(ρ.t 37)] (ρ.t 127) #[.slice (some ⟨g, 0, none⟩) l.length cap]).run P w.drew = .ok (.pointer (some ⟨g, 0, none⟩)) w.drew :=
      Lib.run_unsafeSliceData_row _ _ _ _ _ _ (by omega)
    have hUS : (Builtin.unsafeString_ #[(ρ.t 127), (ρ.t 3)] (ρ.t 9) #[.pointer (some ⟨g, 0, none⟩), .int .i64 l.length]).run P w.drew = .ok (.string ⟨l.toArray⟩) (w.drew.freeze ⟨g, 0, none⟩ l.length) := by
      refine Lib.run_unsafeString_row w.drew (ρ.t 127) (ρ.t 3) (ρ.t 9) (ρ.t 5) L.t127 X.cellsByte g cur.size (by have hg' : w.drew.heap[g]? = some (.cells cur (ρ.t 5) (0, 0)) := hg; simp [World.shape?, hg']) l h0 (by omega) (by unfold maxLen at hcm; omega) ?_
      intro j x hx
      have := hown.cells (g := g) rfl j (.int .u8 x.toNat) (by simp [byteVals, hx])
      exact this
    go_enter L.f169, Body.n169_ntmps ρ
    go_wp2
    go_region_o
    all_goals (go_wp2; go_ret; exact ⟨rfl, .inr ⟨g, rfl, rfl⟩⟩)
end
end Go.Proofs.YtjjepjfjikefiaaB
