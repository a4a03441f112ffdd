/- The core, part 36: strings.Split, Cut, Index, IndexByte, told from data to data. -/
import Derived.Test.YtfjnckjkpkhbdaaGreatDoorB35
import Derived.Shelf.Strings.Split
import Derived.Shelf.Strings.Cut
import Derived.Shelf.Strings.Search1
import Derived.Shelf.Strings.Search3
import Derived.Lib.SplitLaws
import Derived.Shelf.Vars
import Derived.Shelf.Small.Strs
set_option linter.unusedVariables false
namespace Go.Proofs.YtfjnckjkpkhbdaaGreatDoorB
open Go Go.Shelf Go.RowKit

abbrev slotE (t : Nat) : Slot := ⟨t, false, [.err]⟩
def splitI : Tpl.T ⟨[slotD 0 .str, slotD 1 .str], []⟩ → Option (Tpl.T ⟨[slotD 0 (.sl .str)], []⟩) := fun x =>
  bif decide ((x.1 : List UInt8).length < 4294967281) && decide (1 ≤ (x.2.1 : List UInt8).length) then some (Lib.split x.1 x.2.1, ()) else none
def cutI : Tpl.T ⟨[slotD 0 .str, slotD 1 .str], []⟩ → Option (Tpl.T ⟨[slotD 0 .str, slotD 1 .str, slotD 2 .bool], []⟩) := fun x =>
  bif decide ((x.1 : List UInt8).length < 4294967281) then some ((Lib.cut x.1 x.2.1).1, (Lib.cut x.1 x.2.1).2.1, (Lib.cut x.1 x.2.1).2.2, ()) else none
def indexI : Tpl.T ⟨[slotD 0 .str, slotD 1 .str], []⟩ → Option (Tpl.T ⟨[slotD 0 (.int .i64)], []⟩) := fun x =>
  bif decide ((x.1 : List UInt8).length < 4294967281) then some (Lib.index x.1 x.2.1, ()) else none
def indexByteI : Tpl.T ⟨[slotD 0 .str, slotD 1 (.int .u8)], []⟩ → Option (Tpl.T ⟨[slotD 0 (.int .i64)], []⟩) := fun x =>
  bif decide (0 ≤ (x.2.1 : Int)) && decide ((x.2.1 : Int) < 256) then some (Lib.indexByte x.1 (UInt8.ofNat (x.2.1 : Int).toNat), ()) else none
section
variable {P : Program} {ρ : Ren}

theorem size_mk (l : List UInt8) : (⟨l.toArray⟩ : ByteArray).size = l.length := by
  show l.toArray.size = _
  simp

theorem strs_rows {S : Nat → Prop} {w : World} : ∀ B : List ByteArray, RowCells (Reads S w .str) (B.map (·.data.toList)) (B.map Value.string)
  | [] => rfl
  | b :: B => ⟨[.string b], B.map Value.string, rfl, ⟨b, rfl, rfl⟩, strs_rows B⟩

theorem con_split {f : FuncId} (henter : ∀ args w, (callFunc f args).run P w = .ok (.enter f args) w) (L : Lays.n146 P ρ) (hi9 : (P.info? (ρ.t 9)).map (fun i => (i.zero, i.size, i.bytes)) = some (some (.string ByteArray.empty), 1, 16)) (hf : ρ.f 146 = f)
    (hQ : ∀ (tb : Nat → Option Obj) (w : World), Tabs tb → (∀ j o, tb j = some o → w.heap[j]? = some o) → ∃ m, w.cell? ⟨ρ.g 1, 0, none⟩ = some (.int .i64 m)) :
    Con P f 2 1 0 ⟨[slotD 0 .str, slotD 1 .str], []⟩ ⟨[slotD 0 (.sl .str)], []⟩ splitI := by
  subst hf
  refine con_flat henter fun w tb vals S x y hk ht hw hS henv hy => ?_
  rw [arr2 hk, arg_str (henv 0), arg_str (henv 1)]
  unfold splitI at hy
  have hc := (cond_some hy).1
  replace hy := (cond_some hy).2
  simp only [Bool.and_eq_true, decide_eq_true_eq] at hc
  simp only [Option.some.injEq] at hy
  subst hy
  obtain ⟨s, sep, ⟨⟩⟩ := x
  obtain ⟨m, hm⟩ := hQ tb w ht hw
  have hsep : 1 ≤ (⟨sep.toArray⟩ : ByteArray).size := by rw [size_mk]; exact hc.2
  have h := Any.strings_Split L hi9 ⟨s.toArray⟩ ⟨sep.toArray⟩ m w (by rw [size_mk]; exact hc.1) hm hsep
  have hlen := Lib.splitB_all ⟨sep.toArray⟩ hsep 0 _ ⟨s.toArray⟩ rfl
  have hdat := Lib.splitB_data ⟨sep.toArray⟩ 0 (Lib.countB ⟨s.toArray⟩ ⟨sep.toArray⟩) ⟨s.toArray⟩
  generalize hB : Lib.splitB ⟨sep.toArray⟩ 0 (Lib.countB ⟨s.toArray⟩ ⟨sep.toArray⟩) ⟨s.toArray⟩ = B at h hlen hdat
  have hB2 : Lib.split s sep = B.map (·.data.toList) := by rw [hdat]; simp [Lib.split, Lib.countB]
  refine h.mono fun e w' ⟨he, hw'⟩ => ?_
  subst hw'
  rw [← hlen] at he
  refine ⟨#[.slice (some ⟨w.heap.size, 0, none⟩) B.length B.length], rfl, he, (Below.refl _ _).alloc (Nat.le_refl _) _, fun b => b = w.heap.size, fun b hb => ⟨.inr (by omega), by subst hb; simp⟩, ?_⟩
  refine env1 (t := .sl .str) (x := Lib.split s sep) fun _ => ?_
  show Reads _ _ (.sl .str) (Lib.split s sep) [_]
  rw [hB2]
  refine ⟨_, _, by rw [List.length_map], by rw [List.length_map]; exact Nat.le_refl _, fun _ => ⟨w.heap.size, 0, B.map Value.string, rfl, rfl, ?_, fun j v hj => ?_⟩⟩
  · exact strs_rows B
  · rw [Nat.zero_add]
    simp only [World.cell?, heap_alloc_new]
    simpa using hj

theorem con_index {f : FuncId} (henter : ∀ args w, (callFunc f args).run P w = .ok (.enter f args) w) (L : Lays.n143 P ρ) (hf : ρ.f 143 = f)
    (hQ : ∀ (tb : Nat → Option Obj) (w : World), Tabs tb → (∀ j o, tb j = some o → w.heap[j]? = some o) → ∃ m, w.cell? ⟨ρ.g 1, 0, none⟩ = some (.int .i64 m)) :
    Con P f 2 1 0 ⟨[slotD 0 .str, slotD 1 .str], []⟩ ⟨[slotD 0 (.int .i64)], []⟩ indexI := by
  subst hf
  refine con_flat henter fun w tb vals S x y hk ht hw hS henv hy => ?_
  rw [arr2 hk, arg_str (henv 0), arg_str (henv 1)]
  unfold indexI at hy
  have hc := (cond_some hy).1
  replace hy := (cond_some hy).2
  simp only [decide_eq_true_eq] at hc
  simp only [Option.some.injEq] at hy
  subst hy
  obtain ⟨s, sub, ⟨⟩⟩ := x
  obtain ⟨m, hm⟩ := hQ tb w ht hw
  refine (Any.strings_Index L ⟨s.toArray⟩ ⟨sub.toArray⟩ m w (by rw [size_mk]; exact hc) hm).mono fun e w' ⟨he, hw'⟩ => ?_
  subst hw'
  exact ⟨#[.int .i64 (Lib.index s sub)], rfl, he, Below.refl _ _, fun _ => False, fun _ h => h.elim, env1 (t := .int .i64) (x := Lib.index s sub) (int_rel _ _)⟩

theorem con_indexByte {f : FuncId} (henter : ∀ args w, (callFunc f args).run P w = .ok (.enter f args) w) (L : Lays.n137 P ρ) (hf : ρ.f 137 = f) :
    Con P f 2 1 0 ⟨[slotD 0 .str, slotD 1 (.int .u8)], []⟩ ⟨[slotD 0 (.int .i64)], []⟩ indexByteI := by
  subst hf
  refine con_flat henter fun w tb vals S x y hk ht hw hS henv hy => ?_
  rw [arr2 hk, arg_str (henv 0), arg_int (henv 1)]
  unfold indexByteI at hy
  replace hy := (cond_some hy).2
  simp only [Option.some.injEq] at hy
  subst hy
  obtain ⟨s, c, ⟨⟩⟩ := x
  refine (Any.strings_IndexByte L ⟨s.toArray⟩ c w).mono fun e w' ⟨he, hw'⟩ => ?_
  subst hw'
  exact ⟨#[.int .i64 (Lib.indexByte s (UInt8.ofNat (Int.toNat c)))], rfl, he, Below.refl _ _, fun _ => False, fun _ h => h.elim, env1 (t := .int .i64) (x := Lib.indexByte s (UInt8.ofNat (Int.toNat c))) (int_rel _ _)⟩

theorem con_cut {f : FuncId} (henter : ∀ args w, (callFunc f args).run P w = .ok (.enter f args) w) (L : Lays.n145 P ρ) (hf : ρ.f 145 = f)
    (hQ : ∀ (tb : Nat → Option Obj) (w : World), Tabs tb → (∀ j o, tb j = some o → w.heap[j]? = some o) → ∃ m, w.cell? ⟨ρ.g 1, 0, none⟩ = some (.int .i64 m)) :
    Con P f 2 3 0 ⟨[slotD 0 .str, slotD 1 .str], []⟩ ⟨[slotD 0 .str, slotD 1 .str, slotD 2 .bool], []⟩ cutI := by
  subst hf
  refine con_flat henter fun w tb vals S x y hk ht hw hS henv hy => ?_
  rw [arr2 hk, arg_str (henv 0), arg_str (henv 1)]
  unfold cutI at hy
  have hc := (cond_some hy).1
  replace hy := (cond_some hy).2
  simp only [decide_eq_true_eq] at hc
  simp only [Option.some.injEq] at hy
  subst hy
  obtain ⟨s, sep, ⟨⟩⟩ := x
  obtain ⟨m, hm⟩ := hQ tb w ht hw
  refine (Any.strings_Cut L ⟨s.toArray⟩ ⟨sep.toArray⟩ m w (by rw [size_mk]; exact hc) hm).mono fun e w' ⟨he, n, hw'⟩ => ?_
  subst hw'
  have hb : Below w.heap.size w (w.drewN n) := ⟨rfl, rfl, rfl, Nat.le_refl _, fun _ _ => rfl⟩
  refine ⟨#[.string ⟨(Lib.cut s sep).1.toArray⟩, .string ⟨(Lib.cut s sep).2.1.toArray⟩, .bool (Lib.cut s sep).2.2], rfl, he, hb, fun _ => False, fun _ h => h.elim, fun t => ?_⟩
  match t with
  | 0 => exact str_rel _ _ rfl
  | 1 => exact str_rel _ _ rfl
  | 2 => exact bool_rel _
  | t + 3 => exact fun hk => by cases hk

/-- a variable of an interface's type holds nothing or something -/
theorem cell_iface {w : World} {g : Nat} {t : TypeId} {zero : Array Value}
    (h : w.ShapedOpen P) (hg : g < P.globals.size) (h0 : ((begin P (fun _ _ => 0) default).world.heap[g]?).bind Obj.row? = some (zero, t)) (hz : zero.size = 1)
    (hb : P.buildable t = true) (hc : P.cellTypes P.depth t = some [t]) (hu : ∃ ms, P.underlying t = some (.interface ms)) :
    ∃ ev, w.cell? ⟨g, 0, none⟩ = some ev ∧ (ev = .nilIface ∨ ∃ te pe, ev = .iface te pe) := by
  obtain ⟨cs, hh, hs, hr⟩ := h.1 g zero t hg h0
  obtain ⟨ts, hts, _, hall⟩ := hr hb
  obtain ⟨ms, hu⟩ := hu
  rw [hc] at hts
  cases hts
  have h1 : 0 < cs.size := by omega
  obtain ⟨u, hu', hok⟩ := hall 0 cs[0] (by simp [h1])
  have : u = t := by simpa using hu'.symm
  subst this
  have hcell : w.cell? ⟨g, 0, none⟩ = some cs[0] := by simp [World.cell?, hh, h1]
  refine ⟨_, hcell, ?_⟩
  unfold Cell.ok at hok
  rw [hu] at hok
  cases hv : cs[0] <;> rw [hv] at hok <;> simp at hok
  all_goals first | exact .inl rfl | exact .inr ⟨_, _, rfl⟩
end
end Go.Proofs.YtfjnckjkpkhbdaaGreatDoorB
