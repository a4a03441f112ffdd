/- The core, part 28: what a row's argument is, read as data; it reads the same wherever the blocks that stood are as they were. -/
import Derived.Test.YtjjepjfjikefiaaB27
import Derived.Deep.Slices
import Derived.ChangeOld
set_option linter.unusedVariables false
namespace Go.Proofs.YtjjepjfjikefiaaB
open Go

/-- is that a type of these data? a type by its number, or the rest of a struct's fields from an offset on -/
def tyB (P : Program) : Ty → TypeId ⊕ (List Field × Nat) → Bool
  | .unit, _ => false
  | .int k, .inl t => match P.underlying t with | some (.int k') => decide (k' = k) | _ => false
  | .bool, .inl t => match P.underlying t with | some .bool => true | _ => false
  | .str, .inl t => match P.underlying t with | some .string => true | _ => false
  | .sl e, .inl t => match P.underlying t with | some (.slice te) => Nat.beq (P.cellsOf te) e.sz && Nat.blt 0 e.sz && tyB P e (.inl te) | _ => false
  | .last a, .inl t => match P.underlying t with
    | some (.struct fs) => (match fs.toList with | [f] => Nat.beq (P.cellsOf t) a.sz && Nat.beq f.offset 0 && Nat.beq (P.cellsOf f.type) a.sz && tyB P a (.inl f.type) | _ => false)
    | _ => false
  | .prod a b, .inl t => match P.underlying t with
    | some (.struct fs) => (match fs.toList with | f :: rest => Nat.beq (P.cellsOf t) (a.sz + b.sz) && Nat.beq f.offset 0 && Nat.beq (P.cellsOf f.type) a.sz && tyB P a (.inl f.type) && tyB P b (.inr (rest, a.sz)) | _ => false)
    | _ => false
  | .last a, .inr (fs, off) => match fs with | [f] => Nat.beq f.offset off && Nat.beq (P.cellsOf f.type) a.sz && tyB P a (.inl f.type) | _ => false
  | .prod a b, .inr (fs, off) => match fs with | f :: rest => Nat.beq f.offset off && Nat.beq (P.cellsOf f.type) a.sz && tyB P a (.inl f.type) && tyB P b (.inr (rest, off + a.sz)) | _ => false
  | _, .inr _ => false

/-- data as they come in -/
def Ty.wf : (t : Ty) → t.den → Prop
  | .unit, _ => True
  | .int k, n => (Lit.int k n).wf = true
  | .bool, _ => True
  | .str, s => List.length (s : List UInt8) ≤ maxLen
  | .sl t, xs => xs.length ≤ maxLen ∧ ∀ x ∈ xs, t.wf x
  | .last t, x => t.wf x
  | .prod a b, x => a.wf x.1 ∧ b.wf x.2

section
variable {H : Type} {enc : TypeId × Value → H} {P : Program} {W : World}

/-- where the argument is read again -/
def Again (W W' : World) : Prop := ∀ k, k < W.heap.size → W'.heap[k]? = W.heap[k]?

theorem mapM_mono {α β : Type} {f g : α → Option β} : ∀ {l : List α} {r : List β}, l.mapM f = some r → (∀ x ∈ l, ∀ y, f x = some y → g x = some y) → l.mapM g = some r
  | [], r, h, _ => by simpa using h
  | a :: l, r, h, hg => by
    simp only [List.mapM_cons, Option.bind_eq_bind, Option.pure_def] at h ⊢
    obtain ⟨y, hy, h⟩ := Option.bind_eq_some_iff.1 h
    obtain ⟨ys, hys, h⟩ := Option.bind_eq_some_iff.1 h
    rw [hg a (by simp) y hy, Option.bind_some, mapM_mono hys fun x hx => hg x (by simp [hx]), Option.bind_some]
    exact h

theorem cells?_again {W W' : World} (h : Again W W') {a : Addr} {n : Nat} {cs : List Value} (hc : W.cells? 0 a n = some cs) : W'.cells? 0 a n = some cs := by
  unfold World.cells? at hc ⊢
  simp only [Nat.zero_le, if_true] at hc ⊢
  refine mapM_mono hc fun i hi y hy => ?_
  rw [← hy]
  refine World.cell?_of_block (h _ ?_)
  have : W.heap[(a.add i).block]? ≠ none := fun hn => by simp [World.cell?, hn] at hy
  cases hb : W.heap[(a.add i).block]? with
  | none => exact absurd hb this
  | some o => exact (Array.getElem?_eq_some_iff.1 hb).1

def Agn (enc : TypeId × Value → H) (P : Program) (W W' : World) : TypeId ⊕ (List Field × Nat) → Prop
  | .inl t => ∀ fuel cs x, DataW.trod enc P W 0 (fun _ => true) true fuel t cs = some x → DataW.trod enc P W' 0 (fun b => decide (b < W.heap.size)) true fuel t cs = some x
  | .inr (fs, _) => ∀ f ∈ fs, ∀ fuel cs x, DataW.trod enc P W 0 (fun _ => true) true fuel f.type cs = some x → DataW.trod enc P W' 0 (fun b => decide (b < W.heap.size)) true fuel f.type cs = some x

theorem struct_again {W W' : World} {t : TypeId} {fs : Array Field} (hu : P.underlying t = some (.struct fs)) (h : ∀ f ∈ fs.toList, Agn enc P W W' (.inl f.type)) : Agn enc P W W' (.inl t) := by
  intro fuel cs x hx
  cases fuel with
  | zero => simp [DataW.trod] at hx
  | succ n =>
    unfold DataW.trod at hx ⊢
    simp only [hu] at hx ⊢
    split at hx
    · rename_i hl
      rw [if_pos hl]
      simp only [Option.map_eq_some_iff] at hx ⊢
      obtain ⟨xs, hxs, he⟩ := hx
      exact ⟨xs, mapM_mono hxs fun f hf y hy => h f hf _ _ _ hy, he⟩
    · cases hx

theorem lit_again {W W' : World} {t : TypeId} (hu : P.underlying t = some .bool ∨ P.underlying t = some .string ∨ ∃ k, P.underlying t = some (.int k)) : Agn enc P W W' (.inl t) := by
  intro fuel cs x hx
  cases fuel with
  | zero => simp [DataW.trod] at hx
  | succ n =>
    unfold DataW.trod at hx ⊢
    rcases hu with hu | hu | ⟨k, hu⟩ <;> rw [hu] at hx ⊢ <;> split at hx <;> simp_all

theorem slice_again {W W' : World} (hw : Again W W') {t e : TypeId} (hu : P.underlying t = some (.slice e)) (hpos : 0 < P.cellsOf e) (h : Agn enc P W W' (.inl e)) : Agn enc P W W' (.inl t) := by
  intro fuel cs x hx
  cases fuel with
  | zero => simp [DataW.trod] at hx
  | succ n =>
    unfold DataW.trod at hx ⊢
    rw [hu] at hx ⊢
    split at hx
    case h_8 e' a len cap heq =>
      simp only [Option.some.injEq, TypeDesc.slice.injEq] at heq
      subst heq
      have hel : ∀ i y, (W.cells? 0 (a.add (i * P.cellsOf e)) (P.cellsOf e)).bind (DataW.trod enc P W 0 (fun _ => true) true n e) = some y →
          (W'.cells? 0 (a.add (i * P.cellsOf e)) (P.cellsOf e)).bind (DataW.trod enc P W' 0 (fun b => decide (b < W.heap.size)) true n e) = some y := by
        intro i y hy
        obtain ⟨c, hc, hy⟩ := Option.bind_eq_some_iff.1 hy
        rw [cells?_again hw hc, Option.bind_some]
        exact h _ _ _ hy
      simp only at hx ⊢
      split at hx
      · rename_i hcond
        rw [if_pos hcond]
        obtain ⟨elems, hel1, hx⟩ := Option.bind_eq_some_iff.1 hx
        rw [mapM_mono hel1 fun i _ y hy => hel i y hy, Option.bind_some]
        simp only [if_true, Option.map_eq_some_iff] at hx ⊢
        obtain ⟨rest, hr, hx⟩ := hx
        refine ⟨rest, ?_, hx⟩
        by_cases hlt : a.block < W.heap.size
        · simp only [hlt, decide_true, if_true]
          exact mapM_mono hr fun i _ y hy => hel _ y hy
        · simp only [hlt, decide_false, Bool.false_eq_true, if_false]
          cases hcl : cap - len with
          | zero => rw [hcl] at hr; simpa using hr
          | succ k =>
            rw [hcl, List.range_succ_eq_map] at hr
            simp only [List.mapM_cons, Option.bind_eq_bind] at hr
            obtain ⟨y, hy, _⟩ := Option.bind_eq_some_iff.1 hr
            obtain ⟨c, hc, _⟩ := Option.bind_eq_some_iff.1 hy
            have hb := World.cells?_block hc hpos
            have he : (a.add ((len + 0) * P.cellsOf e)).block = a.block := by unfold Addr.add; split <;> rfl
            rw [he] at hb
            exact absurd hb hlt
      · cases hx
    all_goals simp_all

theorem trod_again {W W' : World} (hw : Again W W') : ∀ (ty : Ty) (m : TypeId ⊕ (List Field × Nat)), tyB P ty m = true → Agn enc P W W' m
  | .unit, m, h => by simp [tyB] at h
  | .int k, .inl t, h => by
    unfold tyB at h
    split at h
    · rename_i k' hu; exact lit_again (.inr (.inr ⟨k', hu⟩))
    · cases h
  | .bool, .inl t, h => by
    unfold tyB at h
    split at h
    · rename_i hu; exact lit_again (.inl hu)
    · cases h
  | .str, .inl t, h => by
    unfold tyB at h
    split at h
    · rename_i hu; exact lit_again (.inr (.inl hu))
    · cases h
  | .sl e, .inl t, h => by
    unfold tyB at h
    split at h
    · rename_i te hu
      simp only [Bool.and_eq_true] at h
      have hc := Nat.eq_of_beq_eq_true h.1.1
      have hp := Nat.le_of_ble_eq_true h.1.2
      exact slice_again hw hu (by omega) (trod_again hw e _ h.2)
    · cases h
  | .last a, .inl t, h => by
    unfold tyB at h
    split at h
    · rename_i fs hu
      split at h
      · rename_i f hfs
        simp only [Bool.and_eq_true] at h
        refine struct_again hu fun g hg => ?_
        rw [hfs] at hg
        simp only [List.mem_singleton] at hg
        subst hg
        exact trod_again hw a _ h.2
      · cases h
    · cases h
  | .prod a b, .inl t, h => by
    unfold tyB at h
    split at h
    · rename_i fs hu
      split at h
      · rename_i f rest hfs
        simp only [Bool.and_eq_true] at h
        have hb := trod_again hw b _ h.2
        refine struct_again hu fun g hg => ?_
        rw [hfs] at hg
        rcases List.mem_cons.1 hg with rfl | hg
        · exact trod_again hw a _ h.1.2
        · exact hb g hg
      · cases h
    · cases h
  | .last a, .inr (fs, off), h => by
    unfold tyB at h
    split at h
    · rename_i f
      simp only [Bool.and_eq_true] at h
      intro g hg
      simp only [List.mem_singleton] at hg
      subst hg
      exact trod_again hw a _ h.2
    · cases h
  | .prod a b, .inr (fs, off), h => by
    unfold tyB at h
    split at h
    · rename_i f rest
      simp only [Bool.and_eq_true] at h
      have hb := trod_again hw b _ h.2
      intro g hg
      rcases List.mem_cons.1 hg with rfl | hg
      · exact trod_again hw a _ h.1.2
      · exact hb g hg
    · cases h
  | .int _, .inr _, h => by simp [tyB] at h
  | .bool, .inr _, h => by simp [tyB] at h
  | .str, .inr _, h => by simp [tyB] at h
  | .sl _, .inr _, h => by simp [tyB] at h

/-! ### The argument as data -/
def Old (W : World) (b : Nat) : Prop := b < W.heap.size

def Rd (enc : TypeId × Value → H) (P : Program) (W : World) (ty : Ty) : TypeId ⊕ (List Field × Nat) → Prop
  | .inl t => ∀ fuel cs x, DataW.trod enc P W 0 (fun _ => true) true fuel t cs = some x → ∃ y, Reads (Old W) W ty y cs ∧ ty.wf y
  | .inr (fs, off) => ∀ fuel (cs : List Value) xs, fs.mapM (fun f => DataW.trod enc P W 0 (fun _ => true) true fuel f.type ((cs.drop f.offset).take (P.cellsOf f.type))) = some xs → cs.length = off + ty.sz →
      ∃ y, Reads (Old W) W ty y (cs.drop off) ∧ ty.wf y

theorem add_add (a : Addr) (x y : Nat) : (a.add x).add y = a.add (x + y) := by
  unfold Addr.add
  by_cases hx : x = 0 <;> by_cases hy : y = 0 <;> simp [hx, hy, Nat.add_assoc]

theorem rows_of {ty : Ty} {a : Addr} : ∀ (len : Nat), (∀ i, i < len → ∃ cs y, W.cells? 0 (a.add (i * ty.sz)) ty.sz = some cs ∧ Reads (Old W) W ty y cs ∧ ty.wf y) →
    ∃ xs cells, xs.length = len ∧ RowCells (Reads (Old W) W ty) xs cells ∧ (∀ j v, cells[j]? = some v → W.cell? (a.add j) = some v) ∧ ∀ x ∈ xs, ty.wf x
  | 0, _ => ⟨[], [], rfl, rfl, fun j v h => by simp at h, fun x h => by simp at h⟩
  | n + 1, h => by
    obtain ⟨xs, cells, h1, h2, h3, h4⟩ := rows_of n fun i hi => h i (Nat.lt_succ_of_lt hi)
    obtain ⟨cs, y, g1, g2, g3⟩ := h n (Nat.lt_succ_self n)
    obtain ⟨_, gl, gc⟩ := World.cells?_some g1
    have hl : cells.length = n * ty.sz := by rw [← h1]; exact h2.length ty.sz fun x c => Reads.length
    refine ⟨xs ++ [y], cells ++ cs, by simp [h1], h2.append ⟨cs, [], by simp, g2, rfl⟩, fun j v hj => ?_, fun x hx => ?_⟩
    · rcases Nat.lt_or_ge j cells.length with hlt | hge
      · rw [List.getElem?_append_left hlt] at hj; exact h3 j v hj
      · rw [List.getElem?_append_right hge] at hj
        have hjl : j - cells.length < ty.sz := by rw [← gl]; exact (List.getElem?_eq_some_iff.1 hj).1
        have := gc _ hjl
        rw [add_add, hj] at this
        rw [← this]
        congr 2
        omega
    · rcases List.mem_append.1 hx with hx | hx
      · exact h4 x hx
      · simp only [List.mem_singleton] at hx; subst hx; exact g3

theorem trod_reads : ∀ (ty : Ty) (m : TypeId ⊕ (List Field × Nat)), tyB P ty m = true → Rd enc P W ty m
  | .unit, m, h => by simp [tyB] at h
  | .int k, .inl t, h => by
    unfold tyB at h
    split at h
    · rename_i k' hu
      simp only [decide_eq_true_eq] at h
      subst h
      intro fuel cs x hx
      cases fuel with
      | zero => simp [DataW.trod] at hx
      | succ n =>
        unfold DataW.trod at hx
        rw [hu] at hx
        split at hx
        case h_2 k2 k3 q heq =>
          simp only [Option.some.injEq, TypeDesc.int.injEq] at heq
          subst heq
          split at hx
          · rename_i hc
            obtain ⟨rfl, hw⟩ := hc
            exact ⟨q, (rfl : [Value.int _ q] = _), hw⟩
          · cases hx
        all_goals simp_all
    · cases h
  | .bool, .inl t, h => by
    unfold tyB at h
    split at h
    · rename_i hu
      intro fuel cs x hx
      cases fuel with
      | zero => simp [DataW.trod] at hx
      | succ n =>
        unfold DataW.trod at hx
        rw [hu] at hx
        split at hx
        case h_1 q heq => exact ⟨q, (rfl : [Value.bool q] = _), trivial⟩
        all_goals simp_all
    · cases h
  | .str, .inl t, h => by
    unfold tyB at h
    split at h
    · rename_i hu
      intro fuel cs x hx
      cases fuel with
      | zero => simp [DataW.trod] at hx
      | succ n =>
        unfold DataW.trod at hx
        rw [hu] at hx
        split at hx
        case h_4 q heq =>
          split at hx
          · rename_i hc; exact ⟨q.data.toList, ⟨q, rfl, rfl⟩, by simpa [Ty.wf] using hc⟩
          · cases hx
        all_goals simp_all
    · cases h
  | .sl e, .inl t, h => by
    unfold tyB at h
    split at h
    · rename_i te hu
      simp only [Bool.and_eq_true] at h
      have hc := Nat.eq_of_beq_eq_true h.1.1
      have hp := Nat.le_of_ble_eq_true h.1.2
      have ih := trod_reads e _ h.2
      intro fuel cs x hx
      rcases Go.Deep.open_slice hu hx with ⟨rfl, _⟩ | ⟨a, len, cap, m, n, D, Pl, rfl, _, hlc, hcm, hm, _, hel⟩
      · exact ⟨[], ⟨none, 0, rfl, Nat.le_refl _, fun hn => absurd rfl hn⟩, by simp, fun x h => by simp at h⟩
      · simp only [if_true] at hm
        rw [hm] at hel
        rw [hc] at hel
        obtain ⟨xs, cells, h1, h2, h3, h4⟩ := rows_of (W := W) (ty := e) (a := a) len fun i hi => by
          obtain ⟨cs', g1, g2⟩ := hel i (by omega)
          obtain ⟨y, g3, g4⟩ := ih _ _ _ g2
          exact ⟨cs', y, g1, g3, g4⟩
        subst h1
        refine ⟨xs, ⟨some a, cap, rfl, hlc, fun hne => ?_⟩, by show xs.length ≤ maxLen; omega, h4⟩
        have hlen : 0 < xs.length := List.length_pos_iff.2 hne
        have hcl : cells.length = xs.length * e.sz := h2.length e.sz fun x c => Reads.length
        have h0 : 0 < cells.length := by rw [hcl]; exact Nat.mul_pos hlen hp
        have hc0 := h3 0 cells[0] (List.getElem?_eq_getElem h0)
        have hadd : a.add 0 = a := by simp [Addr.add]
        rw [hadd] at hc0
        obtain ⟨b, off, spot⟩ := a
        have hspot : spot = none := by
          unfold World.cell? at hc0
          split at hc0
          · cases spot with
            | none => rfl
            | some s => simp at hc0
          · cases hc0
        subst hspot
        refine ⟨b, off, cells, rfl, ?_, h2, fun j v hj => ?_⟩
        · unfold World.cell? at hc0
          split at hc0
          · rename_i hb; exact (Array.getElem?_eq_some_iff.1 hb).1
          · cases hc0
        · have := h3 j v hj
          rwa [add_plain] at this
    · cases h
  | .last a, .inl t, h => by
    unfold tyB at h
    split at h
    · rename_i fs hu
      split at h
      · rename_i f hfs
        simp only [Bool.and_eq_true] at h
        obtain ⟨⟨⟨q1, q2⟩, q3⟩, q4⟩ := h
        have q1 := Nat.eq_of_beq_eq_true q1
        have q2 := Nat.eq_of_beq_eq_true q2
        have q3 := Nat.eq_of_beq_eq_true q3
        intro fuel cs x hx
        cases fuel with
        | zero => simp [DataW.trod] at hx
        | succ n =>
          unfold DataW.trod at hx
          simp only [hu] at hx
          split at hx
          · rename_i hl
            rw [hfs] at hx
            simp only [List.mapM_cons, List.mapM_nil, Option.bind_eq_bind, Option.map_eq_some_iff] at hx
            obtain ⟨xs, hxs, _⟩ := hx
            obtain ⟨x1, hx1, _⟩ := Option.bind_eq_some_iff.1 hxs
            rw [q2, q3, List.drop_zero, List.take_of_length_le (by omega)] at hx1
            exact trod_reads a _ q4 _ _ _ hx1
          · cases hx
      · cases h
    · cases h
  | .prod a b, .inl t, h => by
    unfold tyB at h
    split at h
    · rename_i fs hu
      split at h
      · rename_i f rest hfs
        simp only [Bool.and_eq_true] at h
        obtain ⟨⟨⟨⟨q1, q2⟩, q3⟩, q4⟩, q5⟩ := h
        have q1 := Nat.eq_of_beq_eq_true q1
        have q2 := Nat.eq_of_beq_eq_true q2
        have q3 := Nat.eq_of_beq_eq_true q3
        have ihb := trod_reads b _ q5
        intro fuel cs x hx
        cases fuel with
        | zero => simp [DataW.trod] at hx
        | succ n =>
          unfold DataW.trod at hx
          simp only [hu] at hx
          split at hx
          · rename_i hl
            rw [hfs] at hx
            simp only [List.mapM_cons, Option.bind_eq_bind, Option.map_eq_some_iff] at hx
            obtain ⟨xs, hxs, _⟩ := hx
            obtain ⟨x1, hx1, hxs⟩ := Option.bind_eq_some_iff.1 hxs
            obtain ⟨x2, hx2, _⟩ := Option.bind_eq_some_iff.1 hxs
            rw [q2, q3, List.drop_zero] at hx1
            obtain ⟨y1, r1, w1⟩ := trod_reads a _ q4 _ _ _ hx1
            obtain ⟨y2, r2, w2⟩ := ihb _ cs _ hx2 (by omega)
            exact ⟨(y1, y2), ⟨_, _, (List.take_append_drop a.sz cs).symm, r1, r2⟩, w1, w2⟩
          · cases hx
      · cases h
    · cases h
  | .last a, .inr (fs, off), h => by
    unfold tyB at h
    split at h
    · rename_i f
      simp only [Bool.and_eq_true] at h
      obtain ⟨⟨q2, q3⟩, q4⟩ := h
      have q2 := Nat.eq_of_beq_eq_true q2
      have q3 := Nat.eq_of_beq_eq_true q3
      intro fuel cs xs hxs hl
      simp only [List.mapM_cons, List.mapM_nil, Option.bind_eq_bind] at hxs
      obtain ⟨x1, hx1, _⟩ := Option.bind_eq_some_iff.1 hxs
      rw [q2, q3, List.take_of_length_le (by rw [List.length_drop, hl]; simp only [Ty.sz]; omega)] at hx1
      exact trod_reads a _ q4 _ _ _ hx1
    · cases h
  | .prod a b, .inr (fs, off), h => by
    unfold tyB at h
    split at h
    · rename_i f rest
      simp only [Bool.and_eq_true] at h
      obtain ⟨⟨⟨q2, q3⟩, q4⟩, q5⟩ := h
      have q2 := Nat.eq_of_beq_eq_true q2
      have q3 := Nat.eq_of_beq_eq_true q3
      have ihb := trod_reads b _ q5
      intro fuel cs xs hxs hl
      simp only [List.mapM_cons, Option.bind_eq_bind] at hxs
      obtain ⟨x1, hx1, hxs⟩ := Option.bind_eq_some_iff.1 hxs
      obtain ⟨x2, hx2, _⟩ := Option.bind_eq_some_iff.1 hxs
      rw [q2, q3] at hx1
      obtain ⟨y1, r1, w1⟩ := trod_reads a _ q4 _ _ _ hx1
      obtain ⟨y2, r2, w2⟩ := ihb _ cs _ hx2 (by rw [hl]; simp only [Ty.sz]; omega)
      rw [← List.drop_drop] at r2
      exact ⟨(y1, y2), ⟨_, _, (List.take_append_drop a.sz (cs.drop off)).symm, r1, r2⟩, w1, w2⟩
    · cases h
  | .int _, .inr _, h => by simp [tyB] at h
  | .bool, .inr _, h => by simp [tyB] at h
  | .str, .inr _, h => by simp [tyB] at h
  | .sl _, .inr _, h => by simp [tyB] at h
end
end Go.Proofs.YtjjepjfjikefiaaB
