/- The core, part 19: loops as least fixed points; cuts by name. -/
import Derived.Test.YtjjepjfjikefiaaB18
import Init.Internal.Order
set_option linter.unusedVariables false
namespace Go.Proofs.YtjjepjfjikefiaaB
open Go

/-! ### Least fixed points of functions that may give nothing -/
section
variable {α β γ : Type}
def OLe (f g : α → Option β) : Prop := ∀ x y, f x = some y → g x = some y
def OMono (F : (α → Option β) → α → Option β) : Prop := ∀ J J', OLe J J' → OLe (F J) (F J')

open Lean.Order in
theorem ole_iff {f g : α → Option β} : OLe f g ↔ f ⊑ g := by
  constructor
  · intro h x
    show PartialOrder.rel (f x) (g x)
    cases hf : f x with
    | none => exact FlatOrder.rel.bot
    | some y => rw [h x y hf]
  · intro h x y hf
    have := h x
    rw [hf] at this
    generalize hg : g x = z at this
    rcases this with _ | _
    rfl

open Lean.Order in
theorem mono_of {F : (α → Option β) → α → Option β} (h : OMono F) : monotone F := fun J J' hJ => ole_iff.1 (h _ _ (ole_iff.2 hJ))

open Classical Lean.Order in
noncomputable def lfp (F : (α → Option β) → α → Option β) : α → Option β := if h : OMono F then fix F (mono_of h) else fun _ => none

theorem lfp_eq {F : (α → Option β) → α → Option β} (h : OMono F) : lfp F = F (lfp F) := by
  unfold lfp
  rw [dif_pos h]
  exact Lean.Order.fix_eq (mono_of h)

theorem lfp_sound {F : (α → Option β) → α → Option β} {Q : α → β → Prop} (hs : ∀ J, (∀ x y, J x = some y → Q x y) → ∀ x y, F J x = some y → Q x y) : ∀ x y, lfp F x = some y → Q x y := by
  unfold lfp
  split
  · rename_i h
    refine Lean.Order.fix_induct (mono_of h) (motive := fun J => ∀ x y, J x = some y → Q x y) ?_ (fun J hJ => hs J hJ)
    refine Lean.Order.admissible_pi _ fun x => Lean.Order.admissible_pi _ fun y => ?_
    exact Lean.Order.admissible_apply (fun (x : α) (v : Option β) => v = some y → Q x y) x (Lean.Order.Option.admissible_eq_some _ _)
  · intro x y h; cases h

theorem lfp_le {F F' : (α → Option β) → α → Option β} (hF' : OMono F') (h : ∀ J, OLe (F J) (F' J)) : OLe (lfp F) (lfp F') := by
  refine lfp_sound (Q := fun x y => lfp F' x = some y) fun J hJ x y hx => ?_
  rw [lfp_eq hF']
  exact hF' _ _ hJ _ _ (h J _ _ hx)

/-! What shows that a function is monotone -/
def OptLe (a b : Option β) : Prop := ∀ y, a = some y → b = some y
theorem OptLe.refl (a : Option β) : OptLe a a := fun _ => id
theorem OptLe.cond {c : Bool} {a a' b b' : Option β} (h1 : OptLe a a') (h2 : OptLe b b') : OptLe (bif c then a else b) (bif c then a' else b') := by cases c <;> assumption
theorem OptLe.bind {a a' : Option γ} {k k' : γ → Option β} (h1 : OptLe a a') (h2 : ∀ z, OptLe (k z) (k' z)) : OptLe (a.bind k) (a'.bind k') := by
  intro y hy
  obtain ⟨z, hz, hk⟩ := Option.bind_eq_some_iff.1 hy
  rw [h1 z hz]
  exact h2 z y hk
theorem OptLe.of {f g : α → Option β} (h : OLe f g) (x : α) : OptLe (f x) (g x) := fun y => h x y

/-! ### Cuts by name -/
variable {R : Type} {P : Program} {nt : Nat} {w0 : World} {O : Own} {μ : Id → Option Value} {S : Nat → Prop} {st : St} {a : Act} {w : World} {r : R}

open Classical in
/-- at this place alone -/
noncomputable def atT {X R : Type} (T : List Item) (J : X → Option R) : List Item → X → Option R := fun todo x => if todo = T then J x else none
theorem atT_self {X R : Type} (T : List Item) (J : X → Option R) : atT T J T = J := by funext x; simp [atT]

def Good (P : Program) (nt : Nat) (w0 : World) (O : Own) (Post : Act → World → Prop) (r : R) (T : List Item) (p : Tpl) (J : p.T → Option R) : Prop :=
  ∀ x μ S a w, J x = some r → Rel nt w0 O μ S (mk p x) a w → Ends P T a w Post

def CutOK (P : Program) (nt : Nat) (w0 : World) (O : Own) (Post : Act → World → Prop) (r : R) (f : List Item → St → Option R) : Prop :=
  ∀ todo st μ S a w, Rel nt w0 O μ S st a w → f todo st = some r → Ends P todo a w Post

theorem cutOK_at {Post : Act → World → Prop} {T : List Item} {p : Tpl} {J : p.T → Option R} (h : Good P nt w0 O Post r T p J) : CutOK P nt w0 O Post r (cut p (atT T J)) := by
  intro todo st μ S a w hrel hc
  rw [cut_eq] at hc
  split at hc
  · rename_i x hx
    obtain ⟨μ', S', h'⟩ := ext_ok hrel hx
    unfold atT at hc
    split at hc
    · rename_i he
      subst he
      exact h x μ' S' a w hc h'
    · cases hc
  · cases hc

def cutsOf : List (Nat × (List Item → St → Option R)) → Nat → Option (List Item → St → Option R)
  | [], _ => none
  | (i, f) :: l, x => bif Nat.beq x i then some f else cutsOf l x
def CutsOK (P : Program) (nt : Nat) (w0 : World) (O : Own) (Post : Act → World → Prop) (r : R) : List (Nat × (List Item → St → Option R)) → Prop
  | [] => True
  | q :: l => CutOK P nt w0 O Post r q.2 ∧ CutsOK P nt w0 O Post r l
theorem cutsOf_ok {Post : Act → World → Prop} : ∀ {l : List (Nat × (List Item → St → Option R))} {i : Nat} {f : List Item → St → Option R}, CutsOK P nt w0 O Post r l → cutsOf l i = some f → CutOK P nt w0 O Post r f
  | [], _, _, _, h => by simp [cutsOf] at h
  | (j, g) :: l, i, f, ⟨h1, h2⟩, h => by
    unfold cutsOf at h
    cases hb : Nat.beq i j with
    | true => rw [hb] at h; simp only [cond_true, Option.some.injEq] at h; subst h; exact h1
    | false => rw [hb] at h; exact cutsOf_ok h2 h

/-- what is left of a function's proof when its parts are told -/
structure Parts (P : Program) (f : FuncId) (pg : Prog R) (l : List (Nat × (List Item → St → Option R))) : Prop where
  tab : TabOK P pg.toCtx
  hand : HandOK P pg.nt pg.toCtx
  cuts : pg.cuts = cutsOf l

theorem runOK_of {f : FuncId} {pg : Prog R} {l : List (Nat × (List Item → St → Option R))} (hp : Parts P f pg l) {Post : Act → World → Prop} (hnp : O.np = pg.np) (hc : CutsOK P pg.nt w0 O Post r l)
    (hf : ∀ (μ : Id → Option Value) (S : Nat → Prop) (st : St) (a : Act) (w : World), Rel pg.nt w0 O μ S st a w → pg.fin st = some r → Post a w) : RunOK P w0 O pg r Post where
  np := hnp
  cut := fun id f hid ops draw k μ S st a w h hr => cutsOf_ok hc (by rw [← hp.cuts]; exact hid) _ _ μ S a w h hr
  fin := hf

/-- a part: from the place T on, until the next cut -/
theorem good_part {f : FuncId} {pg : Prog R} {l : List (Nat × (List Item → St → Option R))} (hp : Parts P f pg l) {Post : Act → World → Prop} (hR : RunOK P w0 O pg r Post) {n : Nat} {T : List Item} {p : Tpl} {F : p.T → Option R}
    (seg : ∀ x, arun1 pg n T (mk p x) = F x) : Good P pg.nt w0 O Post r T p F :=
  fun x μ S a w hF h => arun1_ok hp.tab hp.hand hR h (by rw [seg]; exact hF)
theorem good_first {f : FuncId} {pg : Prog R} {l : List (Nat × (List Item → St → Option R))} (hp : Parts P f pg l) {Post : Act → World → Prop} (hR : RunOK P w0 O pg r Post) {n : Nat} {T : List Item} {p : Tpl} {F : p.T → Option R}
    (seg : ∀ x, arun pg n T (mk p x) = F x) : Good P pg.nt w0 O Post r T p F :=
  fun x μ S a w hF h => arun_ok hp.tab hp.hand hR n T _ _ _ _ _ h (by rw [seg]; exact hF)

theorem good_lfp {Post : Act → World → Prop} {T : List Item} {p : Tpl} {F : (p.T → Option R) → p.T → Option R} (h : ∀ J, Good P nt w0 O Post r T p J → Good P nt w0 O Post r T p (F J)) : Good P nt w0 O Post r T p (lfp F) := by
  have := lfp_sound (F := F) (Q := fun x y => y = r → ∀ μ S a w, Rel nt w0 O μ S (mk p x) a w → Ends P T a w Post) (fun J hJ x y hx hy μ S a w hr => ?_)
  · exact fun x μ S a w hx hr => this x r hx rfl μ S a w hr
  · subst hy
    exact h J (fun x μ S a w hx hr => hJ x y hx rfl μ S a w hr) x μ S a w hx hr
end
end Go.Proofs.YtjjepjfjikefiaaB
