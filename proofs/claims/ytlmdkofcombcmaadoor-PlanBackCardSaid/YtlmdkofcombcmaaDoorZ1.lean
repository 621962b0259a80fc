/- A part of an own library for walks over a Go program's form: no statement of the claim's own, no conditions. -/
import Derived.WalkKit
import Derived.OrdersHeld
namespace Go.Z
open Go

/-! ## 1. Frames as functions -/
def upd (ρ : Nat → Value) (d : Nat) (v : Value) : Nat → Value := fun t => bif Nat.beq t d then v else ρ t
def env (l : List Value) : Nat → Value := fun t => l.getD t undef

structure At (N : Nat) (ρ : Nat → Value) (a : Act) : Prop where
  size : a.tmps.size = N
  get : ∀ t, a.tmps.getD t undef = ρ t
  defers : a.defers = []

def ev (ρ : Nat → Value) : Operand → Value
  | .tmp t => ρ t
  | .const v => v
  | .global g => .pointer (some ⟨g, 0, none⟩)
  | .func f => .func (.func f) #[] #[]

theorem At.eval {N : Nat} {ρ : Nat → Value} {a : Act} (h : At N ρ a) : a.eval = ev ρ := by
  funext x
  cases x with
  | tmp t => exact h.get t
  | const v => rfl
  | global g => rfl
  | func f => rfl

def putZ (ρ : Nat → Value) : Option Nat → Value → (Nat → Value)
  | some d, v => upd ρ d v
  | none, _ => ρ

theorem At.put {N : Nat} {ρ : Nat → Value} {a : Act} (h : At N ρ a) (d : Option Nat) (hd : d.all (· < N) = true) (v : Value) : At N (putZ ρ d v) (a.put d v) := by
  cases d with
  | none => exact h
  | some d =>
    have hd' : d < N := by simpa using hd
    refine ⟨by simp [Act.put, h.size], fun t => ?_, h.defers⟩
    simp only [Act.put, putZ, upd]
    by_cases e : t = d
    · subst e
      have : t < a.tmps.size := by rw [h.size]; exact hd'
      simp [Array.getD_eq_getD_getElem?, this]
    · have hb : Nat.beq t d = false := by
        cases hq : Nat.beq t d
        · rfl
        · exact absurd (Nat.eq_of_beq_eq_true hq) e
      rw [hb, cond_false, ← h.get t]
      simp [Array.getD_eq_getD_getElem?, Ne.symm e]

theorem upd_same (ρ : Nat → Value) (t : Nat) (v : Value) (h : ρ t = v) : upd ρ t v = ρ := by
  funext u
  unfold upd
  cases hq : Nat.beq u t with
  | true => rw [cond_true, Nat.eq_of_beq_eq_true hq, h]
  | false => rfl

abbrev Post := Exit → (Nat → Value) → World → Prop

def lift (N : Nat) (Q : Post) : Exit → Act → World → Prop := fun e a w => ∃ ρ, At N ρ a ∧ Q e ρ w

def WC (P : Program) (N : Nat) (c : Code) (Q : Post) (ρ : Nat → Value) (w : World) : Prop :=
  ∀ a, At N ρ a → c.wp P (lift N Q) a w

def WL (P : Program) (N : Nat) (ops : Array Oper) (Q : Post) (l : List Oper) (ρ : Nat → Value) (w : World) : Prop :=
  ∀ a, At N ρ a → wpList P ops (lift N Q) l a w

section
variable {P : Program} {N : Nat} {Q : Post} {ρ : Nat → Value} {w : World}

def thenZ (next : (Nat → Value) → World → Prop) (Q : Post) : Post
  | .normal, ρ, w => next ρ w
  | e, ρ, w => Q e ρ w

def inBlockZ (id : Nat) (Q : Post) : Post
  | .exit id', ρ, w => if id' = id then Q .normal ρ w else Q (.exit id') ρ w
  | e, ρ, w => Q e ρ w

theorem WC.mono {c : Code} {Q' : Post} (hq : ∀ e ρ w, Q e ρ w → Q' e ρ w) (h : WC P N c Q ρ w) : WC P N c Q' ρ w :=
  fun a ha => wp_mono (h a ha) fun e _ w ⟨ρ, h1, h2⟩ => ⟨ρ, h1, hq e ρ w h2⟩

theorem WC_seq {x y : Code} (h : WC P N x (thenZ (WC P N y Q) Q) ρ w) : WC P N (.seq x y) Q ρ w := by
  intro a ha
  refine wp_seq (wp_mono (h a ha) ?_)
  rintro e a' w' ⟨ρ', h1, h2⟩
  cases e with
  | normal => exact h2 a' h1
  | _ => exact ⟨ρ', h1, h2⟩

/-- The ways meet again behind x: what holds there. -/
theorem WC_cut {x y : Code} (J : (Nat → Value) → World → Prop) (h : WC P N x (thenZ J Q) ρ w) (h2 : ∀ ρ w, J ρ w → WC P N y Q ρ w) : WC P N (.seq x y) Q ρ w :=
  WC_seq (h.mono fun e ρ w hh => by cases e <;> first | exact h2 _ _ hh | exact hh)

theorem WC_skip (h : Q .normal ρ w) : WC P N .skip Q ρ w := fun _ ha => wp_skip ⟨ρ, ha, h⟩
theorem WC_exit {id : Nat} (h : Q (.exit id) ρ w) : WC P N (.exit id) Q ρ w := fun _ ha => wp_exit ⟨ρ, ha, h⟩
theorem WC_ret (h : Q .ret ρ w) : WC P N .ret Q ρ w := fun _ ha => wp_ret ⟨ρ, ha, h⟩

theorem WC_block {id : Nat} {c : Code} (h : WC P N c (inBlockZ id Q) ρ w) : WC P N (.block id c) Q ρ w := by
  intro a ha
  refine wp_block (wp_mono (h a ha) ?_)
  rintro e a' w' ⟨ρ', h1, h2⟩
  cases e with
  | exit id' =>
    simp only [inBlockZ] at h2
    simp only [Exit.inBlock]
    split
    · rename_i e; rw [if_pos e] at h2; exact ⟨ρ', h1, h2⟩
    · rename_i e; rw [if_neg e] at h2; exact ⟨ρ', h1, h2⟩
  | _ => exact ⟨ρ', h1, h2⟩

theorem WC_if {c : Operand} {x y : Code} {p : Prop} [Decidable p] (hv : ev ρ c = .bool (decide p)) (h1 : p → WC P N x Q ρ w) (h2 : ¬ p → WC P N y Q ρ w) : WC P N (.cond c x y) Q ρ w := by
  intro a ha
  refine wp_cond (t := decide p) (by rw [ha.eval, hv]) ?_
  by_cases hp : p
  · simpa [hp] using h1 hp a ha
  · simpa [hp] using h2 hp a ha
theorem WC_ifb {c : Operand} {x y : Code} {b : Bool} (hv : ev ρ c = .bool b) (h1 : b = true → WC P N x Q ρ w) (h2 : b = false → WC P N y Q ρ w) : WC P N (.cond c x y) Q ρ w := by
  intro a ha
  refine wp_cond (t := b) (by rw [ha.eval, hv]) ?_
  cases b
  · exact h2 rfl a ha
  · exact h1 rfl a ha
theorem WC_yes {c : Operand} {x y : Code} (hv : ev ρ c = .bool true) (h : WC P N x Q ρ w) : WC P N (.cond c x y) Q ρ w := WC_ifb hv (fun _ => h) (fun e => by cases e)
theorem WC_no {c : Operand} {x y : Code} (hv : ev ρ c = .bool false) (h : WC P N y Q ρ w) : WC P N (.cond c x y) Q ρ w := WC_ifb hv (fun e => by cases e) (fun _ => h)

theorem WC_region {id : Nat} {l : List Oper} (h : WL P N l.toArray Q l ρ w) : WC P N (.region id l.toArray false) Q ρ w :=
  fun a ha => wp_region_lit (h a ha)

end
end Go.Z
