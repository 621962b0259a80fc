/- A part of the pure law: facts of the functions that the walks compute, no program in sight. -/
import Derived.Test.YtlmdkofcombcmaaDoorG4
import Derived.Test.YtlmdkofcombcmaaDoorL0
namespace Go.Z
open Go
open Go.RowKit (wrap32 wrap64)
/-! ## Letters -/
def inSpan (a : Int) (x : text_span) : Bool := decide (x.lo_ ≤ a) && decide (a ≤ x.hi_)
def isLetter (a : Int) : Bool := text_letters.any (inSpan a)
theorem from_ev (a lo hi : Int) : text_from a lo hi = some (decide (lo ≤ a) && decide (a ≤ hi)) := by
  unfold text_from
  by_cases h : lo ≤ a <;> simp [h]
theorem letters_len : text_letters.length = 22 := rfl
theorem Letter_l0 (a : Int) (b : Bool) : ∀ (m : Nat) (i : Nat), i + m = 22 → Ev (fun k => text_Letter.l0 k a b i) ((text_letters.drop i).any (inSpan a))
  | 0, i, h => by
    refine Ev.step (G := fun k => some false) (fun k => ?_) ?_
    · rw [text_Letter.l0, if_neg (by omega)]
    · rw [List.drop_of_length_le (by rw [letters_len]; omega)]
      exact Ev.some _
  | m + 1, i, h => by
    have hi : i < text_letters.length := by rw [letters_len]; omega
    refine Ev.step (G := fun k => if inSpan a text_letters[i] = true then some true else text_Letter.l0 k a b ((i + 1 : Nat) : Int)) (fun k => ?_) ?_
    · rw [text_Letter.l0, if_pos (by omega)]
      have e : atL text_letters (i : Int) = some text_letters[i] := by
        unfold atL
        rw [if_pos (by omega), Int.toNat_natCast, List.getElem?_eq_getElem hi]
      rw [e, Option.bind_some, Option.bind_some, from_ev, Option.bind_some, wrap64_id (by omega) (by omega)]
      rfl
    · rw [List.drop_eq_getElem_cons hi, List.any_cons]
      refine Ev.ite (fun c => ?_) (fun c => ?_)
      · rw [c]; exact Ev.some _
      · rw [bfalse c, Bool.false_or]; exact Letter_l0 a b m (i + 1) (by omega)
theorem Letter_ev (a : Int) : Ev (fun k => text_Letter k a) (isLetter a) := Letter_l0 a false 22 0 rfl
end Go.Z
