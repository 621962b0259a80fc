/- A part of the pure law: facts of the functions that the walks compute, no program in sight. -/
import Derived.Test.YtlmdkofcombcmaaDoorL7
namespace Go.Z
open Go
open Go.RowKit (wrap32 wrap64)
/-! ## The reader -/
theorem is_ev (r : plan_reader) (a : Int) (t : Str) (h0 : 0 ≤ r.at_) : ∃ b, plan_reader_is r a t = some b ∧ (b = true → r.at_ < r.words_.length) := by
  unfold plan_reader_is
  by_cases h : (r.words_.length : Int) ≤ r.at_
  · rw [if_pos h]; exact ⟨false, rfl, fun h => by cases h⟩
  · obtain ⟨w, hw, _⟩ := atL_at (l := r.words_) (i := r.at_) h0 (by omega)
    rw [if_neg h, hw, Option.bind_some]
    by_cases h1 : w.Kind = a
    · rw [if_pos h1]
      by_cases h2 : t = lit []
      · rw [if_pos h2]; exact ⟨true, rfl, fun _ => by omega⟩
      · rw [if_neg h2]; exact ⟨_, rfl, fun _ => by omega⟩
    · rw [if_neg h1]; exact ⟨false, rfl, fun h => by cases h⟩
theorem take_ev (r : plan_reader) (a : Int) (t : Str) (h0 : 0 ≤ r.at_) (hw : r.words_.length ≤ 100000) :
    ∃ w b at', plan_reader_take r a t = some (w, b, at') ∧ (b = false → at' = r.at_) ∧ (b = true → at' = r.at_ + 1 ∧ at' ≤ r.words_.length ∧ w ∈ r.words_) := by
  obtain ⟨b, hb, hlt⟩ := is_ev r a t h0
  unfold plan_reader_take
  rw [hb, Option.bind_some]
  cases b with
  | false => exact ⟨_, _, _, by simp only [Bool.not_false, if_true]; rfl, fun _ => rfl, fun h => by cases h⟩
  | true =>
    have hl := hlt rfl
    obtain ⟨w, he, hm⟩ := atL_at (l := r.words_) (i := r.at_) h0 hl
    have e : wrap64 ((wrap64 (r.at_ + 1)) - 1) = r.at_ := by
      rw [wrap64_id (n := r.at_ + 1) (by omega) (by omega), wrap64_id (by omega) (by omega)]; omega
    have e2 : wrap64 (r.at_ + 1) = r.at_ + 1 := wrap64_id (by omega) (by omega)
    refine ⟨w, true, wrap64 (r.at_ + 1), ?_, ?_, ?_⟩
    · simp only [Bool.not_true, e, he, Option.bind_some]
      rfl
    · intro h; cases h
    · intro _
      rw [e2]
      exact ⟨rfl, by omega, List.mem_of_getElem? hm⟩
theorem here_ev (r : plan_reader) (h0 : 0 ≤ r.at_) (n : Int) (he : 0 ≤ r.end_ ∧ r.end_ ≤ n) (hw : ∀ w ∈ r.words_, 0 ≤ w.At ∧ w.At ≤ n) : ∃ v, plan_reader_here r = some v ∧ 0 ≤ v ∧ v ≤ n := by
  unfold plan_reader_here
  by_cases h : (r.words_.length : Int) ≤ r.at_
  · rw [if_pos h]; exact ⟨_, rfl, he⟩
  · obtain ⟨w, e, hm⟩ := atL_at (l := r.words_) (i := r.at_) h0 (by omega)
    rw [if_neg h, e]
    exact ⟨_, rfl, hw w (List.mem_of_getElem? hm)⟩
end Go.Z
