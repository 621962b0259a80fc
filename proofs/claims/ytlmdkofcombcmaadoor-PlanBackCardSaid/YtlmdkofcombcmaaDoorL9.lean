/- A part of the pure law: facts of the functions that the walks compute, no program in sight. -/
import Derived.Test.YtlmdkofcombcmaaDoorL8
namespace Go.Z
open Go
open Go.RowKit (wrap32 wrap64)
structure WordFits (n : Int) (w : api_Word) : Prop where
  text : List.length w.Text ≤ 65536
  num : -9223372036854775808 ≤ w.Num ∧ w.Num ≤ 9223372036854775807
  at0 : 0 ≤ w.At ∧ w.At ≤ n
def StepFits (s : api_Step) : Prop := List.length s.Do ≤ 65536 ∧ List.length s.Undo ≤ 65536 ∧ -9223372036854775808 ≤ s.Tries ∧ s.Tries ≤ 9223372036854775807
/-- What a step's reading gives. -/
def StepOut (r : plan_reader) (p : api_Plan) (o : Bool × Bool × (List api_Word) × Int × Int × (List api_Step)) : Prop :=
  o.2.2.1 = r.words_ ∧ r.at_ ≤ o.2.2.2.1 ∧ o.2.2.2.1 ≤ r.words_.length ∧ (o.2.1 = true → r.at_ < o.2.2.2.1 ∧ ∃ s, StepFits s ∧ o.2.2.2.2.2 = p.Steps ++ [s])
theorem step_j1 (r : plan_reader) (p : api_Plan) (n : Int) (w : api_Word × Bool × Int) (hw : WordFits n w.1) (hp : p.Steps.length ≤ 100000) (b : Bool) (num : Int) (hnum : -9223372036854775808 ≤ num ∧ num ≤ 9223372036854775807) (u : Str) (hu : List.length u ≤ 65536) (a v : Int) (ha : r.at_ < a) (ha2 : a ≤ r.words_.length) :
    ∃ o, plan_reader_step.j1 r p w b num u a v = some o ∧ StepOut r p o := by
  unfold plan_reader_step.j1
  rw [if_pos (by simp only [List.length_cons, List.length_nil]; omega)]
  exact ⟨_, rfl, rfl, by show r.at_ ≤ a; omega, ha2, fun _ => ⟨ha, _, ⟨hw.text, hu, hnum.1, hnum.2⟩, rfl⟩⟩
theorem step_j0 (r : plan_reader) (p : api_Plan) (n : Int) (hrw : r.words_.length ≤ 100000) (hrf : ∀ w ∈ r.words_, WordFits n w) (w : api_Word × Bool × Int) (hw : WordFits n w.1) (hp : p.Steps.length ≤ 100000) (b : Bool) (num : Int) (hnum : -9223372036854775808 ≤ num ∧ num ≤ 9223372036854775807) (a : Int) (h0 : 0 ≤ r.at_) (ha : r.at_ < a) (ha2 : a ≤ r.words_.length) :
    ∃ o, plan_reader_step.j0 r p w b num a = some o ∧ StepOut r p o := by
  unfold plan_reader_step.j0
  obtain ⟨w1, b1, a1, e1, f1, t1⟩ := take_ev ⟨r.words_, a, r.end_⟩ 4 (lit [126]) (by show 0 ≤ a; omega) hrw
  rw [e1, Option.bind_some]
  have hlit : List.length (lit []) ≤ 65536 := Nat.zero_le _
  cases b1 with
  | true =>
    obtain ⟨g1, g2, g3⟩ := t1 rfl
    have g1' : a1 = a + 1 := g1
    have g2' : a1 ≤ r.words_.length := g2
    obtain ⟨w2, b2, a2, e2, f2, t2⟩ := take_ev ⟨r.words_, a1, r.end_⟩ 1 (lit []) (by show 0 ≤ a1; omega) hrw
    simp only [if_true]
    rw [e2, Option.bind_some]
    cases b2 with
    | false =>
      have : a2 = a1 := f2 rfl
      exact ⟨_, rfl, rfl, by show r.at_ ≤ a2; omega, by show a2 ≤ _; omega, fun h => by cases h⟩
    | true =>
      obtain ⟨k1, k2, k3⟩ := t2 rfl
      have k1' : a2 = a1 + 1 := k1
      exact step_j1 r p n w hw hp b num hnum w2.Text (hrf w2 k3).text a2 _ (by omega) k2
  | false =>
    have hh : a1 = a := f1 rfl
    simp only [Bool.false_eq_true, if_false]
    by_cases hv : p.Pivot = 0
    · rw [if_pos hv]
      obtain ⟨w2, b2, a2, e2, f2, t2⟩ := take_ev ⟨r.words_, a1, r.end_⟩ 4 (lit [33]) (by show 0 ≤ a1; omega) hrw
      rw [e2, Option.bind_some]
      cases b2 with
      | true =>
        obtain ⟨k1, k2, _⟩ := t2 rfl
        have k1' : a2 = a1 + 1 := k1
        exact step_j1 r p n w hw hp b num hnum (lit []) hlit a2 _ (by omega) k2
      | false =>
        have : a2 = a1 := f2 rfl
        exact step_j1 r p n w hw hp b num hnum (lit []) hlit a2 _ (by omega) (by omega)
    · rw [if_neg hv]
      exact step_j1 r p n w hw hp b num hnum (lit []) hlit a1 _ (by omega) (by omega)
end Go.Z
