/- A part of the pure law: facts of the functions that the walks compute, no program in sight. -/
import Derived.Test.YtlmdkofcombcmaaDoorL9
namespace Go.Z
open Go
open Go.RowKit (wrap32 wrap64)
theorem step_ev (r : plan_reader) (p : api_Plan) (n : Int) (hrw : r.words_.length ≤ 100000) (hrf : ∀ w ∈ r.words_, WordFits n w) (hp : p.Steps.length ≤ 100000) (h0 : 0 ≤ r.at_) (h1 : r.at_ ≤ r.words_.length) :
    ∃ o, plan_reader_step r p = some o ∧ StepOut r p o := by
  unfold plan_reader_step
  obtain ⟨w1, b1, a1, e1, f1, t1⟩ := take_ev r 1 (lit []) h0 hrw
  rw [e1, Option.bind_some]
  cases b1 with
  | false =>
    have : a1 = r.at_ := f1 rfl
    exact ⟨_, rfl, rfl, by show r.at_ ≤ a1; omega, by show a1 ≤ _; omega, fun h => by cases h⟩
  | true =>
    obtain ⟨g1, g2, g3⟩ := t1 rfl
    have hw : WordFits n w1 := hrf w1 g3
    simp only [Bool.not_true, Bool.false_eq_true, if_false]
    obtain ⟨w2, b2, a2, e2, f2, t2⟩ := take_ev ⟨r.words_, a1, r.end_⟩ 4 (lit [42]) (by show 0 ≤ a1; omega) hrw
    rw [e2, Option.bind_some]
    cases b2 with
    | true =>
      obtain ⟨k1, k2, _⟩ := t2 rfl
      have k1' : a2 = a1 + 1 := k1
      have k2' : a2 ≤ r.words_.length := k2
      obtain ⟨w3, b3, a3, e3, f3, t3⟩ := take_ev ⟨r.words_, a2, r.end_⟩ 2 (lit []) (by show 0 ≤ a2; omega) hrw
      simp only [if_true]
      rw [e3, Option.bind_some]
      cases b3 with
      | false =>
        have : a3 = a2 := f3 rfl
        exact ⟨_, rfl, rfl, by show r.at_ ≤ a3; omega, by show a3 ≤ _; omega, fun h => by cases h⟩
      | true =>
        obtain ⟨m1, m2, m3⟩ := t3 rfl
        have m1' : a3 = a2 + 1 := m1
        exact step_j0 r p n hrw hrf (w1, true, a1) hw hp true w3.Num (hrf w3 m3).num a3 h0 (by omega) m2
    | false =>
      have : a2 = a1 := f2 rfl
      simp only [Bool.false_eq_true, if_false]
      exact step_j0 r p n hrw hrf (w1, true, a1) hw hp false 0 ⟨by decide, by decide⟩ a2 h0 (by omega) (by omega)
end Go.Z
