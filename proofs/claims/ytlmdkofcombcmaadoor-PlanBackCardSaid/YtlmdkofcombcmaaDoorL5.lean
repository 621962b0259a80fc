/- A part of the pure law: facts of the functions that the walks compute, no program in sight. -/
import Derived.Test.YtlmdkofcombcmaaDoorL4
namespace Go.Z
open Go
open Go.RowKit (wrap32 wrap64)
theorem place_tot (p : api_Plan) (i : Int) : ∃ v, plan_place p i = some v := by
  unfold plan_place
  by_cases h : p.Pivot = 0
  · rw [if_pos h]; exact ⟨0, rfl⟩
  · rw [if_neg h]
    by_cases h2 : wrap64 (i + 1) < p.Pivot
    · simp only [decide_eq_true h2, Option.bind_some, if_true]; exact ⟨_, rfl⟩
    · simp only [decide_eq_false h2, Option.bind_some]
      by_cases h3 : wrap64 (i + 1) = p.Pivot
      · exact ⟨1, by simp [h3]⟩
      · exact ⟨2, by simp [h3]⟩
theorem checkStep_tot (s : api_Step) (i : Int) (m : List (Str × Int)) : Tot (fun k => plan_checkStep k s i m) (fun _ => True) := by
  unfold plan_checkStep
  refine Tot.bind (p := fun _ => True) ?_ (fun z _ => Tot.ite (fun _ => Tot.some _ trivial) (fun _ => Tot.ite (fun _ => Tot.some _ trivial) (fun _ => ?_)))
  · exact Tot.bind (isName_tot _) (fun r _ => Tot.ite (fun _ => Tot.some _ trivial) (fun _ => Tot.ite (fun _ => Tot.bind (isName_tot _) (fun _ _ => Tot.some _ trivial)) (fun _ => Tot.some _ trivial)))
  · refine Tot.bind (p := fun _ => True) ?_ (fun z _ => Tot.ite (fun _ => Tot.some _ trivial) (fun _ => ?_))
    · repeat' first | exact Tot.some _ trivial | refine Tot.ite (fun _ => ?_) (fun _ => ?_)
    · refine Tot.bind (p := fun _ => True) ?_ (fun z _ => Tot.ite (fun _ => Tot.some _ trivial) (fun _ => Tot.some _ trivial))
      repeat' first | exact Tot.some _ trivial | refine Tot.ite (fun _ => ?_) (fun _ => ?_)
/-- The place that an error of check names. -/
def ErrAt (p : api_Plan) (r : Int × Int) : Prop := r.1 = 0 ∨ (0 ≤ r.2 ∧ (1 ≤ p.Steps.length → r.2 < p.Steps.length))
theorem check_l0 (p : api_Plan) (b c : Int) (hp : p.Steps.length ≤ 32) : ∀ (m i : Nat) (mp : List (Str × Int)), i + m = p.Steps.length → Tot (fun k => plan_check.l0 k p b c i mp) (ErrAt p)
  | 0, i, mp, h => by
    refine Tot.step (G := fun k => some (0, 0)) (fun k => ?_) (Tot.some _ (.inl rfl))
    rw [plan_check.l0, if_neg (by omega)]
  | m + 1, i, mp, h => by
    obtain ⟨q, hq, _⟩ := atL_at (l := p.Steps) (i := (i : Int)) (by omega) (by omega)
    obtain ⟨v, hv⟩ := place_tot p i
    have next : ∀ mp', Tot (fun k => plan_check.j0 k p b c i mp') (ErrAt p) := fun mp' => by
      refine Tot.step (G := fun k => plan_check.l0 k p b c ((i + 1 : Nat) : Int) mp') (fun k => ?_) (check_l0 p b c hp m (i + 1) mp' (by omega))
      rw [plan_check.j0, wrap64_id (by omega) (by omega)]
      rfl
    refine Tot.step (G := fun k => (atL p.Steps (i : Int)).bind fun q65 => (plan_place p i).bind fun r83 => (plan_checkStep k q65 r83 mp).bind fun r89 => if r89 ≠ 0 then some (r89, (i : Int)) else if (q65.Undo : Str) ≠ (lit []) then plan_check.j0 k p b c i (mput (mput mp q65.Do (wrap64 (((mget mp q65.Do).getD 0) + 1))) q65.Undo (wrap64 (((mget (mput mp q65.Do (wrap64 (((mget mp q65.Do).getD 0) + 1))) q65.Undo).getD 0) + 1))) else plan_check.j0 k p b c i (mput mp q65.Do (wrap64 (((mget mp q65.Do).getD 0) + 1)))) (fun k => ?_) ?_
    · rw [plan_check.l0, if_pos (by omega)]
    · refine Tot.bindO hq (Tot.bindO hv (Tot.bind (checkStep_tot _ _ _) (fun r _ => Tot.ite (fun _ => Tot.some _ (.inr ⟨by show (0 : Int) ≤ (i : Int); omega, fun _ => by show (i : Int) < _; omega⟩)) (fun _ => Tot.ite (fun _ => next _) (fun _ => next _)))))
theorem check_tot (p : api_Plan) : Tot (fun k => plan_check k p) (ErrAt p) := by
  unfold plan_check
  refine Tot.bind (isName_tot _) (fun r _ => Tot.ite (fun _ => Tot.some _ (.inr ⟨Int.le_refl _, fun h => by show (0 : Int) < _; omega⟩)) (fun _ => ?_))
  by_cases h0 : (p.Steps.length : Int) = 0
  · rw [if_pos h0]
    refine Tot.bindO (x := true) rfl ?_
    simp only [if_true]
    exact Tot.some _ (.inr ⟨by show (0 : Int) ≤ 32; omega, fun h => by omega⟩)
  · rw [if_neg h0]
    refine Tot.bindO (x := decide ((32 : Int) < (p.Steps.length : Int))) rfl ?_
    by_cases h1 : (32 : Int) < p.Steps.length
    · simp only [decide_eq_true h1, if_true]
      exact Tot.some _ (.inr ⟨by show (0 : Int) ≤ 32; omega, fun h => by show (32 : Int) < _; omega⟩)
    · simp only [decide_eq_false h1]
      refine Tot.ite (fun h => by cases h) (fun _ => ?_)
      refine Tot.bind (p := fun _ => True) (Tot.ite (fun _ => Tot.some _ trivial) (fun _ => Tot.some _ trivial)) (fun z _ => Tot.ite (fun _ => Tot.some _ (.inr ⟨Int.le_refl _, fun h => by show (0 : Int) < _; omega⟩)) (fun _ => ?_))
      exact check_l0 p 0 0 (by omega) _ 0 [] (by rw [Nat.zero_add])
end Go.Z
