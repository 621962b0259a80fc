/- A part of the pure law: facts of the functions that the walks compute, no program in sight. -/
import Derived.Test.YtlmdkofcombcmaaDoorL6
namespace Go.Z
open Go
open Go.RowKit (wrap32 wrap64)
theorem equal0 : Ev (fun k => annalslaw15_equal k (⟨(lit []), 0, ([] : List api_Step)⟩ : api_Plan) (⟨(lit []), 0, ([] : List api_Step)⟩ : api_Plan)) true := ⟨4, fun k => by kernel_rfl⟩
theorem started_Ev : Ev annalslaw15_started true := ⟨64, fun k => by kernel_rfl⟩
/-! ## Where two texts part -/
theorem Parse_l0 (s t : Str) (hs : List.length s ≤ 65536) (ht : List.length t ≤ 9223372036854775806) : ∀ (m i : Nat), List.length s - i ≤ m → i ≤ List.length s → Tot (fun k => plan_Parse.l0 k s t i) (fun r => r.1 = (⟨(lit []), 0, ([] : List api_Step)⟩ : api_Plan) ∧ r.2.1 = 150 ∧ 0 ≤ r.2.2 ∧ r.2.2 ≤ List.length s)
  | m, i, hm, hi => by
    have dec : ∃ z, (z = true → i < List.length s) ∧ (if (i : Int) < (List.length t : Int) then (if (i : Int) < (List.length s : Int) then (atL t (i : Int)).bind (fun b129 => (atL s (i : Int)).bind (fun b131 => (some (decide (b129 = b131))))) else (some false)) else (some false)) = some z := by
      by_cases h1 : (i : Int) < (List.length t : Int)
      · rw [if_pos h1]
        by_cases h2 : (i : Int) < (List.length s : Int)
        · obtain ⟨x, hx, _⟩ := atL_at (l := t) (i := (i : Int)) (by omega) h1
          obtain ⟨y, hy, _⟩ := atL_at (l := s) (i := (i : Int)) (by omega) h2
          rw [if_pos h2, hx, hy]
          exact ⟨_, fun _ => by omega, rfl⟩
        · rw [if_neg h2]; exact ⟨false, fun h => by (cases h), rfl⟩
      · rw [if_neg h1]; exact ⟨false, fun h => by (cases h), rfl⟩
    obtain ⟨z, hz, dec⟩ := dec
    refine Tot.step (G := fun k => if z = true then plan_Parse.l0 k s t (wrap64 ((i : Int) + 1)) else some ((⟨(lit []), 0, ([] : List api_Step)⟩ : api_Plan), 150, (i : Int))) (fun k => ?_) (Tot.ite (fun h => ?_) (fun _ => Tot.some _ ⟨rfl, rfl, by show (0 : Int) ≤ (i : Int); omega, by show (i : Int) ≤ _; omega⟩))
    · rw [plan_Parse.l0, dec, Option.bind_some]
    · have hlt := hz h
      rw [wrap64_id (by omega) (by omega)]
      match m, hm with
      | 0, hm => omega
      | m + 1, hm => exact Parse_l0 s t hs ht m (i + 1) (by omega) (by omega)
end Go.Z
