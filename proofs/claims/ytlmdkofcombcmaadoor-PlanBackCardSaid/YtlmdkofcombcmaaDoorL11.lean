/- A part of the pure law: facts of the functions that the walks compute, no program in sight. -/
import Derived.Test.YtlmdkofcombcmaaDoorL10
namespace Go.Z
open Go
open Go.RowKit (wrap32 wrap64)
theorem set_fits {xs : List api_Step} (h : ∀ s ∈ xs, StepFits s) (i : Nat) (s : api_Step) (hs : StepFits s) : ∀ t ∈ xs.set i s, StepFits t := fun t ht => by
  rcases List.mem_or_eq_of_mem_set ht with h1 | h1
  · exact h t h1
  · exact h1 ▸ hs
theorem plan_l1 (w : api_Word × Bool × Int) (ats : List Int) (bs : List Bool) (here : Int) (o : Bool × Bool × (List api_Word) × Int × Int × (List api_Step)) (hb : (bs ++ [o.1]).length = o.2.2.2.2.2.length) (hl : o.2.2.2.2.2.length ≤ 100000) :
    ∀ (m i : Nat) (xs : List api_Step), i + m = o.2.2.2.2.2.length → xs.length = o.2.2.2.2.2.length → (∀ s ∈ xs, StepFits s) →
      Tot (fun k => plan_reader_plan.l1 k w ats bs here o i xs) (fun r => (∃ ys, r.1 = (⟨w.1.Text, o.2.2.2.2.1, ys⟩ : api_Plan) ∧ ys.length = o.2.2.2.2.2.length ∧ ∀ s ∈ ys, StepFits s) ∧ r.2.1 = ats ++ [here] ∧ r.2.2.1 = true ∧ r.2.2.2.1 = o.2.2.1 ∧ r.2.2.2.2 = o.2.2.2.1)
  | 0, i, xs, h, hx, hf => by
    refine Tot.step (G := fun k => some ((⟨w.1.Text, o.2.2.2.2.1, xs⟩ : api_Plan), (ats ++ ([here] : List Int)), true, o.2.2.1, o.2.2.2.1)) (fun k => ?_) (Tot.some _ ⟨⟨xs, rfl, hx, hf⟩, rfl, rfl, rfl, rfl⟩)
    rw [plan_reader_plan.l1, if_neg (by omega)]
  | m + 1, i, xs, h, hx, hf => by
    obtain ⟨q, hq, _⟩ := atL_at (l := bs ++ [o.1]) (i := (i : Int)) (by omega) (by omega)
    obtain ⟨x, hxq, hxm⟩ := atL_at (l := xs) (i := (i : Int)) (by omega) (by omega)
    obtain ⟨v, hv⟩ := place_tot (⟨w.1.Text, o.2.2.2.2.1, xs⟩ : api_Plan) i
    have hxf := hf x (List.mem_of_getElem? hxm)
    have key : ∃ ys, ys.length = xs.length ∧ (∀ s ∈ ys, StepFits s) ∧ ((atL (bs ++ ([o.1] : List Bool)) (i : Int)).bind (fun q281 => (if (!q281) = true then (plan_place (⟨w.1.Text, o.2.2.2.2.1, xs⟩ : api_Plan) i).bind (fun (r293 : Int) => (some (decide ((r293 : Int) ≠ 2)))) else (some false)))).bind (fun (z278 : Bool) => (if z278 = true then (atL xs (i : Int)).bind (fun q303 => (some (List.set xs (Int.toNat (i : Int)) (⟨q303.Do, q303.Undo, 1⟩ : api_Step)))) else (some xs))) = some ys := by
      have e : ∃ z, (atL (bs ++ ([o.1] : List Bool)) (i : Int)).bind (fun q281 => (if (!q281) = true then (plan_place (⟨w.1.Text, o.2.2.2.2.1, xs⟩ : api_Plan) i).bind (fun (r293 : Int) => (some (decide ((r293 : Int) ≠ 2)))) else (some false))) = some z := by
        rw [hq, Option.bind_some, hv, Option.bind_some]
        cases q
        · exact ⟨_, rfl⟩
        · exact ⟨_, rfl⟩
      obtain ⟨z, e⟩ := e
      rw [e, Option.bind_some]
      cases z with
      | false => exact ⟨xs, rfl, hf, rfl⟩
      | true =>
        rw [if_pos rfl, hxq, Option.bind_some]
        exact ⟨_, List.length_set, set_fits hf _ (⟨x.Do, x.Undo, 1⟩ : api_Step) ⟨hxf.1, hxf.2.1, by show -9223372036854775808 ≤ (1 : Int); decide, by show (1 : Int) ≤ 9223372036854775807; decide⟩, rfl⟩
    obtain ⟨ys, hy1, hy2, key⟩ := key
    refine Tot.step (G := fun k => plan_reader_plan.l1 k w ats bs here o ((i + 1 : Nat) : Int) ys) (fun k => ?_) (plan_l1 w ats bs here o hb hl m (i + 1) ys (by omega) (by omega) hy2)
    rw [plan_reader_plan.l1, if_pos (by omega), key, Option.bind_some, wrap64_id (by omega) (by omega)]
    rfl
end Go.Z
