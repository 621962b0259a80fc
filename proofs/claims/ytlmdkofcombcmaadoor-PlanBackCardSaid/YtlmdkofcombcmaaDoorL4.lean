/- A part of the pure law: facts of the functions that the walks compute, no program in sight. -/
import Derived.Test.YtlmdkofcombcmaaDoorL3
namespace Go.Z
open Go
open Go.RowKit (wrap32 wrap64)
theorem Ev.uniq {α : Type} {F : Nat → Option α} {r s : α} (h : Ev F r) (k : Ev F s) : r = s := by
  obtain ⟨K1, h1⟩ := h
  obtain ⟨K2, h2⟩ := k
  have e1 := h1 K2
  have e2 := h2 K1
  rw [Nat.add_comm] at e1
  rw [e1] at e2
  exact Option.some.inj e2
theorem Tot.all {α : Type} {F : Nat → Option α} (r : α) (h : Ev F r) : Tot F (fun _ => True) := ⟨r, trivial, h⟩
/-- A step of a decided value: whatever it is. -/
theorem stray_tot (s : Str) (i : Nat) (hi : i ≤ List.length s) (r : Int) : ∃ b, text_stray s i r = some b := by
  unfold text_stray
  by_cases h : r ≠ 65533
  · exact ⟨false, if_pos h⟩
  · rw [if_neg h]
    have e : subS s (i : Int) (List.length s : Int) = some _ := subL_at (by omega) (by omega) (Int.le_refl _)
    rw [e]
    exact ⟨_, rfl⟩
theorem Name_l0 (s : Str) (b c : Int) : ∀ (m i : Nat) (n : Int), List.length s - i ≤ m → i ≤ List.length s → 0 ≤ n → n ≤ 48 → Tot (fun k => text_Name.l0 k s b c n i) (fun r => 0 ≤ r.2 ∧ r.2 ≤ List.length s)
  | m, i, n, hm, hi, h0, h48 => by
    by_cases hlt : i < List.length s
    · refine Tot.step (G := fun k => if n = 48 then some (23, (i : Int)) else (text_stray s i ((dec s i).1)).bind fun r => if r = true then some (21, (i : Int)) else ((text_inName k ((dec s i).1)).bind fun r45 => if (!r45) = true then some true else if n = 0 then (text_Letter k ((dec s i).1)).bind fun r53 => some (!r53) else some false).bind fun z => if z = true then some (22, (i : Int)) else text_Name.l0 k s b c (wrap64 (n + 1)) (i + (dec s i).2)) (fun k => ?_) ?_
      · rw [text_Name.l0, if_pos hlt]
      · refine Tot.ite (fun _ => Tot.some _ ⟨by show (0 : Int) ≤ (i : Int); omega, by show (i : Int) ≤ _; omega⟩) (fun hn => ?_)
        obtain ⟨sb, hs⟩ := stray_tot s i hi (dec s i).1
        refine Tot.bindO hs (Tot.ite (fun _ => Tot.some _ ⟨by show (0 : Int) ≤ (i : Int); omega, by show (i : Int) ≤ _; omega⟩) (fun _ => ?_))
        refine Tot.bind (p := fun _ => True) ?_ (fun z _ => Tot.ite (fun _ => Tot.some _ ⟨by show (0 : Int) ≤ (i : Int); omega, by show (i : Int) ≤ _; omega⟩) (fun _ => ?_))
        · refine Tot.bind (Tot.all _ (inName_ev _)) (fun r45 _ => Tot.ite (fun _ => Tot.some _ trivial) (fun _ => Tot.ite (fun _ => ?_) (fun _ => Tot.some _ trivial)))
          exact Tot.bind (Tot.all _ (Letter_ev _)) (fun _ _ => Tot.some _ trivial)
        · have hd := dec_fits s i hlt
          rw [wrap64_id (by omega) (by omega)]
          match m, hm with
          | 0, hm => omega
          | m + 1, hm => exact Name_l0 s b c m (i + (dec s i).2) (n + 1) (by omega) hd.2 (by omega) (by omega)
    · refine Tot.step (G := fun k => if n = 0 then some (20, 0) else some (0, 0)) (fun k => ?_) ?_
      · rw [text_Name.l0, if_neg hlt]
      · exact Tot.ite (fun _ => Tot.some _ ⟨Int.le_refl _, by show (0 : Int) ≤ _; omega⟩) (fun _ => Tot.some _ ⟨Int.le_refl _, by show (0 : Int) ≤ _; omega⟩)
theorem Name_tot (s : Str) : Tot (fun k => text_Name k s) (fun r => 0 ≤ r.2 ∧ r.2 ≤ List.length s) := Name_l0 s 0 0 _ 0 0 (Nat.le_refl _) (by omega) (Int.le_refl _) (by decide)
theorem isName_tot (s : Str) : Tot (fun k => plan_isName k s) (fun _ => True) := Tot.bind (Name_tot s) (fun _ _ => Tot.some _ trivial)
end Go.Z
