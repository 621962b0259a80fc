/- A part of the pure law: facts of the functions that the walks compute, no program in sight. -/
import Derived.Test.YtlmdkofcombcmaaDoorL16
set_option linter.unusedVariables false
namespace Go.Z
open Go
open Go.RowKit (wrap32 wrap64)
/-! ## A line is read; the law of PlanOneWay -/
def noPlan : api_Plan := ⟨(lit []), 0, ([] : List api_Step)⟩
theorem Tot.bindEv {α β : Type} {F : Nat → Option α} {G : Nat → α → Option β} {x : α} {q : β → Prop} (h : Ev F x) (k : Tot (fun k => G k x) q) : Tot (fun k => (F k).bind (G k)) q := let ⟨r, hr, k⟩ := k; ⟨r, hr, Ev.bind h k⟩
theorem check_many (p : api_Plan) (h : 32 < p.Steps.length) : Tot (fun k => plan_check k p) (fun r => r.1 ≠ 0) := by
  unfold plan_check
  refine Tot.bind (isName_tot _) (fun r _ => Tot.ite (fun _ => Tot.some _ (by show (35 : Int) ≠ 0; decide)) (fun _ => ?_))
  refine Tot.bindO (x := true) (by rw [if_neg (by omega), decide_eq_true (by omega)]) (Tot.ite (fun _ => Tot.some _ (by show (153 : Int) ≠ 0; decide)) (fun h => absurd rfl h))
def ParseOut (s : Str) (r : api_Plan × Int × Int) : Prop :=
  (r.2.1 ≠ 0 ∧ 0 ≤ r.2.2 ∧ r.2.2 ≤ List.length s ∧ r.1 = noPlan) ∨ (r.2.1 = 0 ∧ r.2.2 = 0 ∧ (∃ c, Ev (fun k => plan_check k r.1) (0, c)) ∧ Ev (fun k => plan_write k r.1) s)
theorem Parse_tot (s : Str) : Tot (fun k => plan_Parse k s) (ParseOut s) := by
  unfold plan_Parse
  refine Tot.ite (fun h => Tot.some _ (.inl ⟨by show (2 : Int) ≠ 0; decide, by show (0 : Int) ≤ 65536; decide, by show (65536 : Int) ≤ _; omega, rfl⟩)) (fun hlen => ?_)
  have hs : List.length s ≤ 65536 := by omega
  refine Tot.bind (words_tot s hs) (fun r hr => ?_)
  obtain ⟨⟨hl, hf⟩, h0, h1⟩ := hr
  refine Tot.ite (fun he => Tot.some _ (.inl ⟨he, h0, h1, rfl⟩)) (fun _ => ?_)
  refine Tot.bind (plan_tot (⟨r.1, 0, (List.length s : Int)⟩ : plan_reader) (List.length s) rfl ⟨by show (0 : Int) ≤ List.length s; omega, Int.le_refl _⟩ (by show r.1.length ≤ _; omega) hf) (fun o ho => ?_)
  obtain ⟨ow, o0, oo⟩ := ho
  have ow' : o.2.2.2.1 = r.1 := ow
  refine Tot.ite (fun _ => ?_) (fun hok => ?_)
  · obtain ⟨v, hv, hv0, hv1⟩ := here_ev (⟨o.2.2.2.1, o.2.2.2.2, (List.length s : Int)⟩ : plan_reader) o0 (List.length s) ⟨by show (0 : Int) ≤ List.length s; omega, Int.le_refl _⟩ (fun w hw => (hf w (ow' ▸ hw)).at0)
    exact Tot.bindO hv (Tot.some _ (.inl ⟨by show (150 : Int) ≠ 0; decide, hv0, hv1, rfl⟩))
  · have hok' : o.2.2.1 = true := by simpa using hok
    obtain ⟨q1, q2, q3, q4, q5⟩ := oo hok'
    obtain ⟨c, hc, hev⟩ := check_tot o.1
    refine Tot.bindEv hev (Tot.ite (fun hne => ?_) (fun h0' => ?_))
    · obtain ⟨g1, g2⟩ := hc.resolve_left hne
      obtain ⟨a, ha, ham⟩ := atL_at (l := o.2.1) (i := c.2) g1 (by rw [q1]; exact g2 q2)
      obtain ⟨k0, k1⟩ := q3 a (List.mem_of_getElem? ham)
      exact Tot.bindO ha (Tot.some _ (.inl ⟨hne, k0, k1, rfl⟩))
    · have h0c : c.1 = 0 := Classical.not_not.1 h0'
      have h32 : o.1.Steps.length ≤ 32 := by
        by_cases h : o.1.Steps.length ≤ 32
        · exact h
        · obtain ⟨c', hne', hev'⟩ := check_many o.1 (by omega)
          rw [Ev.uniq hev hev'] at h0c
          exact absurd h0c hne'
      obtain ⟨t, ht, hevt⟩ := write_tot o.1 ⟨h32, q4, q5⟩
      refine Tot.bindEv hevt (Tot.ite (fun hne => ?_) (fun heq => ?_))
      · refine (Parse_l0 s t hs (by omega) _ 0 (Nat.le_refl _) (Nat.zero_le _)).mono (fun x hx => ?_)
        obtain ⟨x1, x2, x3, x4⟩ := hx
        exact .inl ⟨by rw [x2]; decide, x3, x4, x1⟩
      · have hts : t = s := Classical.not_not.1 heq
        refine Tot.some _ (.inr ⟨rfl, rfl, ⟨c.2, ?_⟩, ?_⟩)
        · have : c = (0, c.2) := by rw [← h0c]
          rw [← this]
          exact hev
        · rw [← hts]
          exact hevt
theorem Check_ev {p : api_Plan} {c : Int × Int} (h : Ev (fun k => plan_check k p) c) : Ev (fun k => plan_Check k p) c.1 := h.bind (Ev.some _)
end Go.Z
