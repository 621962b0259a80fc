/- A part of the pure law: facts of the functions that the walks compute, no program in sight. -/
import Derived.Test.YtlmdkofcombcmaaDoorN4
set_option linter.unusedVariables false
namespace Go.Z
open Go
open Go.RowKit (wrap32 wrap64)
/-! ## What passes the check -/
theorem isName_ex (s : Str) : ∃ b, Ev (fun k => plan_isName k s) b := let ⟨b, _, h⟩ := isName_tot s; ⟨b, h⟩
theorem checkStep_inv (s : api_Step) (v : Int) (mp : List (Str × Int)) (h : Ev (fun k => plan_checkStep k s v mp) 0) :
    IsName s.Do ∧ (s.Undo ≠ lit [] → IsName s.Undo) ∧ (v = 0 ↔ s.Undo ≠ lit []) ∧ (v = 2 → s.Tries = 0) ∧ (v ≠ 2 → 1 ≤ s.Tries ∧ s.Tries ≤ 1000) := by
  unfold plan_checkStep at h
  obtain ⟨b1, h1⟩ := isName_ex s.Do
  obtain ⟨b2, h2⟩ := isName_ex s.Undo
  have key : Ev (fun k => (plan_isName k s.Do).bind (fun (r8 : Bool) => (if (!r8) = true then (some true) else (if (s.Undo : Str) ≠ (lit []) then (plan_isName k s.Undo).bind (fun (r16 : Bool) => (some (!r16))) else (some false))))) (!b1 || (decide (s.Undo ≠ lit []) && !b2)) := by
    refine h1.bind ?_
    cases b1 with
    | false => exact Ev.some _
    | true =>
      refine Ev.no (by decide) ?_
      by_cases hu : s.Undo ≠ lit []
      · rw [decide_eq_true hu]
        refine Ev.yes hu (h2.bind ?_)
        simp only [Bool.not_true, Bool.false_or, Bool.true_and]
        exact Ev.some _
      · rw [decide_eq_false hu]
        exact Ev.no hu (Ev.some _)
  have h := Ev.unbind key h
  cases hz : (!b1 || (decide (s.Undo ≠ lit []) && !b2)) with
  | true =>
    rw [hz] at h
    have := Ev.inv (Ev.unyes rfl h)
    cases this
  | false =>
    rw [hz] at h
    have h := Ev.unno (by decide) h
    obtain ⟨z1, z2⟩ := Bool.or_eq_false_iff.1 hz
    have hb1 : b1 = true := by simpa using z1
    rw [hb1] at h1
    by_cases hc : (decide ((v : Int) = 0)) ≠ (decide ((s.Undo : Str) ≠ (lit [])))
    · have := Ev.inv (Ev.unyes hc h)
      cases this
    · have h := Ev.unno hc h
      have hc' : decide ((v : Int) = 0) = decide ((s.Undo : Str) ≠ (lit [])) := Classical.not_not.1 hc
      have hiff : v = 0 ↔ s.Undo ≠ lit [] := decide_eq_decide.1 hc'
      have hun : s.Undo ≠ lit [] → IsName s.Undo := fun hu => by
        rw [decide_eq_true hu, Bool.true_and] at z2
        have hb2 : b2 = true := by simpa using z2
        rw [hb2] at h2
        exact isName_of _ h2
      by_cases h2' : v = 2
      · by_cases ht : s.Tries ≠ 0
        · have h := Ev.unbindO (x := true) (by rw [if_pos h2', if_pos ht]) h
          have := Ev.inv (Ev.unyes rfl h)
          cases this
        · exact ⟨isName_of _ h1, hun, hiff, fun _ => Classical.not_not.1 ht, fun h => absurd h2' h⟩
      · by_cases ht : s.Tries < 1
        · have h := Ev.unbindO (x := true) (by rw [if_neg h2', if_pos h2', if_pos ht]) h
          have := Ev.inv (Ev.unyes rfl h)
          cases this
        · by_cases ht2 : (1000 : Int) < s.Tries
          · have h := Ev.unbindO (x := true) (by rw [if_neg h2', if_pos h2', if_neg ht, decide_eq_true ht2]) h
            have := Ev.inv (Ev.unyes rfl h)
            cases this
          · exact ⟨isName_of _ h1, hun, hiff, fun h => absurd h h2', fun _ => ⟨by omega, by omega⟩⟩
theorem stepOK_of (p : api_Plan) (j : Nat) (s : api_Step) (mp : List (Str × Int)) (h : Ev (fun k => plan_checkStep k s (plc p j) mp) 0) : StepOK p j s := by
  obtain ⟨h1, h2, h3, h4, h5⟩ := checkStep_inv s _ mp h
  exact ⟨h1, fun h0 => h2 (h3.1 h0), fun h0 => Classical.byContradiction (fun hu => h0 (h3.2 hu)), h4, h5⟩
theorem check_inv (p : api_Plan) (b c x : Int) (hp : p.Steps.length ≤ 32) : ∀ (m i : Nat) (mp : List (Str × Int)), i + m = p.Steps.length → Ev (fun k => plan_check.l0 k p b c i mp) (0, x) → ∀ (j : Nat) s, i ≤ j → p.Steps[j]? = some s → StepOK p j s
  | 0, i, mp, h, hev, j, s, hij, hs => by
    have := (List.getElem?_eq_some_iff.1 hs).1
    omega
  | m + 1, i, mp, h, hev, j, s, hij, hs => by
    obtain ⟨q, hq, hqi⟩ := atL_at (l := p.Steps) (i := (i : Int)) (by omega) (by omega)
    rw [Int.toNat_natCast] at hqi
    have hev := Ev.unstep (F := fun k => plan_check.l0 k p b c i mp) (fun k => plan_check.l0.eq_2 ..) hev
    have hev := Ev.unbindO hq (Ev.unyes (by omega) hev)
    have hev := Ev.unbindO (place_ev p i (by omega)) hev
    obtain ⟨r, _, hr⟩ := checkStep_tot q (plc p i) mp
    have hev := Ev.unbind hr hev
    by_cases hr0 : (r : Int) ≠ 0
    · have := Ev.inv (Ev.unyes hr0 hev)
      exact absurd (congrArg Prod.fst this) hr0
    · have hev := Ev.unno hr0 hev
      have hr0' : r = 0 := Classical.not_not.1 hr0
      rw [hr0'] at hr
      have next : ∀ mp', Ev (fun k => plan_check.j0 k p b c i mp') (0, x) → i + 1 ≤ j → StepOK p j s := fun mp' hj hij' => by
        have hj := Ev.unstep (F := fun k => plan_check.j0 k p b c i mp') (fun k => plan_check.j0.eq_2 ..) hj
        rw [wrap64_id (by omega) (by omega)] at hj
        exact check_inv p b c x hp m (i + 1) mp' (by omega) hj j s hij' hs
      by_cases hji : j = i
      · subst hji
        rw [hs] at hqi
        obtain rfl := Option.some.inj hqi
        exact stepOK_of p j s mp hr
      · by_cases hu : (q.Undo : Str) ≠ (lit [])
        · exact next _ (Ev.unyes hu hev) (by omega)
        · exact next _ (Ev.unno hu hev) (by omega)
theorem planOK_of (p : api_Plan) (x : Int) (h : Ev (fun k => plan_check k p) (0, x)) : PlanOK p := by
  unfold plan_check at h
  obtain ⟨b1, h1⟩ := isName_ex p.Name
  have h := Ev.unbind h1 h
  cases b1 with
  | false =>
    have := Ev.inv (Ev.unyes rfl h)
    cases this
  | true =>
    have h := Ev.unno (by decide) h
    by_cases h0 : (p.Steps.length : Int) = 0
    · have h := Ev.unbindO (x := true) (by rw [if_pos h0]) h
      have := Ev.inv (Ev.unyes rfl h)
      cases this
    · by_cases h32 : (32 : Int) < p.Steps.length
      · have h := Ev.unbindO (x := true) (by rw [if_neg h0, decide_eq_true h32]) h
        have := Ev.inv (Ev.unyes rfl h)
        cases this
      · have h := Ev.unbindO (x := false) (by rw [if_neg h0, decide_eq_false h32]) h
        have h := Ev.unno (by decide) h
        by_cases hp0 : p.Pivot < 0
        · have h := Ev.unbindO (x := true) (by rw [if_pos hp0]) h
          have := Ev.inv (Ev.unyes rfl h)
          cases this
        · by_cases hp1 : (p.Steps.length : Int) < p.Pivot
          · have h := Ev.unbindO (x := true) (by rw [if_neg hp0, decide_eq_true hp1]) h
            have := Ev.inv (Ev.unyes rfl h)
            cases this
          · have h := Ev.unbindO (x := false) (by rw [if_neg hp0, decide_eq_false hp1]) h
            have h := Ev.unno (by decide) h
            exact ⟨isName_of _ h1, by omega, by omega, ⟨by omega, by omega⟩, fun j s hs => check_inv p 0 0 x (by omega) _ 0 [] (Nat.zero_add _) h j s (Nat.zero_le _) hs⟩
/-! the pieces of a plan that may be are good -/
theorem Stop.nil : Stop [] := .inl rfl
theorem Stop.sg (b : UInt8) (l : List Pc) (h : b ∈ stops) : Stop (pcText (.sg b :: l)) := .inr ⟨b, pcText l, rfl, h⟩
theorem stop_steps (p : api_Plan) (j : Nat) (h : 0 < j) (l : List api_Step) : Stop (pcText (stepsPcs p j l)) := by
  cases l with
  | nil => exact .inl rfl
  | cons s l =>
    have e : stepsPcs p j (s :: l) = .sg 44 :: ([.bl, .nm (raw s.Do)] ++ (numPcs s.Tries ++ endPcs (plc p j) (raw s.Undo)) ++ stepsPcs p (j + 1) l) := by
      show stepPcs p j s ++ _ = _
      unfold stepPcs commaPcs
      rw [if_pos h]
      rfl
    rw [e]
    exact Stop.sg 44 _ (by decide)
theorem good_end (v : Int) (u : List UInt8) (l : List Pc) (hu : v = 0 → IsName u) (hg : Good l) (hs : Stop (pcText l)) : Good (endPcs v u ++ l) ∧ Stop (pcText (endPcs v u ++ l)) := by
  unfold endPcs
  by_cases h0 : v = 0
  · rw [if_pos h0]
    exact ⟨⟨by show (126 : UInt8) ∈ _; decide, fun h => h.elim, hu h0, fun _ => hs, hg⟩, Stop.sg 126 _ (by decide)⟩
  · rw [if_neg h0]
    by_cases h1 : v = 1
    · rw [if_pos h1]
      exact ⟨⟨by show (33 : UInt8) ∈ _; decide, fun h => h.elim, hg⟩, Stop.sg 33 _ (by decide)⟩
    · rw [if_neg h1]
      exact ⟨hg, hs⟩
theorem good_num (n : Int) (l : List Pc) (hn : n ≤ 1000) (hg : Good l) (hs : Stop (pcText l)) : Good (numPcs n ++ l) ∧ Stop (pcText (numPcs n ++ l)) := by
  unfold numPcs
  by_cases h1 : 1 < n
  · rw [if_pos h1]
    exact ⟨⟨by show (42 : UInt8) ∈ _; decide, fun h => h.elim, ⟨by omega, by omega⟩, fun _ => hs, hg⟩, Stop.sg 42 _ (by decide)⟩
  · rw [if_neg h1]
    exact ⟨hg, hs⟩
theorem good_steps (p : api_Plan) : ∀ (l : List api_Step) (j : Nat), (∀ (i : Nat) s, l[i]? = some s → StepOK p (j + i) s) → Good (stepsPcs p j l)
  | [], j, _ => trivial
  | s :: l, j, h => by
    have ok : StepOK p j s := h 0 s rfl
    have hg : Good (stepsPcs p (j + 1) l) := good_steps p l (j + 1) (fun i t ht => by
      have := h (i + 1) t ht
      rwa [show j + (i + 1) = j + 1 + i by omega] at this)
    have hs := stop_steps p (j + 1) (by omega) l
    obtain ⟨g1, s1⟩ := good_end (plc p j) (raw s.Undo) _ ok.undo hg hs
    obtain ⟨g2, s2⟩ := good_num s.Tries _ ok.most.1 g1 s1
    have e : stepsPcs p j (s :: l) = commaPcs j ++ (.bl :: .nm (raw s.Do) :: (numPcs s.Tries ++ (endPcs (plc p j) (raw s.Undo) ++ stepsPcs p (j + 1) l))) := by
      show (commaPcs j ++ ([.bl, .nm (raw s.Do)] ++ (numPcs s.Tries ++ endPcs (plc p j) (raw s.Undo)))) ++ stepsPcs p (j + 1) l = _
      rw [List.append_assoc, List.append_assoc, List.append_assoc]
      rfl
    rw [e]
    have g3 : Good (.bl :: .nm (raw s.Do) :: (numPcs s.Tries ++ (endPcs (plc p j) (raw s.Undo) ++ stepsPcs p (j + 1) l))) := ⟨trivial, fun h => h.elim, ok.do_, fun _ => s2, g2⟩
    unfold commaPcs
    by_cases h0 : 0 < j
    · rw [if_pos h0]
      exact ⟨by show (44 : UInt8) ∈ _; decide, fun h => h.elim, g3⟩
    · rw [if_neg h0]
      exact g3
theorem good_plan (p : api_Plan) (hp : PlanOK p) : Good (planPcs p) :=
  ⟨hp.name, fun _ => Stop.sg 58 _ (by decide), by show (58 : UInt8) ∈ _; decide, fun h => h.elim, good_steps p p.Steps 0 (fun i s hs => by rw [Nat.zero_add]; exact hp.each i s hs)⟩
end Go.Z
