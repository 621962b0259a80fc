/- A part of the pure law: facts of the functions that the walks compute, no program in sight. -/
import Derived.Test.YtlmdkofcombcmaaDoorL15
set_option linter.unusedVariables false
namespace Go.Z
open Go
open Go.RowKit (wrap32 wrap64)
/-! ## A line's words, its plan -/
def WordsOut (n : Int) (r : List api_Word × Int × Int) : Prop := ((r.1.length : Int) ≤ n ∧ ∀ w ∈ r.1, WordFits n w) ∧ 0 ≤ r.2.2 ∧ r.2.2 ≤ n
theorem WordsOut.err {n : Int} (e at' : Int) (h0 : 0 ≤ at') (h1 : at' ≤ n) : WordsOut n (([] : List api_Word), e, at') := ⟨⟨by show (0 : Int) ≤ n; omega, fun w hw => by cases hw⟩, h0, h1⟩
theorem words_j0 (n : Int) (hn : 0 ≤ n) (a : List api_Word) (b c : Int) (out : List api_Word) (hl : (out.length : Int) ≤ n) (hf : ∀ w ∈ out, WordFits n w) : Tot (fun k => text_Words.j0 k a b c out) (WordsOut n) := by
  refine Tot.step (fun k => text_Words.j0.eq_2 ..) ?_
  exact Tot.some _ ⟨⟨hl, hf⟩, Int.le_refl _, hn⟩
theorem words_l1 (s : Str) (hs : List.length s ≤ 65536) (a : List api_Word) (b c : Int) : ∀ (m i : Nat) (out : List api_Word), List.length s - i ≤ m → i ≤ List.length s → out.length ≤ i → (∀ w ∈ out, WordFits (List.length s) w) → Tot (fun k => text_Words.l1 k s a b c out i) (WordsOut (List.length s))
  | m, i, out, hm, hi, hl, hf => by
    refine Tot.step (fun k => text_Words.l1.eq_2 ..) ?_
    have done : Tot (fun k => text_Words.j0 k a b c out) (WordsOut (List.length s)) := words_j0 _ (by omega) a b c out (by omega) hf
    refine Tot.ite (fun hlt => ?_) (fun _ => done)
    obtain ⟨x, hx, _⟩ := atL_at (l := (s : List UInt8)) (i := (i : Int)) (by omega) hlt
    refine Tot.bindO hx (Tot.ite (fun _ => done) (fun _ => Tot.bindX (blank_ev x) (fun z => Tot.ite (fun _ => ?_) (fun _ => ?_))))
    · rw [wrap64_id (n := (i : Int) + 1) (by omega) (by omega)]
      match m, hm with
      | 0, hm => omega
      | m + 1, hm => exact words_l1 s hs a b c m (i + 1) out (by omega) (by omega) (by omega) hf
    · obtain ⟨q, hq, _, hql⟩ := subS_at s (lo := (i : Int)) (hi := List.length s) (by omega) (by omega) (Int.le_refl _)
      refine Tot.bindO hq (Tot.bind (word_tot q (by omega) (by omega)) (fun r hr => ?_))
      obtain ⟨ht, hnum, hok, ha0, ha1⟩ := hr
      refine Tot.ite (fun _ => ?_) (fun he => ?_)
      · rw [wrap64_id (by omega) (by omega)]
        exact Tot.some _ (WordsOut.err _ _ (by omega) (by omega))
      · obtain ⟨hn1, hn2⟩ := hok (Classical.not_not.1 he)
        obtain ⟨n, hn⟩ : ∃ n : Nat, r.2.1 = (n : Int) := ⟨r.2.1.toNat, by omega⟩
        rw [hn] at hn1 hn2 ⊢
        rw [wrap64_id (n := (i : Int) + (n : Int)) (by omega) (by omega)]
        refine Tot.ite (fun _ => ?_) (fun h => absurd (show out.length + 1 ≤ _ by omega) h)
        have hgt : ((i : Int) + (n : Int)) = ((i + n : Nat) : Int) := by omega
        refine Tot.bindX ?_ (fun z => Tot.ite (fun _ => ?_) (fun _ => ?_))
        · refine iex (fun _ => iex (fun hlt2 => ?_) (fun _ => ⟨_, rfl⟩)) (fun _ => ⟨_, rfl⟩)
          obtain ⟨y, hy, _⟩ := atL_at (l := (s : List UInt8)) (i := (i : Int) + (n : Int)) (by omega) hlt2
          refine bex ⟨y, hy⟩ (fun _ => bex (blank_ev _) (fun _ => iex (fun _ => bex ⟨y, hy⟩ (fun _ => iex (fun _ => bex ⟨y, hy⟩ (fun _ => bex ⟨_, rfl⟩ (fun _ => ⟨_, rfl⟩))) (fun _ => ⟨_, rfl⟩))) (fun _ => ⟨_, rfl⟩)))
        · obtain ⟨q2, hq2, _⟩ := subS_at s (lo := (i : Int) + (n : Int)) (hi := List.length s) (by omega) (by omega) (Int.le_refl _)
          obtain ⟨e, he2, _⟩ := other_ev q2
          exact Tot.bindO hq2 (Tot.bindO he2 (Tot.some _ (WordsOut.err _ _ (by omega) (by omega))))
        · rw [hgt]
          match m, hm with
          | 0, hm => omega
          | m + 1, hm =>
            refine words_l1 s hs a b c m (i + n) _ (by omega) (by omega) (by rw [List.length_append]; show out.length + 1 ≤ _; omega) (fun w hw => ?_)
            rcases List.mem_append.1 hw with h | h
            · exact hf w h
            · obtain rfl := List.mem_singleton.1 h
              exact ⟨ht, hnum, by show (0 : Int) ≤ (i : Int); omega, by show (i : Int) ≤ _; omega⟩
theorem words_tot (s : Str) (hs : List.length s ≤ 65536) : Tot (fun k => text_Words k s) (WordsOut (List.length s)) := by
  unfold text_Words
  exact Tot.ite (fun h => absurd h (by omega)) (fun _ => words_l1 s hs [] 0 0 _ 0 [] (Nat.le_refl _) (Nat.zero_le _) (Nat.le_refl _) (fun w hw => by cases hw))
/-- What the reader's plan is. -/
def PlanOut (n : Int) (r : plan_reader) (o : api_Plan × List Int × Bool × List api_Word × Int) : Prop :=
  o.2.2.2.1 = r.words_ ∧ 0 ≤ o.2.2.2.2 ∧ (o.2.2.1 = true → o.2.1.length = o.1.Steps.length ∧ 1 ≤ o.1.Steps.length ∧ (∀ a ∈ o.2.1, 0 ≤ a ∧ a ≤ n) ∧ List.length o.1.Name ≤ 65536 ∧ ∀ s ∈ o.1.Steps, StepFits s)
theorem plan_l0 (r : plan_reader) (n : Int) (he : 0 ≤ r.end_ ∧ r.end_ ≤ n) (hrw : r.words_.length ≤ 65536) (hrf : ∀ w ∈ r.words_, WordFits n w) (w : api_Word × Bool × Int) (hw : WordFits n w.1) (bb : Bool) :
    ∀ (m : Nat) (ats : List Int) (gs : List Bool) (at' pv : Int) (xs : List api_Step), r.words_.length - at'.toNat ≤ m → 0 ≤ at' → at' ≤ r.words_.length → (xs.length : Int) ≤ at' → ats.length = xs.length → gs.length = xs.length → (∀ a ∈ ats, 0 ≤ a ∧ a ≤ n) → (∀ s ∈ xs, StepFits s) →
      Tot (fun k => plan_reader_plan.l0 k r w ats bb gs r.words_ at' pv xs) (PlanOut n r)
  | m, ats, gs, at', pv, xs, hm, h0, h1, hx, ha, hg, hat, hf => by
    refine Tot.step (fun k => plan_reader_plan.l0.eq_2 ..) ?_
    obtain ⟨v, hv, hv0, hv1⟩ := here_ev ⟨r.words_, at', r.end_⟩ h0 n he (fun w hw => (hrf w hw).at0)
    obtain ⟨o, ho, ow, o0, o1, o2⟩ := step_ev ⟨r.words_, at', r.end_⟩ (⟨w.1.Text, pv, xs⟩ : api_Plan) n (by show r.words_.length ≤ _; omega) hrf (by show xs.length ≤ _; omega) h0 h1
    have o0' : at' ≤ o.2.2.2.1 := o0
    have o1' : o.2.2.2.1 ≤ r.words_.length := o1
    refine Tot.bindO hv (Tot.bindO ho (Tot.ite (fun _ => Tot.some _ ⟨ow, by show 0 ≤ o.2.2.2.1; omega, fun h => by cases h⟩) (fun hok => ?_)))
    have hok' : o.2.1 = true := by simpa using hok
    obtain ⟨hgt, s, hsf, hse⟩ := o2 hok'
    have hgt' : at' < o.2.2.2.1 := hgt
    have hse' : o.2.2.2.2.2 = xs ++ [s] := hse
    have ow' : o.2.2.1 = r.words_ := ow
    have hl : o.2.2.2.2.2.length = xs.length + 1 := by rw [hse', List.length_append]; rfl
    have hf' : ∀ t ∈ o.2.2.2.2.2, StepFits t := fun t ht => by
      rw [hse'] at ht
      rcases List.mem_append.1 ht with h | h
      · exact hf t h
      · exact List.mem_singleton.1 h ▸ hsf
    have hat' : ∀ a ∈ ats ++ ([v] : List Int), 0 ≤ a ∧ a ≤ n := fun a h => by
      rcases List.mem_append.1 h with h | h
      · exact hat a h
      · exact List.mem_singleton.1 h ▸ ⟨hv0, hv1⟩
    refine Tot.ite (fun _ => ?_) (fun h => absurd (show gs.length + 1 ≤ _ by omega) h)
    refine Tot.ite (fun _ => ?_) (fun h => absurd (show ats.length + 1 ≤ _ by omega) h)
    refine Tot.ite (fun _ => ?_) (fun _ => ?_)
    · refine (plan_l1 w ats gs v o (by rw [hl, List.length_append]; show gs.length + 1 = _; omega) (by omega) _ 0 _ (Nat.zero_add _) rfl hf').mono (fun q hq => ?_)
      obtain ⟨⟨ys, e1, e2, e3⟩, q2, q3, q4, q5⟩ := hq
      refine ⟨by rw [q4]; exact ow', by rw [q5]; omega, fun _ => ?_⟩
      rw [q2, e1]
      exact ⟨by show (ats ++ ([v] : List Int)).length = ys.length; rw [e2, hl, List.length_append]; show ats.length + 1 = _; omega, by show 1 ≤ ys.length; omega, hat', hw.text, e3⟩
    · rw [ow']
      obtain ⟨w2, b2, a2, e2, f2, t2⟩ := take_ev ⟨r.words_, o.2.2.2.1, r.end_⟩ 4 (lit [44]) (by show 0 ≤ o.2.2.2.1; omega) (by show r.words_.length ≤ _; omega)
      refine Tot.bindO e2 ?_
      cases b2 with
      | false =>
        have f2' : a2 = o.2.2.2.1 := f2 rfl
        refine Tot.ite (fun _ => Tot.some _ ⟨rfl, by show 0 ≤ a2; omega, fun h => by cases h⟩) (fun h => absurd rfl h)
      | true =>
        obtain ⟨k1, k2, _⟩ := t2 rfl
        have k1' : a2 = o.2.2.2.1 + 1 := k1
        have k2' : a2 ≤ r.words_.length := k2
        refine Tot.ite (fun h => by cases h) (fun _ => ?_)
        match m, hm with
        | 0, hm => omega
        | m + 1, hm => exact plan_l0 r n he hrw hrf w hw bb m _ _ a2 _ _ (by omega) (by omega) k2' (by omega) (by rw [hl, List.length_append]; show ats.length + 1 = _; omega) (by rw [hl, List.length_append]; show gs.length + 1 = _; omega) hat' hf'
theorem plan_tot (r : plan_reader) (n : Int) (hr0 : r.at_ = 0) (he : 0 ≤ r.end_ ∧ r.end_ ≤ n) (hrw : r.words_.length ≤ 65536) (hrf : ∀ w ∈ r.words_, WordFits n w) : Tot (fun k => plan_reader_plan k r) (PlanOut n r) := by
  unfold plan_reader_plan
  obtain ⟨w1, b1, a1, e1, f1, t1⟩ := take_ev r 1 (lit []) (by omega) (by omega)
  refine Tot.bindO e1 ?_
  cases b1 with
  | false =>
    have f1' : a1 = r.at_ := f1 rfl
    exact Tot.ite (fun _ => Tot.some _ ⟨rfl, by show 0 ≤ a1; omega, fun h => by cases h⟩) (fun h => absurd rfl h)
  | true =>
    obtain ⟨g1, g2, g3⟩ := t1 rfl
    have g1' : a1 = r.at_ + 1 := g1
    refine Tot.ite (fun h => by cases h) (fun _ => ?_)
    obtain ⟨w2, b2, a2, e2, f2, t2⟩ := take_ev ⟨r.words_, a1, r.end_⟩ 4 (lit [58]) (by show 0 ≤ a1; omega) (by show r.words_.length ≤ _; omega)
    refine Tot.bindO e2 ?_
    cases b2 with
    | false =>
      have f2' : a2 = a1 := f2 rfl
      exact Tot.ite (fun _ => Tot.some _ ⟨rfl, by show 0 ≤ a2; omega, fun h => by cases h⟩) (fun h => absurd rfl h)
    | true =>
      obtain ⟨k1, k2, _⟩ := t2 rfl
      have k1' : a2 = a1 + 1 := k1
      have k2' : a2 ≤ r.words_.length := k2
      refine Tot.ite (fun h => by cases h) (fun _ => ?_)
      exact plan_l0 r n he hrw hrf (w1, true, a1) (hrf w1 g3) true _ [] [] a2 0 [] (Nat.le_refl _) (by omega) k2' (by show (0 : Int) ≤ a2; omega) rfl rfl (fun a h => by cases h) (fun s h => by cases h)
end Go.Z
