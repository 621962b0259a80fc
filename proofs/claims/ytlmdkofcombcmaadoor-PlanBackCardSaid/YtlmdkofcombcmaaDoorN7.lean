/- A part of the pure law: facts of the functions that the walks compute, no program in sight. -/
import Derived.Test.YtlmdkofcombcmaaDoorN6
set_option linter.unusedVariables false
namespace Go.Z
open Go
open Go.RowKit (wrap32 wrap64)
/-! ## What is printed is read again -/
theorem plc_pivot (p q : api_Plan) (h : q.Pivot = p.Pivot) (j : Int) : plc q j = plc p j := by
  unfold plc
  rw [h]
theorem raw_given {s : api_Step} (h : 1 < s.Tries) : rawStep s = s := by
  unfold rawStep
  rw [if_pos h]
theorem raw_fix {s : api_Step} (h : ¬ 1 < s.Tries) (h1 : 1 ≤ s.Tries) : (⟨s.Do, s.Undo, 1⟩ : api_Step) = s := by
  have : s.Tries = 1 := by omega
  cases s
  simp only at this
  rw [this]
theorem raw_none {s : api_Step} (h : s.Tries = 0) : rawStep s = s := by
  cases s
  simp only at h
  subst h
  rfl
theorem split_at (xs : List api_Step) (i : Nat) (s : api_Step) (h : xs[i]? = some s) : xs.take (i + 1) = xs.take i ++ [s] ∧ xs.drop i = s :: xs.drop (i + 1) := by
  obtain ⟨hlt, e⟩ := List.getElem?_eq_some_iff.1 h
  exact ⟨by rw [List.take_succ_eq_append_getElem hlt, e], by rw [List.drop_eq_getElem_cons hlt, e]⟩
theorem l1_ev (p : api_Plan) (hp : PlanOK p) (r8 : api_Word × Bool × Int) (hr8 : r8.1.Text = p.Name) (ats : List Int) (bs : List Bool) (here : Int) (o : Bool × Bool × (List api_Word) × Int × Int × (List api_Step)) (ho1 : bs ++ [o.1] = p.Steps.map (fun s => decide (1 < s.Tries))) (ho2 : o.2.2.2.2.1 = p.Pivot) (ho3 : o.2.2.2.2.2.length = p.Steps.length) :
    ∀ (m i : Nat) (xs : List api_Step), i + m = p.Steps.length → xs = p.Steps.take i ++ (p.Steps.drop i).map rawStep → Ev (fun k => plan_reader_plan.l1 k r8 ats bs here o (i : Int) xs) (p, ats ++ [here], true, o.2.2.1, o.2.2.2.1)
  | 0, i, xs, h, hx => by
    have h32 := hp.most
    rw [List.take_of_length_le (by omega), List.drop_of_length_le (by omega), List.map_nil, List.append_nil] at hx
    refine Ev.step (fun k => plan_reader_plan.l1.eq_2 ..) (Ev.no (by omega) ?_)
    rw [hr8, ho2, hx]
    exact Ev.some _
  | m + 1, i, xs, h, hx => by
    have h32 := hp.most
    have hi : i < p.Steps.length := by omega
    obtain ⟨s, hs⟩ : ∃ s, p.Steps[i]? = some s := ⟨_, List.getElem?_eq_getElem hi⟩
    have ok := hp.each i s hs
    obtain ⟨et, ed⟩ := split_at p.Steps i s hs
    have hti : (p.Steps.take i).length = i := by rw [List.length_take]; omega
    have hx' : xs = p.Steps.take i ++ rawStep s :: (p.Steps.drop (i + 1)).map rawStep := by rw [hx, ed]; rfl
    have hg : atL (bs ++ ([o.1] : List Bool)) (i : Int) = some (decide (1 < s.Tries)) := by
      unfold atL
      rw [if_pos (by omega), Int.toNat_natCast, ho1, List.getElem?_map, hs]
      rfl
    have hxi : atL xs (i : Int) = some (rawStep s) := by
      unfold atL
      rw [if_pos (by omega), Int.toNat_natCast, hx', List.getElem?_append_right (by omega), hti, Nat.sub_self]
      rfl
    have hpl : plan_place (⟨r8.1.Text, o.2.2.2.2.1, xs⟩ : api_Plan) (i : Int) = some (plc p i) := by
      rw [place_ev _ i (by omega), plc_pivot p (⟨r8.1.Text, o.2.2.2.2.1, xs⟩ : api_Plan) ho2]
    have hset : List.set xs i s = p.Steps.take (i + 1) ++ (p.Steps.drop (i + 1)).map rawStep := by
      rw [hx', List.set_append_right _ _ (by omega), hti, Nat.sub_self, et, List.append_assoc]
      rfl
    have hkeep : rawStep s = s → xs = p.Steps.take (i + 1) ++ (p.Steps.drop (i + 1)).map rawStep := fun e => by
      rw [hx', e, et, List.append_assoc]
      rfl
    refine Ev.step (fun k => plan_reader_plan.l1.eq_2 ..) (Ev.yes (by omega) ?_)
    refine Ev.bindO (x := p.Steps.take (i + 1) ++ (p.Steps.drop (i + 1)).map rawStep) ?_ ?_
    · rw [hg, Option.bind_some, hxi, hpl]
      by_cases hn : 1 < s.Tries
      · rw [decide_eq_true hn, if_neg (by decide), Option.bind_some, if_neg (by decide), ← hkeep (raw_given hn)]
      · rw [decide_eq_false hn, if_pos (by decide), Option.bind_some, Option.bind_some]
        by_cases h2 : plc p i = 2
        · rw [h2, if_neg (by decide), ← hkeep (raw_none (ok.back h2))]
        · rw [decide_eq_true h2, if_pos rfl, Option.bind_some, Int.toNat_natCast]
          have e : (⟨(rawStep s).Do, (rawStep s).Undo, 1⟩ : api_Step) = s := raw_fix hn (ok.tries h2).1
          rw [e, hset]
    · rw [wrap64_id (by omega) (by omega)]
      exact l1_ev p hp r8 hr8 ats bs here o ho1 ho2 ho3 m (i + 1) _ (by omega) rfl
theorem pv_end (p : api_Plan) (hp : PlanOK p) : pvAt p p.Steps.length = p.Pivot := by
  have := hp.piv
  unfold pvAt
  split <;> omega
theorem l0_ev (p : api_Plan) (hp : PlanOK p) (W : List api_Word) (hW : W.length ≤ 65536) (e : Int) (r8 : api_Word × Bool × Int) (hr8 : r8.1.Text = p.Name) (bb : Bool) :
    ∀ (l : List api_Step) (j : Nat) (s : api_Step) (ats : List Int) (gs : List Bool) (xs : List api_Step) (n : Nat), p.Steps[j]? = some s → p.Steps.drop (j + 1) = l → ats.length = j → gs = (p.Steps.take j).map (fun s => decide (1 < s.Tries)) → xs = (p.Steps.take j).map rawStep →
      Lft W n ((1, raw s.Do, 0) :: (numToks s.Tries ++ endToks (plc p j) (raw s.Undo)) ++ pcToks (stepsPcs p (j + 1) l)) →
      ∃ ats' at', Ev (fun k => plan_reader_plan.l0 k (⟨W, 0, e⟩ : plan_reader) r8 ats bb gs W (n : Int) (pvAt p j) xs) (p, ats', true, W, at')
  | l, j, s, ats, gs, xs, n, hs, hl, ha, hg, hx, hat => by
    have h32 := hp.most
    obtain ⟨hj, _⟩ := List.getElem?_eq_some_iff.1 hs
    obtain ⟨et, ed⟩ := split_at p.Steps j s hs
    have hlen : xs.length = j := by rw [hx, List.length_map, List.length_take]; omega
    have hgl : gs.length = j := by rw [hg, List.length_map, List.length_take]; omega
    obtain ⟨v, hv⟩ := here_ex W n e
    obtain ⟨n', hst, hat'⟩ := step_val W (by omega) e p j (by omega) hp.piv.1 s (hp.each j s hs) r8.1.Text xs hlen n _ (sep_steps p (j + 1) (by omega) l) hat
    have hx' : xs ++ [rawStep s] = (p.Steps.take (j + 1)).map rawStep := by rw [et, List.map_append, ← hx]; rfl
    have hg' : gs ++ ([decide (1 < s.Tries)] : List Bool) = (p.Steps.take (j + 1)).map (fun s => decide (1 < s.Tries)) := by rw [et, List.map_append, ← hg]; rfl
    cases l with
    | nil =>
      have hn' := hat'.nil
      have hend : p.Steps.length = j + 1 := by
        have := congrArg List.length hl
        rw [List.length_drop, List.length_nil] at this
        omega
      rw [List.take_of_length_le (by omega)] at hx' hg'
      refine ⟨ats ++ [v], (n' : Int), ?_⟩
      refine Ev.step (fun k => plan_reader_plan.l0.eq_2 ..) (Ev.bindO hv (Ev.bindO hst (Ev.no (fun h => Bool.noConfusion h) (Ev.yes (by show gs.length + 1 ≤ _; omega) (Ev.yes (by show ats.length + 1 ≤ _; omega) (Ev.yes (by show (n' : Int) = (W.length : Int); omega) ?_))))))
      have := l1_ev p hp r8 hr8 ats gs v (decide (1 < s.Tries), true, W, (n' : Int), pvAt p (j + 1), xs ++ [rawStep s]) hg' (by show pvAt p (j + 1) = _; rw [← hend]; exact pv_end p hp) (by show (xs ++ [rawStep s]).length = _; rw [hx', List.length_map]) _ 0 (xs ++ [rawStep s]) (Nat.zero_add _) (by rw [hx', List.take_zero, List.drop_zero, List.nil_append])
      exact this
    | cons s2 l2 =>
      have hs2 : p.Steps[j + 1]? = some s2 := by
        have := congrArg (fun z => z[0]?) hl
        simpa using this
      have hl2 : p.Steps.drop (j + 1 + 1) = l2 := by
        have := congrArg (List.drop 1) hl
        rw [List.drop_drop] at this
        simpa using this
      have etk : pcToks (stepsPcs p (j + 1) (s2 :: l2)) = (4, [44], 0) :: ((1, raw s2.Do, 0) :: (numToks s2.Tries ++ endToks (plc p ((j + 1 : Nat) : Int)) (raw s2.Undo)) ++ pcToks (stepsPcs p (j + 1 + 1) l2)) := by
        have e1 : pcToks (stepsPcs p (j + 1) (s2 :: l2)) = pcToks (stepPcs p (j + 1) s2) ++ pcToks (stepsPcs p (j + 1 + 1) l2) := pcToks_app _ _
        rw [e1, toks_step]
        unfold commaToks
        rw [if_pos (by omega)]
        rfl
      rw [etk] at hat'
      have hlt := hat'.cons
      obtain ⟨_, _, _, _, hlt⟩ := hlt
      obtain ⟨w2, t2, _, at2⟩ := take_hit e hat' (by omega) (lit [44]) (.inr rfl)
      obtain ⟨ats', at', ih⟩ := l0_ev p hp W hW e r8 hr8 bb l2 (j + 1) s2 (ats ++ [v]) (gs ++ [decide (1 < s.Tries)]) (xs ++ [rawStep s]) (n' + 1) hs2 hl2 (by rw [List.length_append, ha]; rfl) hg' hx' at2
      refine ⟨ats', at', ?_⟩
      refine Ev.step (fun k => plan_reader_plan.l0.eq_2 ..) (Ev.bindO hv (Ev.bindO hst (Ev.no (fun h => Bool.noConfusion h) (Ev.yes (by show gs.length + 1 ≤ _; omega) (Ev.yes (by show ats.length + 1 ≤ _; omega) (Ev.no (by show ¬ (n' : Int) = (W.length : Int); omega) (Ev.bindO t2 (Ev.no (fun h => Bool.noConfusion h) ih))))))))
theorem planToks (p : api_Plan) : pcToks (planPcs p) = (1, raw p.Name, 0) :: (4, [58], 0) :: pcToks (stepsPcs p 0 p.Steps) := rfl
theorem plan_ev (p : api_Plan) (hp : PlanOK p) (W : List api_Word) (hW : W.length ≤ 65536) (e : Int) (h : W.map strip = pcToks (planPcs p)) : ∃ ats at', Ev (fun k => plan_reader_plan k (⟨W, 0, e⟩ : plan_reader)) (p, ats, true, W, at') := by
  have h1 := hp.one
  obtain ⟨s, hs⟩ : ∃ s, p.Steps[0]? = some s := ⟨_, List.getElem?_eq_getElem h1⟩
  obtain ⟨_, ed⟩ := split_at p.Steps 0 s hs
  rw [List.drop_zero] at ed
  have hat : Lft W 0 ((1, raw p.Name, 0) :: (4, [58], 0) :: ((1, raw s.Do, 0) :: (numToks s.Tries ++ endToks (plc p ((0 : Nat) : Int)) (raw s.Undo)) ++ pcToks (stepsPcs p (0 + 1) (p.Steps.drop (0 + 1))))) := by
    refine ⟨?_, Nat.zero_le _⟩
    rw [List.drop_zero, h, planToks]
    have e1 : pcToks (stepsPcs p 0 p.Steps) = pcToks (stepPcs p 0 s) ++ pcToks (stepsPcs p (0 + 1) (p.Steps.drop (0 + 1))) := by
      rw [show stepsPcs p 0 p.Steps = stepsPcs p 0 (s :: p.Steps.drop (0 + 1)) from congrArg (stepsPcs p 0) ed]
      exact pcToks_app _ _
    rw [e1, toks_step]
    rfl
  obtain ⟨w1, t1, s1, at1⟩ := take_hit e hat (by omega) (lit []) (.inl rfl)
  obtain ⟨w2, t2, s2, at2⟩ := take_hit e at1 (by omega) (lit [58]) (.inr rfl)
  obtain ⟨ats', at', ih⟩ := l0_ev p hp W hW e (w1, true, ((0 + 1 : Nat) : Int)) (tok_inj s1).2.1 true (p.Steps.drop (0 + 1)) 0 s [] [] [] (0 + 1 + 1) hs rfl rfl rfl rfl at2
  refine ⟨ats', at', ?_⟩
  have h0 : pvAt p 0 = 0 := by unfold pvAt; rw [if_neg (by omega)]
  rw [h0] at ih
  unfold plan_reader_plan
  exact Ev.bindO t1 (Ev.no (fun h => Bool.noConfusion h) (Ev.bindO t2 (Ev.no (fun h => Bool.noConfusion h) ih)))
theorem len_end (v : Int) (u : List UInt8) (h : v = 0 → u.length ≤ 192) : (pcText (endPcs v u)).length ≤ 193 := by
  unfold endPcs
  by_cases h0 : v = 0
  · have := h h0
    rw [if_pos h0, t_end, List.length_cons]
    omega
  · rw [if_neg h0]
    by_cases h1 : v = 1
    · rw [if_pos h1]
      show 1 ≤ 193
      omega
    · rw [if_neg h1]
      show 0 ≤ 193
      omega
theorem len_num (n : Int) (h : n ≤ 1000) : (pcText (numPcs n)).length ≤ 5 := by
  unfold numPcs
  by_cases h1 : 1 < n
  · obtain ⟨_, _, h4⟩ := d4_digits n.toNat (by omega)
    rw [if_pos h1, t_num, List.length_cons]
    omega
  · rw [if_neg h1]
    show 0 ≤ 5
    omega
theorem len_steps (p : api_Plan) : ∀ (l : List api_Step) (j : Nat), (∀ (i : Nat) s, l[i]? = some s → StepOK p (j + i) s) → (pcText (stepsPcs p j l)).length ≤ 400 * l.length
  | [], j, _ => by show 0 ≤ _; omega
  | s :: l, j, h => by
    have ok : StepOK p j s := h 0 s rfl
    have ih := len_steps p l (j + 1) (fun i t ht => by
      have := h (i + 1) t ht
      rwa [show j + (i + 1) = j + 1 + i by omega] at this)
    have h1 := len_end (plc p j) (raw s.Undo) (fun h0 => (ok.undo h0).len)
    have h2 := len_num s.Tries ok.most.1
    have h3 : (raw s.Do).length ≤ 192 := ok.do_.len
    have h4 : (pcText (commaPcs j)).length ≤ 1 := by
      unfold commaPcs
      by_cases h : 0 < j
      · rw [if_pos h]; exact Nat.le_refl 1
      · rw [if_neg h]; exact Nat.zero_le 1
    have e : (pcText (stepsPcs p j (s :: l))).length = (pcText (commaPcs j)).length + (1 + (raw s.Do).length + ((pcText (numPcs s.Tries)).length + (pcText (endPcs (plc p j) (raw s.Undo))).length)) + (pcText (stepsPcs p (j + 1) l)).length := by
      show (pcText (stepPcs p j s ++ _)).length = _
      unfold stepPcs
      rw [pcText_app, pcText_app, t_do, pcText_app, List.length_append, List.length_append, List.length_append, List.length_append, List.length_cons]
      omega
    rw [e, List.length_cons]
    omega
theorem len_plan (p : api_Plan) (hp : PlanOK p) : (pcText (planPcs p)).length ≤ 65536 := by
  have h1 := len_steps p p.Steps 0 (fun i s hs => by rw [Nat.zero_add]; exact hp.each i s hs)
  have h2 : (raw p.Name).length ≤ 192 := hp.name.len
  have h3 := hp.most
  have e := congrArg List.length (t_head (raw p.Name) [] (stepsPcs p 0 p.Steps))
  rw [List.length_append, List.length_append] at e
  have e' : (pcText (planPcs p)).length = (raw p.Name).length + 1 + (pcText (stepsPcs p 0 p.Steps)).length := e
  omega
theorem Parse_ev (p : api_Plan) (x : Int) (h : Ev (fun k => plan_check k p) (0, x)) : Ev (fun k => plan_Parse k (lit (pcText (planPcs p)))) (p, 0, 0) := by
  have hp := planOK_of p x h
  have hl := len_plan p hp
  obtain ⟨W, hw, hs⟩ := words_text (planPcs p) (good_plan p hp) hl
  obtain ⟨rw, hrw, hev⟩ := words_tot (lit (pcText (planPcs p))) hl
  have hWl : W.length ≤ 65536 := by
    have e := Ev.uniq hev hw
    have := hrw.1.1
    rw [e] at this
    have h2 : ((W.length : Int)) ≤ ((pcText (planPcs p)).length : Int) := this
    omega
  obtain ⟨ats, at', hpl⟩ := plan_ev p hp W hWl ((pcText (planPcs p)).length : Int) hs
  unfold plan_Parse
  refine Ev.no (by show ¬ (65536 : Int) < ((pcText (planPcs p)).length : Int); omega) (hw.bind (Ev.no (fun h => h rfl) (hpl.bind (Ev.no (fun h => Bool.noConfusion h) (h.bind (Ev.no (fun h => h rfl) ((write_ev p hp).bind (Ev.no (fun h => h rfl) (Ev.some _)))))))))
theorem equal_l0 (p : api_Plan) (b : Bool) (h32 : p.Steps.length ≤ 32) : ∀ (m i : Nat), i + m = p.Steps.length → Ev (fun k => annalslaw15_equal.l0 k p p b i) true
  | 0, i, h => Ev.step (fun k => annalslaw15_equal.l0.eq_2 ..) (Ev.no (by omega) (Ev.some _))
  | m + 1, i, h => by
    obtain ⟨q, hq, _⟩ := atL_at (l := p.Steps) (i := (i : Int)) (by omega) (by omega)
    refine Ev.step (fun k => annalslaw15_equal.l0.eq_2 ..) (Ev.yes (by omega) (Ev.bindO hq (Ev.bindO hq (Ev.no (fun h => h rfl) ?_))))
    rw [wrap64_id (by omega) (by omega)]
    exact equal_l0 p b h32 m (i + 1) (by omega)
theorem equal_ev (p : api_Plan) (h32 : p.Steps.length ≤ 32) : Ev (fun k => annalslaw15_equal k p p) true := by
  unfold annalslaw15_equal
  refine Ev.bindO (x := false) ?_ (Ev.no (by decide) (equal_l0 p false h32 _ 0 (Nat.zero_add _)))
  rw [if_neg (fun h => h rfl), if_neg (fun h => h rfl), decide_eq_false (fun h => h rfl)]
theorem back (p : api_Plan) : ∃ k, annalslaw15_PlanBack k p = some true := by
  refine Ev.ex (F := fun k => annalslaw15_PlanBack k p) (r := true) ?_
  unfold annalslaw15_PlanBack
  refine Ev.bind started_Ev ?_
  obtain ⟨c, _, hc⟩ := check_tot p
  have hC := Check_ev hc
  by_cases h0 : c.1 = 0
  · have hc0 : Ev (fun k => plan_check k p) (0, c.2) := by
      have : c = (0, c.2) := Prod.ext h0 rfl
      rw [← this]
      exact hc
    have hp := planOK_of p c.2 hc0
    have hP : Ev (fun k => plan_Print k p) (lit (pcText (planPcs p)), 0) := by
      unfold plan_Print
      exact hC.bind (Ev.no (fun h => h h0) ((write_ev p hp).bind (Ev.some _)))
    refine hP.bind (Ev.bind (x := false) (Ev.no (by decide) (Ev.bindO (x := 0) rfl (hC.bind (Ev.bindO (x := c.1) rfl ?_)))) (Ev.no (by decide) (Ev.bindO (x := 0) rfl (Ev.no (fun h => h rfl) ((Parse_ev p c.2 hc0).bind (Ev.bind (x := true) (Ev.bindO (x := 0) rfl (Ev.yes rfl (Ev.yes rfl ((equal_ev p hp.most).bind (Ev.some _))))) (Ev.some _)))))))
    have : decide ((0 : Int) ≠ c.1) = false := decide_eq_false (fun h => h h0.symm)
    rw [this]
    exact Ev.some _
  · have hP : Ev (fun k => plan_Print k p) (lit [], c.1) := by
      unfold plan_Print
      exact hC.bind (Ev.yes h0 (Ev.some _))
    refine hP.bind (Ev.bind (x := false) (Ev.no (by decide) (Ev.bindO (x := c.1) rfl (hC.bind (Ev.bindO (x := c.1) rfl ?_)))) (Ev.no (by decide) (Ev.bindO (x := c.1) rfl (Ev.yes h0 (Ev.some _)))))
    have : decide ((c.1 : Int) ≠ c.1) = false := decide_eq_false (fun h => h rfl)
    rw [this]
    exact Ev.some _
end Go.Z
