/- A part of the pure law: facts of the functions that the walks compute, no program in sight. -/
import Derived.Test.YtlmdkofcombcmaaDoorN5
set_option linter.unusedVariables false
namespace Go.Z
open Go
open Go.RowKit (wrap32 wrap64)
/-! ## The reader over a plan's words -/
/-- What is left of the words. -/
def Lft (W : List api_Word) (n : Nat) (l : List Tok) : Prop := (W.map strip).drop n = l ∧ n ≤ W.length
theorem Lft.cons {W : List api_Word} {n : Nat} {x : Tok} {l : List Tok} (h : Lft W n (x :: l)) : ∃ w, W[n]? = some w ∧ strip w = x ∧ Lft W (n + 1) l ∧ n < W.length := by
  obtain ⟨h1, h2⟩ := h
  have hlt : n < (W.map strip).length := by
    by_cases hl : n < (W.map strip).length
    · exact hl
    · rw [List.drop_of_length_le (by omega)] at h1; cases h1
  have hlt' : n < W.length := by rw [List.length_map] at hlt; exact hlt
  rw [List.drop_eq_getElem_cons hlt, List.getElem_map] at h1
  injection h1 with h3 h4
  exact ⟨W[n], List.getElem?_eq_getElem hlt', h3, ⟨h4, by omega⟩, hlt'⟩
theorem Lft.nil {W : List api_Word} {n : Nat} (h : Lft W n []) : n = W.length := by
  have := congrArg List.length h.1
  rw [List.length_drop, List.length_map, List.length_nil] at this
  have := h.2
  omega
theorem take_hit {W : List api_Word} {n : Nat} {k v : Int} {s : List UInt8} {l : List Tok} (e : Int) (h : Lft W n ((k, s, v) :: l)) (hW : W.length ≤ 100000) (t : Str) (ht : t = lit [] ∨ t = lit s) :
    ∃ w, plan_reader_take ⟨W, (n : Int), e⟩ k t = some (w, true, ((n + 1 : Nat) : Int)) ∧ strip w = (k, s, v) ∧ Lft W (n + 1) l := by
  obtain ⟨w, hw, hs, hat, hlt⟩ := h.cons
  have ha : atL W (n : Int) = some w := by
    unfold atL
    rw [if_pos (by omega), Int.toNat_natCast]
    exact hw
  have hk : w.Kind = k := congrArg Prod.fst hs
  have htx : w.Text = lit s := congrArg (fun x => x.2.1) hs
  have his : plan_reader_is ⟨W, (n : Int), e⟩ k t = some true := by
    unfold plan_reader_is
    show (if (W.length : Int) ≤ (n : Int) then _ else (atL W (n : Int)).bind _) = _
    rw [if_neg (by omega), ha, Option.bind_some, if_pos hk]
    by_cases h0 : t = lit []
    · rw [if_pos h0]; rfl
    · rw [if_neg h0, htx, ht.resolve_left h0, decide_eq_true rfl]; rfl
  refine ⟨w, ?_, hs, hat⟩
  unfold plan_reader_take
  rw [his, Option.bind_some]
  show (if (!true) = true then _ else (atL W (wrap64 ((wrap64 ((n : Int) + 1)) - 1))).bind _) = _
  rw [if_neg (by decide), wrap64_id (n := (n : Int) + 1) (by omega) (by omega), show (n : Int) + 1 - 1 = n by omega, wrap64_id (n := (n : Int)) (by omega) (by omega), ha, Option.bind_some]
  congr 3
theorem take_miss {W : List api_Word} {n : Nat} {l : List Tok} (e k : Int) (h : Lft W n l) (t : Str) (hm : ∀ k' s v l', l = (k', s, v) :: l' → k' ≠ k ∨ (t ≠ lit [] ∧ lit s ≠ t)) :
    plan_reader_take ⟨W, (n : Int), e⟩ k t = some ((⟨0, 0, (lit []), 0⟩ : api_Word), false, (n : Int)) := by
  have his : plan_reader_is ⟨W, (n : Int), e⟩ k t = some false := by
    unfold plan_reader_is
    show (if (W.length : Int) ≤ (n : Int) then _ else (atL W (n : Int)).bind _) = _
    cases l with
    | nil => rw [if_pos (by have := h.nil; omega)]
    | cons x l =>
      obtain ⟨k', s, v⟩ := x
      obtain ⟨w, hw, hs, hat, hlt⟩ := h.cons
      have ha : atL W (n : Int) = some w := by
        unfold atL
        rw [if_pos (by omega), Int.toNat_natCast]
        exact hw
      have hk : w.Kind = k' := congrArg Prod.fst hs
      have htx : w.Text = lit s := congrArg (fun x => x.2.1) hs
      rw [if_neg (by omega), ha, Option.bind_some, hk]
      rcases hm k' s v l rfl with h1 | ⟨h1, h2⟩
      · rw [if_neg h1]; rfl
      · by_cases hkk : k' = k
        · rw [if_pos hkk, if_neg h1, htx, decide_eq_false h2]; rfl
        · rw [if_neg hkk]; rfl
  unfold plan_reader_take
  rw [his, Option.bind_some]
  rfl
theorem here_ex (W : List api_Word) (n : Nat) (e : Int) : ∃ v, plan_reader_here ⟨W, (n : Int), e⟩ = some v := by
  unfold plan_reader_here
  show ∃ v, (if (W.length : Int) ≤ (n : Int) then _ else (atL W (n : Int)).bind _) = _
  by_cases h : (W.length : Int) ≤ (n : Int)
  · rw [if_pos h]; exact ⟨_, rfl⟩
  · obtain ⟨w, hw, _⟩ := atL_at (l := W) (i := (n : Int)) (by omega) (by omega)
    rw [if_neg h, hw]
    exact ⟨_, rfl⟩
def rawStep (s : api_Step) : api_Step := ⟨s.Do, s.Undo, if 1 < s.Tries then s.Tries else 0⟩
def pvAt (p : api_Plan) (j : Nat) : Int := if 0 < p.Pivot ∧ p.Pivot ≤ j then p.Pivot else 0
def numToks (n : Int) : List Tok := if 1 < n then [(4, [42], 0), (2, d4 n.toNat, n)] else []
def endToks (v : Int) (u : List UInt8) : List Tok := if v = 0 then [(4, [126], 0), (1, u, 0)] else if v = 1 then [(4, [33], 0)] else []
def commaToks (j : Nat) : List Tok := if 0 < j then [(4, [44], 0)] else []
theorem toks_step (p : api_Plan) (j : Nat) (s : api_Step) : pcToks (stepPcs p j s) = commaToks j ++ ((1, raw s.Do, 0) :: (numToks s.Tries ++ endToks (plc p j) (raw s.Undo))) := by
  unfold stepPcs
  rw [pcToks_app, pcToks_app, pcToks_app]
  have h1 : pcToks (commaPcs j) = commaToks j := by
    unfold commaPcs commaToks
    by_cases h : 0 < j
    · rw [if_pos h, if_pos h]; rfl
    · rw [if_neg h, if_neg h]; rfl
  have h2 : pcToks (numPcs s.Tries) = numToks s.Tries := by
    unfold numPcs numToks
    by_cases h : 1 < s.Tries
    · rw [if_pos h, if_pos h]
      have e : ((s.Tries.toNat : Nat) : Int) = s.Tries := by omega
      show [((4 : Int), [(42 : UInt8)], (0 : Int)), (2, d4 s.Tries.toNat, ((s.Tries.toNat : Nat) : Int))] = _
      rw [e]
    · rw [if_neg h, if_neg h]; rfl
  have h3 : pcToks (endPcs (plc p j) (raw s.Undo)) = endToks (plc p j) (raw s.Undo) := by
    unfold endPcs endToks
    by_cases h : plc p j = 0
    · rw [if_pos h, if_pos h]; rfl
    · rw [if_neg h, if_neg h]
      by_cases h' : plc p j = 1
      · rw [if_pos h', if_pos h']; rfl
      · rw [if_neg h', if_neg h']; rfl
  rw [h1, h2, h3]
  rfl
/-- What stands behind a step: nothing, or a comma. -/
def Sep (l : List Tok) : Prop := l = [] ∨ ∃ l', l = (4, [44], 0) :: l'
theorem sep_steps (p : api_Plan) (j : Nat) (h : 0 < j) (l : List api_Step) : Sep (pcToks (stepsPcs p j l)) := by
  cases l with
  | nil => exact .inl rfl
  | cons s l =>
    have e : pcToks (stepsPcs p j (s :: l)) = pcToks (stepPcs p j s) ++ pcToks (stepsPcs p (j + 1) l) := pcToks_app _ _
    rw [e, toks_step]
    unfold commaToks
    rw [if_pos h]
    exact .inr ⟨_, rfl⟩
theorem Sep.miss {l : List Tok} (h : Sep l) (k : Int) (t : Str) (ht : t ≠ lit []) (h44 : lit [44] ≠ t) : ∀ k' s v l', l = (k', s, v) :: l' → k' ≠ k ∨ (t ≠ lit [] ∧ lit s ≠ t) := fun k' s v l' e => by
  rcases h with rfl | ⟨l2, rfl⟩
  · cases e
  · injection e with e1 e2
    injection e1 with e3 e4
    injection e4 with e5 e6
    subst e5
    exact .inr ⟨ht, h44⟩
theorem plc_cases (p : api_Plan) (j : Nat) (hp : 0 ≤ p.Pivot) : (plc p j = 0 ∧ pvAt p j = 0 ∧ pvAt p (j + 1) = 0) ∨ (plc p j = 1 ∧ pvAt p j = 0 ∧ pvAt p (j + 1) = (j : Int) + 1) ∨ (plc p j = 2 ∧ pvAt p j ≠ 0 ∧ pvAt p (j + 1) = pvAt p j) := by
  unfold plc pvAt
  by_cases h0 : p.Pivot = 0 ∨ (j : Int) + 1 < p.Pivot
  · left
    rw [if_pos h0, if_neg (by omega), if_neg (by omega)]
    exact ⟨rfl, rfl, rfl⟩
  · right
    rw [if_neg h0]
    by_cases h1 : (j : Int) + 1 = p.Pivot
    · left
      rw [if_pos h1, if_neg (by omega), if_pos (by omega)]
      exact ⟨rfl, rfl, by omega⟩
    · right
      rw [if_neg h1, if_pos (by omega), if_pos (by omega)]
      exact ⟨rfl, by omega, rfl⟩
theorem tok_inj {w : api_Word} {k v : Int} {s : List UInt8} (h : strip w = (k, s, v)) : w.Kind = k ∧ w.Text = lit s ∧ w.Num = v :=
  ⟨congrArg Prod.fst h, congrArg (fun x => x.2.1) h, congrArg (fun x => x.2.2) h⟩
theorem j0_ev (W : List api_Word) (hW : W.length ≤ 100000) (e : Int) (a0 : plan_reader) (ha : a0 = ⟨W, a0.at_, e⟩) (a1 : api_Plan) (r3 : api_Word × Bool × Int) (g : Bool) (num : Int) (p : api_Plan) (j : Nat) (hp : 0 ≤ p.Pivot) (u : List UInt8) (hu : plc p j ≠ 0 → u = []) (hpv : a1.Pivot = pvAt p j) (hlen : a1.Steps.length = j) (hj : j ≤ 1000) (n : Nat) (rest : List Tok) (hs : Sep rest) (h : Lft W n (endToks (plc p j) u ++ rest)) :
    ∃ n' : Nat, plan_reader_step.j0 a0 a1 r3 g num (n : Int) = some (g, true, W, (n' : Int), pvAt p (j + 1), a1.Steps ++ [(⟨r3.1.Text, lit u, num⟩ : api_Step)]) ∧ Lft W n' rest := by
  have hw0 : a0.words_ = W := by rw [ha]
  have he0 : a0.end_ = e := by rw [ha]
  have j1 : ∀ (u' : Str) (n' : Nat) (v : Int), plan_reader_step.j1 a0 a1 r3 g num u' (n' : Int) v = some (g, true, W, (n' : Int), v, a1.Steps ++ [(⟨r3.1.Text, u', num⟩ : api_Step)]) := fun u' n' v => by
    unfold plan_reader_step.j1
    rw [if_pos (by show a1.Steps.length + 1 ≤ _; omega), hw0]
  unfold plan_reader_step.j0
  rw [hw0, he0]
  rcases plc_cases p j hp with ⟨h0, h1, h2⟩ | ⟨h0, h1, h2⟩ | ⟨h0, h1, h2⟩
  · unfold endToks at h
    rw [if_pos h0] at h
    obtain ⟨w1, t1, s1, at1⟩ := take_hit e h hW (lit [126]) (.inr rfl)
    rw [t1, Option.bind_some]
    obtain ⟨w2, t2, s2, at2⟩ := take_hit e at1 hW (lit []) (.inl rfl)
    show ∃ n' : Nat, (if (true : Bool) = true then (plan_reader_take ⟨W, ((n + 1 : Nat) : Int), e⟩ 1 (lit [])).bind _ else _) = _ ∧ _
    rw [if_pos rfl, t2, Option.bind_some]
    refine ⟨n + 1 + 1, ?_, at2⟩
    rw [h2, ← h1, ← hpv, ← (tok_inj s2).2.1]
    exact j1 w2.Text (n + 1 + 1) a1.Pivot
  · have hu' := hu (by omega)
    unfold endToks at h
    rw [if_neg (by omega), if_pos h0] at h
    rw [take_miss e 4 h (lit [126]) (fun k' s v l' e => by
      injection e with e1 e2
      injection e1 with e3 e4
      injection e4 with e5 e6
      subst e5
      exact .inr ⟨by decide, by decide⟩), Option.bind_some]
    show ∃ n' : Nat, (if (false : Bool) = true then _ else (if (a1.Pivot : Int) = 0 then (plan_reader_take ⟨W, (n : Int), e⟩ 4 (lit [33])).bind _ else _)) = _ ∧ _
    obtain ⟨w1, t1, s1, at1⟩ := take_hit e h hW (lit [33]) (.inr rfl)
    rw [if_neg (by decide), if_pos (by omega), t1, Option.bind_some]
    refine ⟨n + 1, ?_, at1⟩
    rw [h2, hu', show ((j : Int) + 1) = wrap64 ((a1.Steps.length : Int) + 1) by rw [hlen, wrap64_id (by omega) (by omega)]]
    exact j1 (lit []) (n + 1) _
  · have hu' := hu (by omega)
    unfold endToks at h
    rw [if_neg (by omega), if_neg (by omega), List.nil_append] at h
    rw [take_miss e 4 h (lit [126]) (hs.miss 4 (lit [126]) (by decide) (by decide)), Option.bind_some]
    show ∃ n' : Nat, (if (false : Bool) = true then _ else (if (a1.Pivot : Int) = 0 then _ else _)) = _ ∧ _
    rw [if_neg (by decide), if_neg (by omega)]
    refine ⟨n, ?_, h⟩
    rw [h2, hu', ← hpv]
    exact j1 (lit []) n a1.Pivot
theorem step_val (W : List api_Word) (hW : W.length ≤ 100000) (e : Int) (p : api_Plan) (j : Nat) (hj : j ≤ 1000) (hp : 0 ≤ p.Pivot) (s : api_Step) (ok : StepOK p j s) (Nm : Str) (xs : List api_Step) (hlen : xs.length = j) (n : Nat) (rest : List Tok) (hs : Sep rest)
    (h : Lft W n ((1, raw s.Do, 0) :: (numToks s.Tries ++ endToks (plc p j) (raw s.Undo)) ++ rest)) :
    ∃ n' : Nat, plan_reader_step ⟨W, (n : Int), e⟩ ⟨Nm, pvAt p j, xs⟩ = some (decide (1 < s.Tries), true, W, (n' : Int), pvAt p (j + 1), xs ++ [rawStep s]) ∧ Lft W n' rest := by
  have hu : plc p j ≠ 0 → raw s.Undo = [] := fun h => ok.bare h
  unfold plan_reader_step
  obtain ⟨w1, t1, s1, at1⟩ := take_hit e h hW (lit []) (.inl rfl)
  rw [t1, Option.bind_some]
  show ∃ n' : Nat, (if (!true) = true then _ else (plan_reader_take ⟨W, ((n + 1 : Nat) : Int), e⟩ 4 (lit [42])).bind _) = _ ∧ _
  rw [if_neg (by decide)]
  have hraw : ∀ num : Int, num = (if 1 < s.Tries then s.Tries else 0) → (⟨w1.Text, lit (raw s.Undo), num⟩ : api_Step) = rawStep s := fun num hn => by
    rw [(tok_inj s1).2.1, hn]
    rfl
  by_cases hn : 1 < s.Tries
  · unfold numToks at at1
    rw [if_pos hn] at at1
    obtain ⟨w2, t2, s2, at2⟩ := take_hit e at1 hW (lit [42]) (.inr rfl)
    rw [t2, Option.bind_some]
    show ∃ n' : Nat, (if (true : Bool) = true then (plan_reader_take ⟨W, ((n + 1 + 1 : Nat) : Int), e⟩ 2 (lit [])).bind _ else _) = _ ∧ _
    obtain ⟨w3, t3, s3, at3⟩ := take_hit e at2 hW (lit []) (.inl rfl)
    rw [if_pos rfl, t3, Option.bind_some]
    show ∃ n' : Nat, (if (!true) = true then _ else plan_reader_step.j0 ⟨W, (n : Int), e⟩ ⟨Nm, pvAt p j, xs⟩ (w1, true, ((n + 1 : Nat) : Int)) true w3.Num ((n + 1 + 1 + 1 : Nat) : Int)) = _ ∧ _
    rw [if_neg (by decide)]
    obtain ⟨n', e1, e2⟩ := j0_ev W hW e ⟨W, (n : Int), e⟩ rfl ⟨Nm, pvAt p j, xs⟩ (w1, true, ((n + 1 : Nat) : Int)) true w3.Num p j hp (raw s.Undo) hu rfl hlen hj _ rest hs at3
    refine ⟨n', ?_, e2⟩
    rw [e1, decide_eq_true hn, ← hraw w3.Num (by rw [if_pos hn]; exact (tok_inj s3).2.2)]
  · unfold numToks at at1
    rw [if_neg hn, List.nil_append] at at1
    have hmiss : ∀ k' t v l', endToks (plc p j) (raw s.Undo) ++ rest = (k', t, v) :: l' → k' ≠ 4 ∨ (lit [42] ≠ lit [] ∧ lit t ≠ lit [42]) := fun k' t v l' e => by
      unfold endToks at e
      by_cases h0 : plc p j = 0
      · rw [if_pos h0] at e
        injection e with e1 e2
        injection e1 with e3 e4
        injection e4 with e5 e6
        subst e5
        exact .inr ⟨by decide, by decide⟩
      · rw [if_neg h0] at e
        by_cases h1 : plc p j = 1
        · rw [if_pos h1] at e
          injection e with e1 e2
          injection e1 with e3 e4
          injection e4 with e5 e6
          subst e5
          exact .inr ⟨by decide, by decide⟩
        · rw [if_neg h1, List.nil_append] at e
          exact hs.miss 4 (lit [42]) (by decide) (by decide) k' t v l' e
    rw [take_miss e 4 at1 (lit [42]) hmiss, Option.bind_some]
    show ∃ n' : Nat, (if (false : Bool) = true then _ else plan_reader_step.j0 ⟨W, (n : Int), e⟩ ⟨Nm, pvAt p j, xs⟩ (w1, true, ((n + 1 : Nat) : Int)) false 0 ((n + 1 : Nat) : Int)) = _ ∧ _
    rw [if_neg (by decide)]
    obtain ⟨n', e1, e2⟩ := j0_ev W hW e ⟨W, (n : Int), e⟩ rfl ⟨Nm, pvAt p j, xs⟩ (w1, true, ((n + 1 : Nat) : Int)) false 0 p j hp (raw s.Undo) hu rfl hlen hj _ rest hs at1
    refine ⟨n', ?_, e2⟩
    rw [e1, decide_eq_false hn, ← hraw 0 (by rw [if_neg hn])]
end Go.Z
