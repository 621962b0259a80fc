/- A part of the pure law: facts of the functions that the walks compute, no program in sight. -/
import Derived.Test.YtlmdkofcombcmaaDoorN3
set_option linter.unusedVariables false
namespace Go.Z
open Go
open Go.RowKit (wrap32 wrap64)
/-! ## A plan's text, in pieces -/
/-- A text's bytes. -/
def raw (s : Str) : List UInt8 := s
def plc (p : api_Plan) (j : Int) : Int := if p.Pivot = 0 ∨ j + 1 < p.Pivot then 0 else if j + 1 = p.Pivot then 1 else 2
theorem place_ev (p : api_Plan) (j : Nat) (h : j ≤ 100000) : plan_place p j = some (plc p j) := by
  unfold plan_place plc
  rw [wrap64_id (by omega) (by omega)]
  by_cases h0 : p.Pivot = 0
  · simp [h0]
  · by_cases h1 : (j : Int) + 1 < p.Pivot
    · simp [h0, h1]
    · by_cases h2 : (j : Int) + 1 = p.Pivot
      · simp [h0, h2]
      · simp [h0, h1, h2]
structure StepOK (p : api_Plan) (j : Nat) (s : api_Step) : Prop where
  do_ : IsName s.Do
  undo : plc p j = 0 → IsName s.Undo
  bare : plc p j ≠ 0 → s.Undo = lit []
  back : plc p j = 2 → s.Tries = 0
  tries : plc p j ≠ 2 → 1 ≤ s.Tries ∧ s.Tries ≤ 1000
structure PlanOK (p : api_Plan) : Prop where
  name : IsName p.Name
  one : 1 ≤ p.Steps.length
  most : p.Steps.length ≤ 32
  piv : 0 ≤ p.Pivot ∧ p.Pivot ≤ p.Steps.length
  each : ∀ (j : Nat) s, p.Steps[j]? = some s → StepOK p j s
def commaPcs (j : Nat) : List Pc := if 0 < j then [.sg 44] else []
def numPcs (n : Int) : List Pc := if 1 < n then [.sg 42, .nb n.toNat] else []
def endPcs (v : Int) (u : List UInt8) : List Pc := if v = 0 then [.sg 126, .nm u] else if v = 1 then [.sg 33] else []
def stepPcs (p : api_Plan) (j : Nat) (s : api_Step) : List Pc := commaPcs j ++ ([.bl, .nm (raw s.Do)] ++ (numPcs s.Tries ++ endPcs (plc p j) (raw s.Undo)))
def stepsPcs (p : api_Plan) : Nat → List api_Step → List Pc
  | _, [] => []
  | j, s :: l => stepPcs p j s ++ stepsPcs p (j + 1) l
def planPcs (p : api_Plan) : List Pc := .nm (raw p.Name) :: .sg 58 :: stepsPcs p 0 p.Steps
theorem pcText_app (a b : List Pc) : pcText (a ++ b) = pcText a ++ pcText b := List.flatMap_append
theorem pcToks_app (a b : List Pc) : pcToks (a ++ b) = pcToks a ++ pcToks b := List.flatMap_append
theorem t_do (d : List UInt8) (A : List Pc) : pcText ([.bl, .nm d] ++ A) = (32 :: d) ++ pcText A := by
  rw [pcText_app]
  show ([32] ++ (d ++ [])) ++ _ = _
  rw [List.append_nil]
  rfl
theorem t_num (n : Nat) : pcText [.sg 42, .nb n] = 42 :: d4 n := by
  show [42] ++ (d4 n ++ []) = _
  rw [List.append_nil]
  rfl
theorem t_end (u : List UInt8) : pcText [.sg 126, .nm u] = 126 :: u := by
  show [126] ++ (u ++ []) = _
  rw [List.append_nil]
  rfl
theorem StepOK.most {p : api_Plan} {j : Nat} {s : api_Step} (h : StepOK p j s) : s.Tries ≤ 1000 ∧ 0 ≤ s.Tries := by
  by_cases h2 : plc p j = 2
  · rw [h.back h2]; omega
  · have := h.tries h2; omega
theorem write_l0e (p : api_Plan) (hp : PlanOK p) : ∀ (m i : Nat) (b : List UInt8), i + m = p.Steps.length → b.length ≤ 1000 + i * 1000 → Ev (fun k => plan_write.l0 k p i b) (lit (b ++ pcText (stepsPcs p i (p.Steps.drop i))))
  | 0, i, b, h, hb => by
    rw [List.drop_of_length_le (by omega)]
    refine Ev.step (fun k => plan_write.l0.eq_2 ..) (Ev.no (by omega) (Ev.bindO (x := lit b) rfl ?_))
    rw [show pcText (stepsPcs p i []) = [] from rfl, List.append_nil]
    exact Ev.some _
  | m + 1, i, b, h, hb => by
    have h32 := hp.most
    have hi : i < p.Steps.length := by omega
    obtain ⟨q, hq, hqi⟩ := atL_at (l := p.Steps) (i := (i : Int)) (by omega) (by omega)
    rw [Int.toNat_natCast] at hqi
    have ok := hp.each i q hqi
    have hd := ok.do_.len
    obtain ⟨ht1, ht0⟩ := ok.most
    have hdrop : p.Steps.drop i = q :: p.Steps.drop (i + 1) := by
      rw [List.drop_eq_getElem_cons hi]
      congr 1
      rw [List.getElem?_eq_getElem hi] at hqi
      exact Option.some.inj hqi
    have key : ((atL p.Steps (i : Int)).bind (fun q79 => ((if (0 : Int) < (i : Int) then (strings_Builder_WriteString b (lit [44])).bind (fun (r108 : (Int × (List UInt8))) => (some r108.2)) else (some b))).bind (fun (z95 : List UInt8) => (if (List.length (lit [32]) : Int) + List.length q79.Do ≤ 9223372036854775807 then (strings_Builder_WriteString z95 (cat (lit [32]) q79.Do)).bind (fun (r141 : (Int × (List UInt8))) => ((if (1 : Int) < q79.Tries then (strconv_Itoa q79.Tries).bind (fun (r164 : Str) => (if (List.length (lit [42]) : Int) + List.length r164 ≤ 9223372036854775807 then (strings_Builder_WriteString r141.2 (cat (lit [42]) r164)).bind (fun (r172 : (Int × (List UInt8))) => (some r172.2)) else none)) else (some r141.2))).bind (fun (z153 : List UInt8) => (plan_place p i).bind (fun (r200 : Int) => (if (r200 : Int) = 0 then (if (List.length (lit [126]) : Int) + List.length q79.Undo ≤ 9223372036854775807 then (strings_Builder_WriteString z153 (cat (lit [126]) q79.Undo)).bind (fun (r209 : (Int × (List UInt8))) => (some r209.2)) else none) else (if (r200 : Int) = 1 then (strings_Builder_WriteString z153 (lit [33])).bind (fun (r230 : (Int × (List UInt8))) => (some r230.2)) else (some z153)))))) else none)))) = some (b ++ pcText (stepPcs p i q)) ∧ (b ++ pcText (stepPcs p i q)).length ≤ b.length + 1000 := by
      rw [hq, Option.bind_some]
      have e1 : (if (0 : Int) < (i : Int) then (strings_Builder_WriteString b (lit [44])).bind (fun (r108 : (Int × (List UInt8))) => (some r108.2)) else (some b)) = some (b ++ pcText (commaPcs i)) ∧ (b ++ pcText (commaPcs i)).length ≤ b.length + 1 := by
        unfold commaPcs
        by_cases h0 : 0 < i
        · rw [if_pos (by omega), if_pos h0, ws_ev _ _ (by have := ll [44] (Nat.le_refl 1); omega)]
          exact ⟨rfl, by rw [List.length_append]; exact Nat.le_refl _⟩
        · rw [if_neg (by omega), if_neg h0]
          exact ⟨by rw [show pcText [] = [] from rfl, List.append_nil], by rw [show pcText [] = [] from rfl, List.append_nil]; omega⟩
      obtain ⟨e1, l1⟩ := e1
      rw [e1, Option.bind_some]
      have hsplit : b ++ pcText (stepPcs p i q) = ((b ++ pcText (commaPcs i)) ++ ((32 :: raw q.Do) ++ (pcText (numPcs q.Tries) ++ pcText (endPcs (plc p i) (raw q.Undo))))) := by
        unfold stepPcs
        rw [pcText_app, t_do, pcText_app, List.append_assoc]
      rw [hsplit]
      generalize b ++ pcText (commaPcs i) = z1 at l1
      have c2 : List.length (cat (lit [32]) q.Do) ≤ 193 := cl _ _ hd (by decide)
      rw [if_pos (by have := ll [32] (Nat.le_refl 1); omega), ws_ev _ _ (by omega), Option.bind_some]
      have l2 : (bcat z1 (cat (lit [32]) q.Do)).length ≤ b.length + 194 := bl _ _ l1 c2 (by omega)
      have s2 : z1 ++ ((32 :: raw q.Do) ++ (pcText (numPcs q.Tries) ++ pcText (endPcs (plc p i) (raw q.Undo)))) = bcat z1 (cat (lit [32]) q.Do) ++ (pcText (numPcs q.Tries) ++ pcText (endPcs (plc p i) (raw q.Undo))) := by
        rw [← List.append_assoc]; rfl
      rw [s2]
      generalize bcat z1 (cat (lit [32]) q.Do) = z2 at l2
      have e3 : (if (1 : Int) < q.Tries then (strconv_Itoa q.Tries).bind (fun (r164 : Str) => (if (List.length (lit [42]) : Int) + List.length r164 ≤ 9223372036854775807 then (strings_Builder_WriteString z2 (cat (lit [42]) r164)).bind (fun (r172 : (Int × (List UInt8))) => (some r172.2)) else none)) else (some z2)) = some (z2 ++ pcText (numPcs q.Tries)) ∧ (z2 ++ pcText (numPcs q.Tries)).length ≤ z2.length + 5 := by
        unfold numPcs
        by_cases h1 : (1 : Int) < q.Tries
        · have e : strconv_Itoa q.Tries = some (lit (d4 q.Tries.toNat)) := by
            unfold strconv_Itoa
            rw [if_pos ⟨by omega, by omega⟩]
            have := itoa_d4 q.Tries.toNat (by omega)
            rw [show ((q.Tries.toNat : Nat) : Int) = q.Tries by omega] at this
            rw [this]
          obtain ⟨_, _, hl4⟩ := d4_digits q.Tries.toNat (by omega)
          have c3 : List.length (cat (lit [42]) (lit (d4 q.Tries.toNat))) ≤ 5 := cl _ _ (ll _ hl4) (by decide)
          have c3' := ll _ hl4
          rw [if_pos h1, e, Option.bind_some, if_pos (by have := ll [42] (Nat.le_refl 1); omega), ws_ev _ _ (by omega), if_pos h1]
          rw [t_num]
          refine ⟨rfl, ?_⟩
          rw [List.length_append, List.length_cons]
          omega
        · rw [if_neg h1, if_neg h1]
          exact ⟨by rw [show pcText [] = [] from rfl, List.append_nil], by rw [show pcText [] = [] from rfl, List.append_nil]; omega⟩
      obtain ⟨e3, l3⟩ := e3
      simp only [e3, Option.bind_some, place_ev p i (by omega)]
      rw [← List.append_assoc]
      generalize z2 ++ pcText (numPcs q.Tries) = z3 at l3
      unfold endPcs
      by_cases h0 : plc p i = 0
      · have hu := (ok.undo h0).len
        have c4 : List.length (cat (lit [126]) q.Undo) ≤ 193 := cl _ _ hu (by decide)
        rw [if_pos h0, if_pos (by have := ll [126] (Nat.le_refl 1); omega), ws_ev _ _ (by omega), if_pos h0]
        rw [t_end]
        refine ⟨rfl, ?_⟩
        rw [List.length_append, List.length_cons]
        have hu' : (raw q.Undo).length ≤ 192 := hu
        omega
      · rw [if_neg h0, if_neg h0]
        by_cases h1 : plc p i = 1
        · rw [if_pos h1, if_pos h1, ws_ev _ _ (by have := ll [33] (Nat.le_refl 1); omega)]
          refine ⟨rfl, ?_⟩
          show (z3 ++ [33]).length ≤ _
          rw [List.length_append]
          show z3.length + 1 ≤ _
          omega
        · rw [if_neg h1, if_neg h1]
          exact ⟨by rw [show pcText [] = [] from rfl, List.append_nil], by rw [show pcText [] = [] from rfl, List.append_nil]; omega⟩
    obtain ⟨key, hlen⟩ := key
    refine Ev.step (fun k => plan_write.l0.eq_2 ..) (Ev.yes (by omega) (Ev.bindO key ?_))
    rw [wrap64_id (by omega) (by omega), hdrop]
    have ih := write_l0e p hp m (i + 1) (b ++ pcText (stepPcs p i q)) (by omega) (by omega)
    have es : pcText (stepsPcs p i (q :: p.Steps.drop (i + 1))) = pcText (stepPcs p i q) ++ pcText (stepsPcs p (i + 1) (p.Steps.drop (i + 1))) := pcText_app _ _
    rw [es, ← List.append_assoc]
    exact ih
theorem t_head (n l : List UInt8) (A : List Pc) : pcText (.nm n :: .sg 58 :: A) = (n ++ [58]) ++ pcText A := by
  rw [pcText_cons, pcText_cons, List.append_assoc]
  rfl
theorem write_ev (p : api_Plan) (hp : PlanOK p) : Ev (fun k => plan_write k p) (lit (pcText (planPcs p))) := by
  have hn := hp.name.len
  have h1 : (bcat ([] : List UInt8) p.Name).length ≤ 192 := bl _ _ (Nat.le_refl 0) hn (by decide)
  have h2 : (bcat (bcat ([] : List UInt8) p.Name) (lit [58])).length ≤ 193 := bl _ _ h1 (ll _ (Nat.le_refl 1)) (by decide)
  unfold plan_write
  refine Ev.bindO (ws_ev _ _ (by simp only [List.length_nil]; omega)) (Ev.bindO (ws_ev (bcat ([] : List UInt8) p.Name) (lit [58]) (by have := ll [58] (Nat.le_refl 1); omega)) ?_)
  have := write_l0e p hp _ 0 (bcat (bcat ([] : List UInt8) p.Name) (lit [58])) (Nat.zero_add _) (by omega)
  rw [List.drop_zero] at this
  have e : pcText (planPcs p) = bcat (bcat ([] : List UInt8) p.Name) (lit [58]) ++ pcText (stepsPcs p 0 p.Steps) := t_head (raw p.Name) [] _
  rw [e]
  exact this
end Go.Z
