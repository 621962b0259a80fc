/- A part of the pure law: facts of the functions that the walks compute, no program in sight. -/
import Derived.Test.YtlmdkofcombcmaaDoorL5
import Derived.Lib.ItoaLen
namespace Go.Z
open Go
open Go.RowKit (wrap32 wrap64)
/-! ## What is written -/
theorem ws_ev (b : List UInt8) (s : Str) (h : b.length + List.length s ≤ 140737488355328) : strings_Builder_WriteString b s = some ((List.length s : Int), bcat b s) := by
  show (some ()).bind _ = _
  simp only [Option.bind_some]
  rw [if_pos h]
theorem bcat_len (a b : List UInt8) : (bcat a b).length = a.length + b.length := List.length_append
theorem cat_len (a b : Str) : List.length (cat a b) = List.length a + List.length b := List.length_append
theorem lit_len (l : List UInt8) : List.length (lit l) = l.length := rfl
theorem bl (a : List UInt8) (b : Str) {n m t : Nat} (h1 : a.length ≤ n) (h2 : List.length b ≤ m) (h3 : n + m ≤ t) : (bcat a b).length ≤ t := by
  have : (bcat a b).length = a.length + List.length b := bcat_len a b
  omega
theorem cl (l : List UInt8) (b : Str) {m t : Nat} (h2 : List.length b ≤ m) (h3 : l.length + m ≤ t) : List.length (cat (lit l) b) ≤ t := by
  have : List.length (cat (lit l) b) = l.length + List.length b := cat_len (lit l) b
  omega
theorem ll (l : List UInt8) {t : Nat} (h : l.length ≤ t) : List.length (lit l) ≤ t := h
/-- What a plan may be, to be written. -/
structure Fits (p : api_Plan) : Prop where
  steps : p.Steps.length ≤ 32
  name : List.length p.Name ≤ 65536
  each : ∀ s ∈ p.Steps, List.length s.Do ≤ 65536 ∧ List.length s.Undo ≤ 65536 ∧ -9223372036854775808 ≤ s.Tries ∧ s.Tries ≤ 9223372036854775807
theorem write_l0 (p : api_Plan) (hp : Fits p) : ∀ (m i : Nat) (b : List UInt8), i + m = p.Steps.length → b.length ≤ 70000 + i * 200000 → Tot (fun k => plan_write.l0 k p i b) (fun r => List.length r ≤ 7000000)
  | 0, i, b, h, hb => by
    refine Tot.step (G := fun k => (strings_Builder_String b).bind fun r => some r) (fun k => ?_) (Tot.some (lit b) (by have := hp.steps; show b.length ≤ _; omega))
    rw [plan_write.l0, if_neg (by omega)]
  | m + 1, i, b, h, hb => by
    have h32 := hp.steps
    obtain ⟨q, hq, hqi⟩ := atL_at (l := p.Steps) (i := (i : Int)) (by omega) (by omega)
    obtain ⟨hd, hu, ht0, ht1⟩ := hp.each q (List.mem_of_getElem? hqi)
    obtain ⟨v, hv⟩ := place_tot p i
    have key : ∃ z, z.length ≤ b.length + 200000 ∧ (atL p.Steps (i : Int)).bind (fun q79 => ((if (0 : Int) < (i : Int) then (strings_Builder_WriteString b (lit [44])).bind (fun (r108 : (Int × (List UInt8))) => (some r108.2)) else (some b))).bind (fun (z95 : List UInt8) => (if (List.length (lit [32]) : Int) + List.length q79.Do ≤ 9223372036854775807 then (strings_Builder_WriteString z95 (cat (lit [32]) q79.Do)).bind (fun (r141 : (Int × (List UInt8))) => ((if (1 : Int) < q79.Tries then (strconv_Itoa q79.Tries).bind (fun (r164 : Str) => (if (List.length (lit [42]) : Int) + List.length r164 ≤ 9223372036854775807 then (strings_Builder_WriteString r141.2 (cat (lit [42]) r164)).bind (fun (r172 : (Int × (List UInt8))) => (some r172.2)) else none)) else (some r141.2))).bind (fun (z153 : List UInt8) => (plan_place p i).bind (fun (r200 : Int) => (if (r200 : Int) = 0 then (if (List.length (lit [126]) : Int) + List.length q79.Undo ≤ 9223372036854775807 then (strings_Builder_WriteString z153 (cat (lit [126]) q79.Undo)).bind (fun (r209 : (Int × (List UInt8))) => (some r209.2)) else none) else (if (r200 : Int) = 1 then (strings_Builder_WriteString z153 (lit [33])).bind (fun (r230 : (Int × (List UInt8))) => (some r230.2)) else (some z153)))))) else none))) = some z := by
      rw [hq, Option.bind_some]
      have e1 : ∃ z1, z1.length ≤ b.length + 1 ∧ (if (0 : Int) < (i : Int) then (strings_Builder_WriteString b (lit [44])).bind (fun (r108 : (Int × (List UInt8))) => (some r108.2)) else (some b)) = some z1 := by
        by_cases h0 : (0 : Int) < (i : Int)
        · rw [if_pos h0, ws_ev _ _ (by have := ll [44] (Nat.le_refl 1); omega)]
          exact ⟨bcat b (lit [44]), bl _ _ (Nat.le_refl _) (ll _ (Nat.le_refl 1)) (Nat.le_refl _), rfl⟩
        · rw [if_neg h0]; exact ⟨b, by omega, rfl⟩
      obtain ⟨z1, hz1, e1⟩ := e1
      have hl2 : List.length (cat (lit [32]) q.Do) ≤ 65537 := cl _ _ hd (by decide)
      rw [e1, Option.bind_some, if_pos (by have := ll [32] (Nat.le_refl 1); omega), ws_ev _ _ (by omega), Option.bind_some]
      have hz2 : (bcat z1 (cat (lit [32]) q.Do)).length ≤ b.length + 65538 := bl _ _ hz1 hl2 (by omega)
      generalize bcat z1 (cat (lit [32]) q.Do) = z2 at hz2
      have e3 : ∃ z3, z3.length ≤ b.length + 65600 ∧ (if (1 : Int) < q.Tries then (strconv_Itoa q.Tries).bind (fun (r164 : Str) => (if (List.length (lit [42]) : Int) + List.length r164 ≤ 9223372036854775807 then (strings_Builder_WriteString z2 (cat (lit [42]) r164)).bind (fun (r172 : (Int × (List UInt8))) => (some r172.2)) else none)) else (some z2)) = some z3 := by
        by_cases h1 : (1 : Int) < q.Tries
        · have hi := Lib.itoa_length_le q.Tries ht0 ht1
          have e : strconv_Itoa q.Tries = some (lit (Lib.itoa q.Tries)) := by unfold strconv_Itoa; rw [if_pos ⟨ht0, ht1⟩]
          have hl : List.length (cat (lit [42]) (lit (Lib.itoa q.Tries))) ≤ 22 := cl _ _ (ll _ hi) (by decide)
          have hl' := ll _ hi
          rw [if_pos h1, e, Option.bind_some, if_pos (by have := ll [42] (Nat.le_refl 1); omega), ws_ev _ _ (by omega)]
          exact ⟨bcat z2 (cat (lit [42]) (lit (Lib.itoa q.Tries))), bl _ _ hz2 hl (by omega), rfl⟩
        · rw [if_neg h1]; exact ⟨z2, by omega, rfl⟩
      obtain ⟨z3, hz3, e3⟩ := e3
      simp only [e3, Option.bind_some, hv]
      by_cases h0 : v = 0
      · have hl : List.length (cat (lit [126]) q.Undo) ≤ 65537 := cl _ _ hu (by decide)
        rw [if_pos h0, if_pos (by have := ll [126] (Nat.le_refl 1); omega), ws_ev _ _ (by omega)]
        exact ⟨bcat z3 (cat (lit [126]) q.Undo), bl _ _ hz3 hl (by omega), rfl⟩
      · rw [if_neg h0]
        by_cases h1 : v = 1
        · rw [if_pos h1, ws_ev _ _ (by have := ll [33] (Nat.le_refl 1); omega)]
          exact ⟨bcat z3 (lit [33]), bl _ _ hz3 (ll _ (Nat.le_refl 1)) (by omega), rfl⟩
        · rw [if_neg h1]; exact ⟨z3, by omega, rfl⟩
    obtain ⟨z, hz, key⟩ := key
    refine Tot.step (G := fun k => plan_write.l0 k p ((i + 1 : Nat) : Int) z) (fun k => ?_) (write_l0 p hp m (i + 1) z (by omega) (by omega))
    rw [plan_write.l0, if_pos (by omega), key, Option.bind_some, wrap64_id (by omega) (by omega)]
    rfl
theorem write_tot (p : api_Plan) (hp : Fits p) : Tot (fun k => plan_write k p) (fun r => List.length r ≤ 7000000) := by
  have hn := hp.name
  have h1 : (bcat ([] : List UInt8) p.Name).length ≤ 65536 := bl _ _ (Nat.le_refl 0) hn (by decide)
  have h2 : (bcat (bcat ([] : List UInt8) p.Name) (lit [58])).length ≤ 65537 := bl _ _ h1 (ll _ (Nat.le_refl 1)) (by decide)
  unfold plan_write
  refine Tot.bindO (ws_ev _ _ (by simp only [List.length_nil]; omega)) (Tot.bindO (ws_ev (bcat ([] : List UInt8) p.Name) (lit [58]) (by have := ll [58] (Nat.le_refl 1); omega)) ?_)
  exact write_l0 p hp _ 0 (bcat (bcat ([] : List UInt8) p.Name) (lit [58])) (Nat.zero_add _) (by omega)
end Go.Z
