/- A part of the pure law: facts of the functions that the walks compute, no program in sight. -/
import Derived.Test.YtlmdkofcombcmaaDoorL14
set_option linter.unusedVariables false
namespace Go.Z
open Go
open Go.RowKit (wrap32 wrap64)
/-! ## Words -/
theorem wrap64_range (n : Int) : -9223372036854775808 ≤ wrap64 n ∧ wrap64 n ≤ 9223372036854775807 := by
  unfold wrap64
  omega
theorem Unquote_l0 (s : Str) (hs : List.length s ≤ 65536) (t : Str) (u v : Int) : ∀ (m i : Nat) (b : List UInt8), List.length s - i ≤ m → 1 ≤ i → i ≤ List.length s → b.length ≤ i → Tot (fun k => text_Unquote.l0 k s 0 t u v i b) (fun r => List.length r.1 ≤ 65536 ∧ (r.2.2 = 0 → 1 ≤ r.2.1 ∧ r.2.1 ≤ List.length s))
  | m, i, b, hm, h1, hi, hb => by
    have err : ∀ e : Int, e ≠ 0 → (List.length (lit []) ≤ 65536 ∧ (e = 0 → 1 ≤ (0 : Int) ∧ (0 : Int) ≤ List.length s)) := fun e he => ⟨Nat.zero_le _, fun h => absurd h he⟩
    refine Tot.step (fun k => text_Unquote.l0.eq_2 ..) ?_
    refine Tot.ite (fun _ => Tot.some _ (err 25 (by decide))) (fun hne => ?_)
    have hlt : i < List.length s := by omega
    obtain ⟨x, hx, _⟩ := atL_at (l := (s : List UInt8)) (i := (i : Int)) (by omega) (by omega)
    refine Tot.bindO hx (Tot.ite (fun _ => ?_) (fun _ => ?_))
    · refine Tot.bindO (x := lit b) rfl ?_
      rw [wrap64_id (by omega) (by omega)]
      obtain ⟨q, hq, _⟩ := subS_at s (lo := 0) (hi := (i : Int) + 1) (by decide) (by omega) (by omega)
      refine Tot.bindO hq (Tot.bind (Quote_tot (lit b) (by show b.length ≤ _; omega)) (fun r _ => Tot.ite (fun _ => Tot.some _ ⟨by show b.length ≤ _; omega, fun _ => ⟨by show 1 ≤ (i : Int) + 1; omega, by show (i : Int) + 1 ≤ _; omega⟩⟩) (fun _ => Tot.some _ (err 28 (by decide)))))
    · refine Tot.bindO hx (Tot.ite (fun _ => ?_) (fun _ => ?_))
      · rw [wrap64_id (n := (i : Int) + 1) (by omega) (by omega)]
        obtain ⟨q, hq, _, hql⟩ := subS_at s (lo := (i : Int) + 1) (hi := List.length s) (by omega) (by omega) (Int.le_refl _)
        refine Tot.bindO hq (Tot.bind (unescaped_tot q (by omega)) (fun r hr => Tot.ite (fun _ => Tot.some _ (err 27 (by decide))) (fun hn0 => ?_)))
        obtain ⟨g1, g2, g3⟩ := hr.resolve_left hn0
        obtain ⟨n, hn⟩ : ∃ n : Nat, r.2 = (n : Int) := ⟨r.2.toNat, by omega⟩
        rw [hn] at g1 g2 g3
        refine Tot.bindO (ws_ev b r.1 (by omega)) ?_
        rw [hn, wrap64_id (n := 1 + (n : Int)) (by omega) (by omega), wrap64_id (by omega) (by omega)]
        have hl : (bcat b r.1).length ≤ i + n := bl b r.1 hb (by omega) (Nat.le_refl _)
        match m, hm with
        | 0, hm => omega
        | m + 1, hm =>
          have := Unquote_l0 s hs t u v m (i + (1 + n)) (bcat b r.1) (by omega) (by omega) (by omega) (by omega)
          rwa [show (((i + (1 + n) : Nat)) : Int) = (i : Int) + (1 + (n : Int)) by omega] at this
      · obtain ⟨q, hq, _, hql⟩ := subS_at s (lo := (i : Int)) (hi := List.length s) (by omega) (by omega) (Int.le_refl _)
        have hq0 : 0 < List.length q := by omega
        have hd := dec_fits q 0 hq0
        refine Tot.bindO hq (Tot.bindO (drs_ev q hq0) (Tot.bindX ?_ (fun z => Tot.ite (fun _ => Tot.some _ (err 26 (by decide))) (fun _ => ?_))))
        · repeat' first | exact ⟨_, rfl⟩ | exact hidden_ev _ | refine bex ?_ (fun _ => ?_) | refine iex (fun _ => ?_) (fun _ => ?_)
        · simp only []
          rw [wrap64_id (n := (i : Int) + ((dec q 0).2 : Int)) (by omega) (by omega)]
          obtain ⟨q2, hq2, _, hql2⟩ := subS_at s (lo := (i : Int)) (hi := (i : Int) + ((dec q 0).2 : Int)) (by omega) (by omega) (by omega)
          refine Tot.bindO hq2 (Tot.bindO (ws_ev b q2 (by omega)) ?_)
          have hl : (bcat b q2).length ≤ i + (dec q 0).2 := bl b q2 hb (by omega) (Nat.le_refl _)
          match m, hm with
          | 0, hm => omega
          | m + 1, hm =>
            have := Unquote_l0 s hs t u v m (i + (dec q 0).2) (bcat b q2) (by omega) (by omega) (by omega) (by omega)
            rwa [show (((i + (dec q 0).2 : Nat)) : Int) = (i : Int) + ((dec q 0).2 : Int) by omega] at this
theorem Unquote_tot (s : Str) (hs : List.length s ≤ 65536) (h0 : 0 < List.length s) : Tot (fun k => text_Unquote k s 0) (fun r => List.length r.1 ≤ 65536 ∧ (r.2.2 = 0 → 1 ≤ r.2.1 ∧ r.2.1 ≤ List.length s)) := by
  unfold text_Unquote
  have err : ∀ e : Int, e ≠ 0 → (List.length (lit []) ≤ 65536 ∧ (e = 0 → 1 ≤ (0 : Int) ∧ (0 : Int) ≤ List.length s)) := fun e he => ⟨Nat.zero_le _, fun h => absurd h he⟩
  refine Tot.bindX (iex (fun _ => ⟨_, rfl⟩) (fun _ => ⟨_, rfl⟩)) (fun z => Tot.ite (fun _ => Tot.some _ (err 1 (by decide))) (fun _ => ?_))
  refine Tot.bindX (iex (fun _ => ⟨_, rfl⟩) (fun _ => ?_)) (fun z => Tot.ite (fun _ => Tot.some _ (err 24 (by decide))) (fun _ => ?_))
  · obtain ⟨x, hx, _⟩ := atL_at (l := (s : List UInt8)) (i := 0) (by decide) (by omega)
    exact bex ⟨x, hx⟩ (fun _ => ⟨_, rfl⟩)
  · rw [wrap64_id (by omega) (by omega)]
    exact Unquote_l0 s hs (lit []) 0 0 _ 1 [] (Nat.le_refl _) (Nat.le_refl _) (by omega) (by simp)
def I64 (n : Int) : Prop := -9223372036854775808 ≤ n ∧ n ≤ 9223372036854775807
theorem worth_l0 (b : UInt8) (z : Str) (hz : List.length z ≤ 65536) (c : Int) (d : Bool) : ∀ (m i : Nat) (v : Int), List.length z - i ≤ m → i ≤ List.length z → I64 v → Tot (fun k => text_worth.l0 k b z c d v i) (fun r => I64 r.1)
  | m, i, v, hm, hi, hv => by
    refine Tot.step (fun k => text_worth.l0.eq_2 ..) ?_
    refine Tot.ite (fun hlt => ?_) (fun _ => Tot.ite (fun _ => Tot.some _ hv) (fun _ => Tot.some _ (wrap64_range _)))
    obtain ⟨x, hx, _⟩ := atL_at (l := (z : List UInt8)) (i := (i : Int)) (by omega) hlt
    refine Tot.bindO hx (Tot.ite (fun _ => Tot.some _ ⟨by show (-9223372036854775808 : Int) ≤ 0; decide, by show (0 : Int) ≤ 9223372036854775807; decide⟩) (fun _ => ?_))
    rw [wrap64_id (n := (i : Int) + 1) (by omega) (by omega)]
    match m, hm with
    | 0, hm => omega
    | m + 1, hm => exact worth_l0 b z hz c d m (i + 1) _ (by omega) (by omega) (wrap64_range _)
theorem worth_tot (s : Str) (hs : List.length s ≤ 65536) (h0 : 0 < List.length s) (hm : atL (s : List UInt8) 0 = some 45 → 1 < List.length s) : Tot (fun k => text_worth k s) (fun r => I64 r.1) := by
  unfold text_worth
  obtain ⟨x, hx, _⟩ := atL_at (l := (s : List UInt8)) (i := 0) (by decide) (by omega)
  refine Tot.bindO hx ?_
  refine Tot.bindE (P := fun z : Str => 0 < List.length z ∧ List.length z ≤ 65536) ?_ (fun z hz => ?_)
  · by_cases h : x = 45
    · rw [if_pos h]
      have h1 := hm (by rw [hx, h])
      obtain ⟨q, hq, _, hql⟩ := subS_at s (lo := 1) (hi := List.length s) (by decide) (by omega) (Int.le_refl _)
      rw [hq]
      exact ⟨q, rfl, by omega, by omega⟩
    · rw [if_neg h]
      exact ⟨s, rfl, h0, hs⟩
  · obtain ⟨y, hy, _⟩ := atL_at (l := (z : List UInt8)) (i := 0) (by decide) (by omega)
    refine Tot.bindX ?_ (fun w => Tot.ite (fun _ => Tot.some _ ⟨by show (-9223372036854775808 : Int) ≤ 0; decide, by show (0 : Int) ≤ 9223372036854775807; decide⟩) (fun _ => ?_))
    · exact bex ⟨y, hy⟩ (fun _ => iex (fun _ => ⟨_, rfl⟩) (fun _ => ⟨_, rfl⟩))
    · exact worth_l0 x z hz.2 0 false _ 0 0 (Nat.le_refl _) (Nat.zero_le _) ⟨by decide, by decide⟩
/-- What a word's reading gives. -/
def WordOut (n : Int) (r : api_Word × Int × Int × Int) : Prop := List.length r.1.Text ≤ 65536 ∧ I64 r.1.Num ∧ (r.2.2.1 = 0 → 1 ≤ r.2.1 ∧ r.2.1 ≤ n) ∧ 0 ≤ r.2.2.2 ∧ r.2.2.2 ≤ n
theorem zero64 : I64 0 := ⟨by decide, by decide⟩
theorem WordOut.err {n : Int} (hn : 0 ≤ n) (e at' : Int) (he : e ≠ 0) (h0 : 0 ≤ at') (h1 : at' ≤ n) : WordOut n ((⟨0, 0, (lit []), 0⟩ : api_Word), 0, e, at') := ⟨Nat.zero_le _, zero64, fun h => absurd h he, h0, h1⟩
theorem atL_take0 (s : List UInt8) (i : Nat) (h : 1 ≤ i) : atL (List.drop (0 : Int).toNat (List.take (i : Int).toNat s)) 0 = atL s 0 := by
  unfold atL
  rw [if_pos (Int.le_refl _), if_pos (Int.le_refl _), show (0 : Int).toNat = 0 from rfl, Int.toNat_natCast, List.drop_zero, List.getElem?_take_of_lt (by omega)]
theorem number_l0 (s : Str) (hs : List.length s ≤ 65536) (hm : atL (s : List UInt8) 0 = some 45 → ∃ b, atL (s : List UInt8) 1 = some b ∧ text_digit b = some true) : ∀ (m i : Nat), List.length s - i ≤ m → 1 ≤ i → i ≤ List.length s → Tot (fun k => text_number.l0 k s i) (WordOut (List.length s))
  | m, i, hmm, h1, hi => by
    refine Tot.step (fun k => text_number.l0.eq_2 ..) ?_
    refine Tot.bindE (P := fun z => (z = true → i < List.length s) ∧ (z = false → i < List.length s → ∀ b, atL (s : List UInt8) i = some b → text_digit b = some false)) ?_ (fun z hz => Tot.ite (fun hzt => ?_) (fun hzf => ?_))
    · by_cases hlt : (i : Int) < (List.length s : Int)
      · rw [if_pos hlt]
        obtain ⟨x, hx, _⟩ := atL_at (l := (s : List UInt8)) (i := (i : Int)) (by omega) hlt
        rw [hx, Option.bind_some, digit_ev x, Option.bind_some]
        exact ⟨_, rfl, fun _ => by omega, fun h _ b hb => by obtain rfl := Option.some.inj hb; rw [digit_ev, h]⟩
      · rw [if_neg hlt]
        exact ⟨false, rfl, (fun h => by cases h), fun _ h => absurd (Int.ofNat_lt.2 h) hlt⟩
    · have hlt := hz.1 hzt
      rw [wrap64_id (n := (i : Int) + 1) (by omega) (by omega)]
      match m, hmm with
      | 0, hmm => omega
      | m + 1, hmm => exact number_l0 s hs hm m (i + 1) (by omega) (by omega) (by omega)
    · obtain ⟨q, hq, hqe, hql⟩ := subS_at s (lo := 0) (hi := (i : Int)) (by decide) (by omega) (by omega)
      have hq0 : 0 < List.length q := by omega
      refine Tot.bindO hq (Tot.bind (worth_tot q (by omega) hq0 (fun h45 => ?_)) (fun v hv => Tot.ite (fun _ => Tot.some _ (WordOut.err (by omega) 29 0 (by decide) (Int.le_refl _) (by omega))) (fun _ => ?_)))
      · have h45' : atL (s : List UInt8) 0 = some 45 := by
          rw [hqe] at h45
          rw [← atL_take0 s i h1]
          exact h45
        obtain ⟨b, hb, hbd⟩ := hm h45'
        have hi1 : i ≠ 1 := fun h => by
          subst h
          have hlt : 1 < List.length s := by
            unfold atL at hb
            rw [if_pos (by decide)] at hb
            exact (List.getElem?_eq_some_iff.1 hb).1
          have := hz.2 (by simpa using hzf) hlt b hb
          rw [hbd] at this
          cases this
        omega
      · refine Tot.bindO hq (Tot.some _ ⟨by show List.length q ≤ _; omega, hv, fun _ => ⟨by show 1 ≤ (i : Int); omega, by show (i : Int) ≤ _; omega⟩, Int.le_refl _, by show (0 : Int) ≤ _; omega⟩)
theorem name_j0 (s : Str) (hs : List.length s ≤ 65536) (h0 : 0 < List.length s) (a b c n e : Int) (hn : 0 ≤ n) (he : n ≠ 0 → 1 ≤ e) (he0 : 0 ≤ e) (he2 : e ≤ List.length s) : Tot (fun k => text_name.j0 k s a b c n e) (WordOut (List.length s)) := by
  refine Tot.step (fun k => text_name.j0.eq_2 ..) ?_
  refine Tot.ite (fun _ => ?_) (fun hne => ?_)
  · obtain ⟨r, hr, hr0⟩ := other_ev s
    exact Tot.bindO hr (Tot.some _ (WordOut.err (by omega) r 0 hr0 (Int.le_refl _) (by omega)))
  · obtain ⟨q, hq, _, hql⟩ := subS_at s (lo := 0) (hi := e) (by decide) he0 he2
    exact Tot.bindO hq (Tot.some _ ⟨by show List.length q ≤ _; omega, zero64, fun _ => ⟨he hne, he2⟩, Int.le_refl _, by show (0 : Int) ≤ _; omega⟩)
theorem name_l1 (s : Str) (hs : List.length s ≤ 65536) (h0 : 0 < List.length s) (a b c : Int) : ∀ (m i : Nat) (n : Int), List.length s - i ≤ m → i ≤ List.length s → 0 ≤ n → n ≤ i → n ≤ 48 → Tot (fun k => text_name.l1 k s a b c n (List.length s : Int) i) (WordOut (List.length s))
  | m, i, n, hm, hi, hn0, hni, hn48 => by
    refine Tot.step (fun k => text_name.l1.eq_2 ..) ?_
    refine Tot.ite (fun hlt => ?_) (fun _ => name_j0 s hs h0 a b c n _ hn0 (fun _ => by omega) (by omega) (Int.le_refl _))
    refine Tot.bind (p := fun _ => True) ?_ (fun z _ => Tot.ite (fun _ => name_j0 s hs h0 a b c n _ hn0 (fun _ => by omega) (by omega) (by omega)) (fun _ => Tot.ite (fun _ => Tot.some _ (WordOut.err (by omega) 23 i (by decide) (by omega) (by omega))) (fun hn => ?_)))
    · refine Tot.bindX (stray_tot s i hi _) (fun z => Tot.ite (fun _ => Tot.some _ trivial) (fun _ => ?_))
      refine Tot.bind (Tot.all _ (inName_ev _)) (fun r _ => Tot.ite (fun _ => Tot.some _ trivial) (fun _ => Tot.ite (fun _ => Tot.bind (Tot.all _ (Letter_ev _)) (fun _ _ => Tot.some _ trivial)) (fun _ => Tot.some _ trivial)))
    · have hd := dec_fits s i hlt
      rw [wrap64_id (n := n + 1) (by omega) (by omega)]
      match m, hm with
      | 0, hm => omega
      | m + 1, hm => exact name_l1 s hs h0 a b c m (i + (dec s i).2) (n + 1) (by omega) hd.2 (by omega) (by omega) (by omega)
theorem word_tot (s : Str) (hs : List.length s ≤ 65536) (h0 : 0 < List.length s) : Tot (fun k => text_word k s) (WordOut (List.length s)) := by
  unfold text_word
  obtain ⟨x, hx, _⟩ := atL_at (l := (s : List UInt8)) (i := 0) (by decide) (by omega)
  refine Tot.bindO hx (Tot.ite (fun _ => ?_) (fun _ => ?_))
  · exact Tot.bind (Unquote_tot s hs h0) (fun r hr => Tot.some _ ⟨hr.1, zero64, hr.2, Int.le_refl _, by show (0 : Int) ≤ _; omega⟩)
  · refine Tot.bindO hx (Tot.bindO (x := Lib.indexByte (lit [58, 44, 59, 126, 33, 61, 47, 64, 42, 43, 40, 41]) x) rfl (Tot.ite (fun _ => ?_) (fun _ => ?_)))
    · obtain ⟨q, hq, _, hql⟩ := subS_at s (lo := 0) (hi := 1) (by decide) (by decide) (by omega)
      exact Tot.bindO hq (Tot.some _ ⟨by show List.length q ≤ _; omega, zero64, fun _ => ⟨Int.le_refl _, by show (1 : Int) ≤ _; omega⟩, Int.le_refl _, by show (0 : Int) ≤ _; omega⟩)
    · refine Tot.bindE (P := fun z => z = true → (x = 45 → ∃ b, atL (s : List UInt8) 1 = some b ∧ text_digit b = some true)) ?_ (fun z hz => Tot.ite (fun hzt => ?_) (fun _ => ?_))
      · rw [hx, Option.bind_some, digit_ev, Option.bind_some]
        by_cases hd : (decide ((48 : UInt8) ≤ x) && decide (x ≤ 57)) = true
        · rw [if_pos hd]
          refine ⟨true, rfl, fun _ h => ?_⟩
          subst h
          exact absurd hd (by decide)
        · rw [if_neg hd, Option.bind_some]
          by_cases h45 : x = 45
          · rw [if_pos h45]
            by_cases h1 : (1 : Int) < (List.length s : Int)
            · rw [if_pos h1]
              obtain ⟨y, hy, _⟩ := atL_at (l := (s : List UInt8)) (i := 1) (by decide) h1
              rw [hy, Option.bind_some, digit_ev, Option.bind_some]
              exact ⟨_, rfl, fun h _ => ⟨y, rfl, by rw [digit_ev, h]⟩⟩
            · rw [if_neg h1]
              exact ⟨false, rfl, fun h => by cases h⟩
          · rw [if_neg h45]
            exact ⟨false, rfl, fun h => by cases h⟩
      · exact Tot.bind (number_l0 s hs (fun h => hz hzt (Option.some.inj (hx.symm.trans h))) _ 1 (Nat.le_refl _) (Nat.le_refl _) h0) (fun r hr => Tot.some _ hr)
      · exact Tot.bind (name_l1 s hs h0 0 0 0 _ 0 0 (Nat.le_refl _) (Nat.zero_le _) (Int.le_refl _) (Int.le_refl _) (by decide)) (fun r hr => Tot.some _ hr)
end Go.Z
