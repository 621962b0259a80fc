/- A part of the pure law: facts of the functions that the walks compute, no program in sight. -/
import Derived.Test.YtlmdkofcombcmaaDoorL17
set_option linter.unusedVariables false
namespace Go.Z
open Go
open Go.RowKit (wrap32 wrap64)
/-! ## Names: what Name takes, a line's reader takes -/
section
variable {α β : Type}
theorem Ev.unstep {F G : Nat → Option α} {r : α} (hs : ∀ k, F (k + 1) = G k) (h : Ev F r) : Ev G r := by
  obtain ⟨K, h⟩ := h
  refine ⟨K, fun k => ?_⟩
  rw [← hs, show k + K + 1 = (k + 1) + K by omega]
  exact h (k + 1)
theorem Ev.unbind {F : Nat → Option α} {G : Nat → α → Option β} {x : α} {r : β} (h : Ev F x) (hb : Ev (fun k => (F k).bind (G k)) r) : Ev (fun k => G k x) r := by
  obtain ⟨K1, h1⟩ := h
  obtain ⟨K2, h2⟩ := hb
  refine ⟨K1 + K2, fun k => ?_⟩
  have e1 := Ev.up h1 K2 k
  have e2 := Ev.up (F := fun k => (F k).bind (G k)) h2 K1 k
  rw [Nat.add_comm K2 K1] at e2
  show G (k + (K1 + K2)) x = _
  have e3 : (F (k + (K1 + K2))).bind (G (k + (K1 + K2))) = Option.some r := e2
  rw [e1] at e3
  exact e3
theorem Ev.unbindO {o : Option α} {G : Nat → α → Option β} {x : α} {r : β} (h : o = Option.some x) (hb : Ev (fun k => o.bind (G k)) r) : Ev (fun k => G k x) r := Ev.unbind (F := fun _ => o) ⟨0, fun _ => h⟩ hb
theorem Ev.inv {a r : α} (h : Ev (fun _ => Option.some a) r) : a = r := Ev.uniq (Ev.some a) h
theorem Ev.unyes {p : Prop} [Decidable p] {F G : Nat → Option α} {r : α} (hp : p) (h : Ev (fun k => if p then F k else G k) r) : Ev F r := by
  simp only [hp, if_true] at h; exact h
theorem Ev.unno {p : Prop} [Decidable p] {F G : Nat → Option α} {r : α} (hp : ¬ p) (h : Ev (fun k => if p then F k else G k) r) : Ev G r := by
  simp only [hp, if_false] at h; exact h
theorem Ev.uno {F : Nat → Option α} {o : Option α} {r : α} (h : Ev F r) (e : ∀ k, F k = o) : o = Option.some r := by
  obtain ⟨K, h⟩ := h
  rw [← h 0, e]
end
theorem drop_take_all (s : List UInt8) (i : Nat) : List.drop (i : Int).toNat (List.take (s.length : Int).toNat s) = s.drop i := by
  rw [Int.toNat_natCast, Int.toNat_natCast, List.take_length]
theorem stray_val (s : Str) (i : Nat) (h : i < List.length s) : text_stray s i (dec s i).1 = some (decide (dec s i = (65533, 1))) := by
  unfold text_stray
  by_cases h1 : (dec s i).1 = 65533
  · rw [if_neg (fun h => h h1)]
    obtain ⟨q, hq, hqe, hql⟩ := subS_at s (lo := (i : Int)) (hi := List.length s) (by omega) (by omega) (Int.le_refl _)
    have e : dec q 0 = dec s i := by
      have hd : q = List.drop i s := by rw [hqe]; exact drop_take_all s i
      rw [hd]
      have := dec_drop s i 0 (by omega)
      rwa [Nat.add_zero] at this
    rw [hq, Option.bind_some, drs_ev q (by omega), Option.bind_some, e]
    congr 1
    have : (dec s i = (65533, 1)) ↔ ((dec s i).2 : Int) = 1 := by
      constructor
      · intro h; rw [h]; rfl
      · intro h; exact Prod.ext h1 (by show (dec s i).2 = 1; omega)
    simp only [this]
  · rw [if_pos h1]
    have : ¬ dec s i = (65533, 1) := fun h => h1 (by rw [h])
    rw [decide_eq_false this]
/-- From a place of a text, so many runes taken, all is a name's to its end. -/
inductive Runs (s : List UInt8) : Nat → Nat → Prop
  | done (n : Nat) : 1 ≤ n → n ≤ 48 → Runs s s.length n
  | more (i n : Nat) : i < s.length → n < 48 → dec s i ≠ (65533, 1) → inNameB (dec s i).1 = true → (n = 0 → isLetter (dec s i).1 = true) → Runs s (i + (dec s i).2) (n + 1) → Runs s i n
theorem runs_of (s : Str) (b c x : Int) : ∀ (m i n : Nat), List.length s - i ≤ m → i ≤ List.length s → n ≤ 48 → Ev (fun k => text_Name.l0 k s b c (n : Int) i) (0, x) → Runs s i n
  | m, i, n, hm, hi, hn, h => by
    have h := Ev.unstep (F := fun k => text_Name.l0 k s b c (n : Int) i) (fun k => text_Name.l0.eq_2 ..) h
    by_cases hlt : i < List.length s
    · have h := Ev.unyes hlt h
      by_cases h48 : (n : Int) = 48
      · have := Ev.inv (Ev.unyes h48 h)
        cases this
      · have h := Ev.unbindO (stray_val s i hlt) (Ev.unno h48 h)
        by_cases hst : dec s i = (65533, 1)
        · have := Ev.inv (Ev.unyes (by rw [decide_eq_true hst]) h)
          cases this
        · have h := Ev.unno (by rw [decide_eq_false hst]; decide) h
          have hl := Letter_ev (dec s i).1
          have key : Ev (fun k => (text_inName k (dec s i).1).bind fun r45 => if (!r45) = true then some true else if (n : Int) = 0 then (text_Letter k (dec s i).1).bind fun r53 => some (!r53) else some false) (!(inNameB (dec s i).1) || (decide (n = 0) && !(isLetter (dec s i).1))) := by
            refine (inName_ev _).bind ?_
            by_cases h1 : inNameB (dec s i).1 = true
            · simp only [h1, Bool.not_true, Bool.false_or, Bool.false_eq_true, if_false]
              by_cases h0 : n = 0
              · subst h0
                simp only [decide_true, Bool.true_and]
                exact Ev.yes rfl (hl.bind (Ev.some _))
              · simp only [h0, decide_false, Bool.false_and]
                exact Ev.no (by omega) (Ev.some _)
            · rw [bfalse h1]
              exact Ev.some _
          have h := Ev.unbind key h
          cases hz : (!(inNameB (dec s i).1) || (decide (n = 0) && !(isLetter (dec s i).1))) with
          | true =>
            rw [hz] at h
            have := Ev.inv (Ev.unyes rfl h)
            cases this
          | false =>
            rw [hz] at h
            have h := Ev.unno (by decide) h
            have hd := dec_fits s i hlt
            rw [wrap64_id (by omega) (by omega)] at h
            obtain ⟨z1, z2⟩ := Bool.or_eq_false_iff.1 hz
            match m, hm with
            | 0, hm => omega
            | m + 1, hm =>
              refine Runs.more i n hlt (by omega) hst (by simpa using z1) (fun h0 => ?_) (runs_of s b c x m (i + (dec s i).2) (n + 1) (by omega) hd.2 (by omega) h)
              rw [h0] at z2
              simpa using z2
    · have h := Ev.unno hlt h
      have : i = List.length s := by omega
      by_cases h0 : (n : Int) = 0
      · have h := Ev.inv (Ev.unyes h0 h)
        cases h
      · rw [this]
        exact Runs.done n (by omega) hn
/-- A text that is a name. -/
def IsName (s : Str) : Prop := Runs s 0 0
theorem isName_of (s : Str) (h : Ev (fun k => plan_isName k s) true) : IsName s := by
  obtain ⟨r, _, hr⟩ := Name_tot s
  have h : Ev (fun k => (text_Name k s).bind fun r2 => some (decide ((r2.1 : Int) = 0))) true := h
  have h2 := Ev.unbind (F := fun k => text_Name k s) (G := fun _ r2 => some (decide ((r2.1 : Int) = 0))) hr h
  have h1 := Ev.inv h2
  have h0 : r.1 = 0 := by simpa using h1
  have e : r = (0, r.2) := Prod.ext h0 rfl
  rw [e] at hr
  exact runs_of s 0 0 r.2 _ 0 0 (Nat.le_refl _) (Nat.zero_le _) (by decide) hr
theorem Runs.len {s : List UInt8} {i n : Nat} (h : Runs s i n) : s.length ≤ i + 4 * (48 - n) := by
  induction h with
  | done n h1 h2 => omega
  | more i n h1 h2 h3 h4 h5 h6 ih =>
    have : (dec s i).2 ≤ 4 := by
      rw [dec_N]
      rcases Lib.decodeN_shape (s.length - i) (s.getD i 0).toNat (s.getD (i + 1) 0).toNat (s.getD (i + 2) 0).toNat (s.getD (i + 3) 0).toNat with ⟨c, e⟩ | ⟨k1, k2, k3, kv, e⟩ | ⟨k1, k2, k3, k4, kv, ks, e⟩ | ⟨k1, k2, k3, k4, k5, kv, kw, e⟩ | e
      all_goals (rw [e]; dsimp only; omega)
    omega
theorem IsName.len {s : Str} (h : IsName s) : List.length s ≤ 192 := by
  have := Runs.len h
  omega
theorem Runs.first {s : List UInt8} {i n : Nat} (h : Runs s i n) (h0 : n = 0) : i < s.length ∧ isLetter (dec s i).1 = true := by
  cases h with
  | done n h1 h2 => omega
  | more i n h1 h2 h3 h4 h5 h6 => exact ⟨h1, h5 h0⟩
theorem IsName.first {s : Str} (h : IsName s) : 0 < List.length s ∧ isLetter (dec s 0).1 = true := Runs.first h rfl
/-- What may stand behind a word. -/
def stops : List UInt8 := [58, 44, 42, 126, 33, 32]
def Stop (l : List UInt8) : Prop := l = [] ∨ ∃ b t, l = b :: t ∧ b ∈ stops
theorem stops_low : ∀ b ∈ stops, b.toNat < 128 := by decide +kernel
theorem stops_name : ∀ b ∈ stops, inNameB (b.toNat : Int) = false := by decide +kernel
theorem drop_take_pre (s t : List UInt8) : List.drop (0 : Int).toNat (List.take (s.length : Int).toNat (s ++ t)) = s := by
  rw [show (0 : Int).toNat = 0 from rfl, List.drop_zero, Int.toNat_natCast, List.take_left]
theorem subS_pre (s t : List UInt8) : subS (s ++ t : List UInt8) 0 (s.length : Int) = some s := by
  obtain ⟨q, hq, hqe, _⟩ := subS_at (s ++ t : List UInt8) (lo := 0) (hi := (s.length : Int)) (by decide) (by omega) (by show (s.length : Int) ≤ (s ++ t).length; rw [List.length_append]; omega)
  rw [hq, hqe, drop_take_pre]
  rfl
theorem name_end (s rest : List UInt8) (a b c : Int) (n : Nat) (hn : 1 ≤ n) : Ev (fun k => text_name.j0 k (s ++ rest : List UInt8) a b c n (s.length : Int)) ((⟨1, 0, s, 0⟩ : api_Word), (s.length : Int), 0, 0) := by
  refine Ev.step (fun k => text_name.j0.eq_2 ..) (Ev.no (by omega) (Ev.bindO (subS_pre s rest) (Ev.some _)))
theorem name_run (s rest : List UInt8) (hr : Stop rest) (a b c : Int) {i n : Nat} (h : Runs s i n) : n ≤ i → Ev (fun k => text_name.l1 k (s ++ rest : List UInt8) a b c n ((s ++ rest).length : Int) i) ((⟨1, 0, s, 0⟩ : api_Word), (s.length : Int), 0, 0) := by
  induction h with
  | done n h1 h2 =>
    intro _
    refine Ev.step (fun k => text_name.l1.eq_2 ..) ?_
    rcases hr with rfl | ⟨x, t, rfl, hx⟩
    · refine Ev.no (by show ¬ s.length < (s ++ []).length; rw [List.append_nil]; omega) ?_
      have := name_end s [] a b c n h1
      rw [List.append_nil] at this ⊢
      exact this
    · have hlt : s.length < (s ++ x :: t).length := by rw [List.length_append, List.length_cons]; omega
      have hg : (s ++ x :: t).getD s.length 0 = x := by
        have := getD_pre s (x :: t) 0
        rw [Nat.add_zero] at this
        rw [this]
        rfl
      have hd : dec (s ++ x :: t) s.length = ((x.toNat : Int), 1) := by
        have := dec_ascii (s ++ x :: t) s.length (by rw [hg]; exact stops_low x hx)
        rwa [hg] at this
      have hst : ¬ dec (s ++ x :: t) s.length = (65533, 1) := fun h => by
        rw [hd] at h
        have h1 : ((x.toNat : Int)) = 65533 := congrArg Prod.fst h
        have := stops_low x hx
        omega
      refine Ev.yes hlt (Ev.bind (x := true) (Ev.bindO (stray_val (s ++ x :: t : List UInt8) s.length hlt) ?_) (Ev.yes rfl (name_end s (x :: t) a b c n h1)))
      rw [decide_eq_false hst]
      refine Ev.no (by decide) (Ev.bind (inName_ev _) ?_)
      rw [hd, stops_name x hx]
      exact Ev.yes rfl (Ev.some _)
  | more i n h1 h2 h3 h4 h5 h6 ih =>
    intro hni
    have hlt : i < (s ++ rest).length := by rw [List.length_append]; omega
    have hd : dec (s ++ rest) i = dec s i := dec_app s rest i h1 h3
    have hw := dec_width s i
    refine Ev.step (fun k => text_name.l1.eq_2 ..) ?_
    refine Ev.yes hlt (Ev.bind (x := false) (Ev.bindO (stray_val (s ++ rest : List UInt8) i hlt) ?_) (Ev.no (by decide) (Ev.no (by omega) ?_)))
    · rw [hd, decide_eq_false h3]
      refine Ev.no (by decide) (Ev.bind (inName_ev _) ?_)
      rw [h4]
      refine Ev.no (by decide) ?_
      by_cases h0 : ((i : Nat) : Int) = 0
      · refine Ev.yes h0 (Ev.bind (Letter_ev _) ?_)
        rw [h5 (by omega)]
        exact Ev.some _
      · exact Ev.no h0 (Ev.some _)
    · rw [wrap64_id (by omega) (by omega), hd]
      exact ih (by omega)
theorem name_ev (s rest : List UInt8) (hs : IsName s) (hr : Stop rest) : Ev (fun k => text_name k (s ++ rest : List UInt8)) ((⟨1, 0, s, 0⟩ : api_Word), (s.length : Int), 0, 0) :=
  name_run s rest hr 0 0 0 hs (Nat.le_refl _)
end Go.Z
