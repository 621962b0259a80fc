/- A part of the pure law: facts of the functions that the walks compute, no program in sight. -/
import Derived.Test.YtlmdkofcombcmaaDoorN1
set_option linter.unusedVariables false
namespace Go.Z
open Go
open Go.RowKit (wrap32 wrap64)
/-! ## Numbers up to 1000, one word at a time -/
def d4 (n : Nat) : List UInt8 :=
  if n < 10 then [UInt8.ofNat (48 + n)]
  else if n < 100 then [UInt8.ofNat (48 + n / 10), UInt8.ofNat (48 + n % 10)]
  else if n < 1000 then [UInt8.ofNat (48 + n / 100), UInt8.ofNat (48 + n / 10 % 10), UInt8.ofNat (48 + n % 10)]
  else [UInt8.ofNat (48 + n / 1000), UInt8.ofNat (48 + n / 100 % 10), UInt8.ofNat (48 + n / 10 % 10), UInt8.ofNat (48 + n % 10)]
theorem itoa_d4 (n : Nat) (h : n < 10000) : Lib.itoa (n : Int) = d4 n := by
  unfold Lib.itoa d4
  rw [if_neg (by omega), Int.toNat_natCast]
  by_cases h1 : n < 10
  · rw [if_pos h1, Lib.decDigits, dif_pos h1]
  · rw [if_neg h1]
    by_cases h2 : n < 100
    · rw [if_pos h2, Lib.decDigits, dif_neg h1, Lib.decDigits, dif_pos (by omega)]
      rfl
    · rw [if_neg h2]
      by_cases h3 : n < 1000
      · rw [if_pos h3, Lib.decDigits, dif_neg h1, Lib.decDigits, dif_neg (by omega), Lib.decDigits, dif_pos (by omega), Nat.div_div_eq_div_mul]
        rfl
      · rw [if_neg h3, Lib.decDigits, dif_neg h1, Lib.decDigits, dif_neg (by omega), Lib.decDigits, dif_neg (by omega), Lib.decDigits, dif_pos (by omega), show n / 10 / 10 / 10 = n / 1000 by omega, show n / 10 / 10 = n / 100 by omega]
        rfl
def worthOk (k n : Nat) : Bool := decide (text_worth (k + 8) (lit (d4 n)) = some ((n : Int), true)) || n == 0
theorem worth_all (k : Nat) : (List.range 1001).all (worthOk k) = true := by kernel_rfl
theorem d4_all : (List.range 1001).all (fun n => (d4 n).all (fun b => decide ((48 : UInt8) ≤ b) && decide (b ≤ 57)) && decide (1 ≤ (d4 n).length) && decide ((d4 n).length ≤ 4)) = true := by kernel_rfl
theorem worth_ev (n : Nat) (h0 : 0 < n) (h : n ≤ 1000) : Ev (fun k => text_worth k (lit (d4 n))) ((n : Int), true) := by
  refine ⟨8, fun k => ?_⟩
  have := List.all_eq_true.1 (worth_all k) n (List.mem_range.2 (by omega))
  unfold worthOk at this
  rcases Bool.or_eq_true_iff.1 this with h1 | h1
  · exact of_decide_eq_true h1
  · have : n = 0 := by simpa using h1
    omega
theorem d4_digits (n : Nat) (h : n ≤ 1000) : (∀ b ∈ d4 n, text_digit b = some true) ∧ 1 ≤ (d4 n).length ∧ (d4 n).length ≤ 4 := by
  have := List.all_eq_true.1 d4_all n (List.mem_range.2 (by omega))
  simp only [Bool.and_eq_true, decide_eq_true_eq] at this
  refine ⟨fun b hb => ?_, this.1.2, this.2⟩
  have hb' := List.all_eq_true.1 this.1.1 b hb
  rw [digit_ev, hb']
def signs : List UInt8 := [58, 44, 59, 126, 33, 61, 47, 64, 42, 43, 40, 41]
theorem signs_none (b : UInt8) (h : b ∉ signs) : Lib.indexByte signs b = -1 := by
  have h1 := Lib.indexByte_ge signs b
  by_cases h0 : 0 ≤ Lib.indexByte signs b
  · obtain ⟨n, hn⟩ : ∃ n : Nat, Lib.indexByte signs b = (n : Int) := ⟨(Lib.indexByte signs b).toNat, by omega⟩
    exact absurd (List.mem_of_getElem? (Lib.indexByte_some hn).1) h
  · omega
theorem signs_some : ∀ b ∈ signs, 0 ≤ Lib.indexByte signs b := by decide +kernel
theorem signs_not : ∀ b ∈ signs, b.toNat ≤ 64 ∨ b.toNat = 126 := by decide +kernel
theorem signs_digit : ∀ b ∈ signs, text_digit b = some false := by decide +kernel
theorem stops_digit : ∀ b ∈ stops, text_digit b = some false := by decide +kernel
theorem stops_after : ∀ b ∈ stops, text_blank b = some true ∨ (text_blank b = some false ∧ b ≠ 35 ∧ 0 ≤ Lib.indexByte signs b) := by decide +kernel
theorem letters_low : ∀ n : Fin 128, isLetter (n.val : Int) = true → 65 ≤ n.val ∧ n.val ≠ 126 := by decide +kernel
/-- A name's first byte is none of the signs that a line's reader looks at. -/
theorem IsName.byte {s : List UInt8} (h : IsName s) : 65 ≤ (s.getD 0 0).toNat ∧ (s.getD 0 0).toNat ≠ 126 := by
  obtain ⟨h0, h1⟩ := IsName.first h
  by_cases hb : (s.getD 0 0).toNat < 128
  · have e := dec_ascii s 0 hb
    have h2 : isLetter (dec s 0).1 = true := h1
    rw [e] at h2
    exact letters_low ⟨_, hb⟩ h2
  · omega
theorem atL_pre (s t : List UInt8) (i : Nat) : atL (s ++ t) ((s.length + i : Nat) : Int) = t[i]? := by
  unfold atL
  rw [if_pos (by omega), Int.toNat_natCast, List.getElem?_append_right (by omega)]
  congr 1; omega
theorem atL_zero (x : UInt8) (t : List UInt8) : atL (x :: t) 0 = some x := rfl
theorem blank_no (b : UInt8) (h1 : b ≠ 32) (h2 : b ≠ 9) : text_blank b = some false := by
  unfold text_blank
  rw [if_neg h1, decide_eq_false h2]
  rfl
theorem word_name (s rest : List UInt8) (hs : IsName s) (hr : Stop rest) : Ev (fun k => text_word k (s ++ rest : List UInt8)) ((⟨1, 0, s, 0⟩ : api_Word), (s.length : Int), 0, 0) := by
  obtain ⟨h0, _⟩ := IsName.first hs
  obtain ⟨hb1, hb2⟩ := IsName.byte hs
  cases s with
  | nil => exact absurd h0 (by decide)
  | cons x t =>
    have hx1 : 65 ≤ x.toNat := hb1
    have hx2 : x.toNat ≠ 126 := hb2
    have hne : ∀ c : UInt8, c.toNat < 65 → x ≠ c := fun c hc e => by rw [e] at hx1; omega
    unfold text_word
    have h1 : atL (x :: t ++ rest) 0 = some x := rfl
    refine Ev.bindO h1 (Ev.no (hne 34 (by decide)) (Ev.bindO h1 (Ev.bindO (x := Lib.indexByte signs x) rfl ?_)))
    rw [signs_none x (fun hm => by rcases signs_not x hm with h | h <;> omega)]
    refine Ev.no (by decide) (Ev.bindO (x := false) ?_ (Ev.no (by decide) ((name_ev (x :: t) rest hs hr).bind (Ev.some _))))
    rw [h1, Option.bind_some, digit_ev, Option.bind_some]
    have hd : ¬ (decide ((48 : UInt8) ≤ x) && decide (x ≤ 57)) = true := fun h => by
      simp only [Bool.and_eq_true, decide_eq_true_eq] at h
      have := UInt8.le_iff_toNat_le.1 h.2
      have e : (57 : UInt8).toNat = 57 := rfl
      omega
    rw [if_neg hd, Option.bind_some, if_neg (hne 45 (by decide))]
theorem word_sign (b : UInt8) (rest : List UInt8) (hb : b ∈ signs) : Ev (fun k => text_word k (b :: rest : List UInt8)) ((⟨4, 0, [b], 0⟩ : api_Word), 1, 0, 0) := by
  unfold text_word
  have h1 : atL (b :: rest) 0 = some b := rfl
  have h34 : b ≠ 34 := fun e => by rw [e] at hb; revert hb; decide
  refine Ev.bindO h1 (Ev.no h34 (Ev.bindO h1 (Ev.bindO (x := Lib.indexByte signs b) rfl (Ev.yes (signs_some b hb) (Ev.bindO (x := ([b] : List UInt8)) ?_ (Ev.some _))))))
  exact subS_pre [b] rest
theorem number_scan (d rest : List UInt8) (hr : Stop rest) (hd : ∀ b ∈ d, text_digit b = some true) (hl : d.length ≤ 4) (v : Int) (hw : Ev (fun k => text_worth k (lit d)) (v, true)) : ∀ (m i : Nat), d.length - i ≤ m → i ≤ d.length → Ev (fun k => text_number.l0 k (d ++ rest : List UInt8) (i : Int)) ((⟨2, 0, d, v⟩ : api_Word), (d.length : Int), 0, 0)
  | m, i, hm, hi => by
    refine Ev.step (fun k => text_number.l0.eq_2 ..) ?_
    by_cases hlt : i < d.length
    · have ha : atL (d ++ rest) (i : Int) = some d[i] := by
        unfold atL
        rw [if_pos (by omega), Int.toNat_natCast, List.getElem?_append_left hlt, List.getElem?_eq_getElem hlt]
      refine Ev.bindO (x := true) ?_ (Ev.yes rfl ?_)
      · rw [if_pos (by show (i : Int) < ((d ++ rest).length : Int); rw [List.length_append]; omega), ha, Option.bind_some, hd _ (List.getElem_mem hlt)]
        rfl
      · rw [wrap64_id (by omega) (by omega)]
        match m, hm with
        | 0, hm => omega
        | m + 1, hm => exact number_scan d rest hr hd hl v hw m (i + 1) (by omega) (by omega)
    · have hi' : i = d.length := by omega
      subst hi'
      refine Ev.bindO (x := false) ?_ (Ev.no (by decide) (Ev.bindO (subS_pre d rest) (hw.bind (Ev.no (fun h => Bool.noConfusion h) (Ev.bindO (subS_pre d rest) (Ev.some _))))))
      rcases hr with rfl | ⟨x, t, rfl, hx⟩
      · rw [if_neg (by show ¬ (d.length : Int) < ((d ++ []).length : Int); rw [List.append_nil]; omega)]
      · have ha : atL (d ++ x :: t) (d.length : Int) = some x := atL_pre d (x :: t) 0
        rw [if_pos (by show (d.length : Int) < ((d ++ x :: t).length : Int); rw [List.length_append, List.length_cons]; omega), ha, Option.bind_some, stops_digit x hx]
        rfl
theorem word_number (n : Nat) (h0 : 0 < n) (h : n ≤ 1000) (rest : List UInt8) (hr : Stop rest) : Ev (fun k => text_word k (d4 n ++ rest : List UInt8)) ((⟨2, 0, d4 n, n⟩ : api_Word), ((d4 n).length : Int), 0, 0) := by
  obtain ⟨hd, hl1, hl4⟩ := d4_digits n h
  have hw := worth_ev n h0 h
  generalize d4 n = d at hd hl1 hl4 hw
  cases d with
  | nil => exact absurd hl1 (by decide)
  | cons x t =>
    have hx := hd x List.mem_cons_self
    have h1 : atL (x :: t ++ rest) 0 = some x := rfl
    have h34 : x ≠ 34 := fun e => by rw [e] at hx; revert hx; decide
    have hs : x ∉ signs := fun hm => by rw [signs_digit x hm] at hx; cases hx
    unfold text_word
    refine Ev.bindO h1 (Ev.no h34 (Ev.bindO h1 (Ev.bindO (x := Lib.indexByte signs x) rfl ?_)))
    rw [signs_none x hs]
    refine Ev.no (by decide) (Ev.bindO (x := true) ?_ (Ev.yes rfl ((number_scan (x :: t) rest hr hd hl4 n hw _ 1 (Nat.le_refl _) hl1).bind (Ev.some _))))
    rw [h1, Option.bind_some, hx]
    rfl
end Go.Z
