/- A part of the pure law: facts of the functions that the walks compute, no program in sight. -/
import Derived.Test.YtlmdkofcombcmaaDoorL2
namespace Go.Z
open Go
open Go.RowKit (wrap32 wrap64)
/-! ## Runes -/
theorem decode_fits (s : ByteArray) (i : Nat) (h : i < s.size) : 1 ≤ (Utf8.decode s i).2 ∧ i + (Utf8.decode s i).2 ≤ s.size := by
  unfold Utf8.decode
  simp only []
  split
  · exact ⟨Nat.le_refl _, h⟩
  · split
    · rename_i h1
      simp only [Bool.and_eq_true, decide_eq_true_eq] at h1
      split
      · exact ⟨(by show 1 ≤ 2; omega), by show i + 2 ≤ _; omega⟩
      · exact ⟨Nat.le_refl _, h⟩
    · split
      · rename_i h1
        simp only [Bool.and_eq_true, decide_eq_true_eq] at h1
        split
        · exact ⟨(by show 1 ≤ 3; omega), by show i + 3 ≤ _; omega⟩
        · exact ⟨Nat.le_refl _, h⟩
      · split
        · rename_i h1
          simp only [Bool.and_eq_true, decide_eq_true_eq] at h1
          split
          · exact ⟨(by show 1 ≤ 4; omega), by show i + 4 ≤ _; omega⟩
          · exact ⟨Nat.le_refl _, h⟩
        · exact ⟨Nat.le_refl _, h⟩
theorem dec_fits (l : List UInt8) (i : Nat) (h : i < l.length) : 1 ≤ (dec l i).2 ∧ i + (dec l i).2 ≤ l.length := by
  have := decode_fits (sv l) i (by rw [sv_size]; exact h)
  rwa [sv_size] at this
theorem decode_le (s : ByteArray) (i : Nat) : (Utf8.decode s i).1 ≤ 1114111 := by
  unfold Utf8.decode
  simp only []
  have hb : ∀ k : Nat, ((s.get! (i + k)).toNat) < 256 := fun k => (s.get! (i + k)).toNat_lt
  have h0 := hb 0
  split
  · show (s.get! (i + 0)).toNat ≤ _; omega
  · split
    · split
      · show (s.get! (i + 0)).toNat % 32 * 64 + (s.get! (i + 1)).toNat % 64 ≤ _; omega
      · decide
    · split
      · split
        · show (s.get! (i + 0)).toNat % 16 * 4096 + (s.get! (i + 1)).toNat % 64 * 64 + (s.get! (i + 2)).toNat % 64 ≤ _; omega
        · decide
      · split
        · split
          · rename_i h1
            have h2 := (Bool.and_eq_true_iff.1 h1).2
            unfold Utf8.valid at h2
            simp only [Bool.or_eq_true, Bool.and_eq_true, decide_eq_true_eq] at h2
            show (s.get! (i + 0)).toNat % 8 * 262144 + (s.get! (i + 1)).toNat % 64 * 4096 + (s.get! (i + 2)).toNat % 64 * 64 + (s.get! (i + 3)).toNat % 64 ≤ _
            omega
          · decide
        · decide
theorem dec_range (l : List UInt8) (i : Nat) : 0 ≤ (dec l i).1 ∧ (dec l i).1 ≤ 1114111 := by
  have := decode_le (sv l) i
  constructor
  · exact Int.natCast_nonneg _
  · show ((Utf8.decode (sv l) i).1 : Int) ≤ _; omega
/-! ## Names' runes -/
def inNameB (a : Int) : Bool := (decide (48 ≤ a) && decide (a ≤ 57)) || decide (a = 45) || decide (a = 95) || decide (a = 46) || isLetter a
theorem inName_ev (a : Int) : Ev (fun k => text_inName k a) (inNameB a) := by
  unfold text_inName inNameB
  refine Ev.bind (x := (decide (48 ≤ a) && decide (a ≤ 57)) || decide (a = 45) || decide (a = 95) || decide (a = 46) || isLetter a) ?_ (Ev.some _)
  have hl : Ev (fun k => (text_Letter k a).bind fun r => some r) (isLetter a) := (Letter_ev a).bind (Ev.some _)
  by_cases h1 : 48 ≤ a <;> by_cases h2 : a ≤ 57 <;> by_cases h3 : a = 45 <;> by_cases h4 : a = 95 <;> by_cases h5 : a = 46 <;> simp only [h1, h2, h3, h4, h5, if_true, if_false, decide_true, decide_false, Bool.and_false, Bool.true_or, Bool.or_true, Bool.false_or, Bool.and_true] <;> first | exact Ev.some _ | exact hl | (subst h3; exact Ev.some _) | skip
end Go.Z
