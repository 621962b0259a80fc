/- A part of the pure law: facts of the functions that the walks compute, no program in sight. -/
import Derived.Test.YtlmdkofcombcmaaDoorL11
import Derived.Test.YtlmdkofcombcmaaDoorM1
namespace Go.Z
open Go
open Go.RowKit (wrap32 wrap64)
/-! ## Small parts of the text package -/
section
variable {α β : Type}
theorem bex {o : Option α} {f : α → Option β} (h : ∃ x, o = some x) (k : ∀ x, ∃ y, f x = some y) : ∃ y, o.bind f = some y := by
  obtain ⟨x, rfl⟩ := h
  exact k x
theorem iex {c : Prop} [Decidable c] {a b : Option α} (h1 : c → ∃ y, a = some y) (h2 : ¬ c → ∃ y, b = some y) : ∃ y, (if c then a else b) = some y := by
  by_cases h : c
  · rw [if_pos h]; exact h1 h
  · rw [if_neg h]; exact h2 h
theorem Tot.bindE {o : Option α} {P : α → Prop} {G : Nat → α → Option β} {q : β → Prop} (h : ∃ x, o = Option.some x ∧ P x) (k : ∀ x, P x → Tot (fun k => G k x) q) : Tot (fun k => o.bind (G k)) q := by
  obtain ⟨x, e, hx⟩ := h
  exact Tot.bindO e (k x hx)
theorem Tot.bindX {o : Option α} {G : Nat → α → Option β} {q : β → Prop} (h : ∃ x, o = Option.some x) (k : ∀ x, Tot (fun k => G k x) q) : Tot (fun k => o.bind (G k)) q := by
  obtain ⟨x, e⟩ := h
  exact Tot.bindO e (k x)
theorem Tot.val {o : Option α} {q : α → Prop} (h : ∃ x, o = Option.some x ∧ q x) : Tot (fun _ => o) q := by
  obtain ⟨x, e, hx⟩ := h
  exact ⟨x, hx, 0, fun _ => e⟩
end
theorem blank_ev (b : UInt8) : ∃ r, text_blank b = some r := by
  unfold text_blank
  exact bex (iex (fun _ => ⟨_, rfl⟩) (fun _ => ⟨_, rfl⟩)) (fun _ => ⟨_, rfl⟩)
theorem digit_ev (b : UInt8) : text_digit b = some (decide ((48 : UInt8) ≤ b) && decide (b ≤ 57)) := by
  unfold text_digit
  by_cases h : (48 : UInt8) ≤ b <;> simp [h]
theorem hidden_ev (r : Int) : ∃ b, text_hidden r = some b := by
  unfold text_hidden
  repeat' first | exact ⟨_, rfl⟩ | exact ⟨_, from_ev _ _ _⟩ | refine bex ?_ (fun _ => ?_) | refine iex (fun _ => ?_) (fun _ => ?_)
theorem subL_len (a : List UInt8) {lo hi : Int} (h0 : 0 ≤ lo) (h1 : lo ≤ hi) (h2 : hi ≤ a.length) : ((List.drop lo.toNat (List.take hi.toNat a)).length : Int) = hi - lo := by
  rw [List.length_drop, List.length_take]
  omega
theorem subS_at (a : Str) {lo hi : Int} (h0 : 0 ≤ lo) (h1 : lo ≤ hi) (h2 : hi ≤ List.length a) : ∃ q : Str, subS a lo hi = some q ∧ (q = (List.drop lo.toNat (List.take hi.toNat (a : List UInt8)) : List UInt8) ∧ (List.length q : Int) = hi - lo) :=
  ⟨_, subL_at (l := (a : List UInt8)) h0 h1 h2, rfl, subL_len a h0 h1 h2⟩
theorem drs_ev (q : Str) (h : 0 < List.length q) : unicode_utf8_DecodeRuneInString q = some ((dec q 0).1, ((dec q 0).2 : Int)) := by
  have e := decodeGo_dec q (fun h0 => by rw [h0] at h; exact Nat.lt_irrefl _ h)
  unfold unicode_utf8_DecodeRuneInString
  rw [← e]
theorem other_ev (q : Str) : ∃ r, text_other q = some r ∧ r ≠ 0 := by
  unfold text_other unicode_utf8_DecodeRuneInString
  simp only [Option.bind_some]
  by_cases h : ((Lib.decodeGo (sv q)).1 : Int) = 65533
  · rw [if_pos h, Option.bind_some]
    by_cases h2 : decide (((Lib.decodeGo (sv q)).2 : Int) = 1) = true
    · rw [if_pos h2]; exact ⟨21, rfl, by decide⟩
    · rw [if_neg h2]; exact ⟨22, rfl, by decide⟩
  · rw [if_neg h]
    exact ⟨22, rfl, by decide⟩
theorem stray_ex (s : Str) (i : Int) (h0 : 0 ≤ i) (hi : i ≤ List.length s) (r : Int) : ∃ b, text_stray s i r = some b := by
  obtain ⟨n, rfl⟩ : ∃ n : Nat, i = (n : Int) := ⟨i.toNat, by omega⟩
  exact stray_tot s n (by omega) r
theorem enc_len (r : Int) : 1 ≤ (enc r).length ∧ (enc r).length ≤ 4 := by
  unfold enc Utf8.encode
  simp only []
  repeat' split
  all_goals first | (show 1 ≤ 1 ∧ 1 ≤ 4; omega) | (show 1 ≤ 2 ∧ 2 ≤ 4; omega) | (show 1 ≤ 3 ∧ 3 ≤ 4; omega) | (show 1 ≤ 4 ∧ 4 ≤ 4; omega)
theorem indexByte_lt (l : Str) (c : UInt8) : Lib.indexByte l c < List.length l := by
  by_cases h : 0 ≤ Lib.indexByte l c
  · obtain ⟨n, hn⟩ : ∃ n : Nat, Lib.indexByte l c = (n : Int) := ⟨(Lib.indexByte l c).toNat, by omega⟩
    have := (Lib.indexByte_some hn).1
    obtain ⟨h1, _⟩ := List.getElem?_eq_some_iff.1 this
    rw [hn]
    exact Int.ofNat_lt.2 h1
  · have : (0 : Int) ≤ List.length l := Int.natCast_nonneg _
    omega
end Go.Z
