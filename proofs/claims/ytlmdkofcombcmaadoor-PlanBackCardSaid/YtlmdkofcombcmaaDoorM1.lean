/- Facts of UTF-8 as the model decodes it. -/
import Derived.Test.YtlmdkofcombcmaaDoorZ16
import Derived.Lib.MapLaws
import Derived.Lib.RuneCountTail
import Derived.Lib.QuoteLoop
namespace Go.Z
open Go
/-! ## Runes of a text: what decoding a place says -/
theorem dec_N (l : List UInt8) (i : Nat) : dec l i = (((Lib.decodeN (l.length - i) (l.getD i 0).toNat (l.getD (i + 1) 0).toNat (l.getD (i + 2) 0).toNat (l.getD (i + 3) 0).toNat).1 : Int), (Lib.decodeN (l.length - i) (l.getD i 0).toNat (l.getD (i + 1) 0).toNat (l.getD (i + 2) 0).toNat (l.getD (i + 3) 0).toNat).2) := by
  unfold dec
  rw [Lib.decode_N]
  rfl
/-- Bytes that lie behind change nothing of what is whole. -/
theorem decodeN_more (n m b0 b1 b2 b3 c1 c2 c3 : Nat) (h1 : 1 < n → c1 = b1) (h2 : 2 < n → c2 = b2) (h3 : 3 < n → c3 = b3) (hne : Lib.decodeN n b0 b1 b2 b3 ≠ (65533, 1)) : Lib.decodeN (n + m) b0 c1 c2 c3 = Lib.decodeN n b0 b1 b2 b3 := by
  rcases Lib.decodeN_shape n b0 b1 b2 b3 with ⟨c, e⟩ | ⟨k1, k2, k3, kv, e⟩ | ⟨k1, k2, k3, k4, kv, ks, e⟩ | ⟨k1, k2, k3, k4, k5, kv, kw, e⟩ | e
  · rw [e]
    unfold Lib.decodeN
    rw [if_pos c]
  · obtain rfl := h1 k2
    rw [e]
    unfold Lib.decodeN
    rw [if_neg (by omega), if_pos ⟨k1, by omega, k3⟩, if_pos (by omega)]
  · obtain rfl := h1 (by omega)
    obtain rfl := h2 (by omega)
    rw [e]
    unfold Lib.decodeN
    rw [if_neg (by omega), if_neg (by omega), if_pos ⟨k1, ⟨by omega, k3⟩, by omega, k4⟩, if_pos ⟨by omega, by omega⟩]
  · obtain rfl := h1 (by omega)
    obtain rfl := h2 (by omega)
    obtain rfl := h3 (by omega)
    rw [e]
    unfold Lib.decodeN
    rw [if_neg (by omega), if_neg (by omega), if_neg (by omega), if_pos ⟨k1, ⟨by omega, k3⟩, ⟨by omega, k4⟩, by omega, k5⟩, if_pos ⟨by omega, by omega⟩]
  · exact absurd e hne
theorem getD_app (s t : List UInt8) (i : Nat) (h : i < s.length) : (s ++ t).getD i 0 = s.getD i 0 := by
  rw [List.getD_eq_getElem?_getD, List.getD_eq_getElem?_getD, List.getElem?_append_left h]
theorem dec_app (s t : List UInt8) (i : Nat) (hi : i < s.length) (h : dec s i ≠ (65533, 1)) : dec (s ++ t) i = dec s i := by
  rw [dec_N] at h
  rw [dec_N, dec_N]
  have e : (s ++ t).length - i = s.length - i + t.length := by rw [List.length_append]; omega
  rw [e, getD_app s t i hi]
  rw [decodeN_more (s.length - i) t.length (s.getD i 0).toNat (s.getD (i + 1) 0).toNat (s.getD (i + 2) 0).toNat (s.getD (i + 3) 0).toNat _ _ _ (fun hh => by rw [getD_app s t _ (by omega)]) (fun hh => by rw [getD_app s t _ (by omega)]) (fun hh => by rw [getD_app s t _ (by omega)]) (fun hh => h (by rw [hh]; rfl))]
theorem getD_pre (s t : List UInt8) (i : Nat) : (s ++ t).getD (s.length + i) 0 = t.getD i 0 := by
  rw [List.getD_eq_getElem?_getD, List.getD_eq_getElem?_getD, List.getElem?_append_right (by omega)]
  congr 2; omega
/-- What stands ahead is nothing to it. -/
theorem dec_pre (s t : List UInt8) (i : Nat) : dec (s ++ t) (s.length + i) = dec t i := by
  rw [dec_N, dec_N, List.length_append, show s.length + t.length - (s.length + i) = t.length - i by omega, getD_pre, show s.length + i + 1 = s.length + (i + 1) by omega, show s.length + i + 2 = s.length + (i + 2) by omega, show s.length + i + 3 = s.length + (i + 3) by omega, getD_pre, getD_pre, getD_pre]
theorem dec_drop (l : List UInt8) (n i : Nat) (h : n ≤ l.length) : dec (l.drop n) i = dec l (n + i) := by
  have e := dec_pre (l.take n) (l.drop n) i
  rw [List.take_append_drop, List.length_take, Nat.min_eq_left h] at e
  exact e.symm
theorem dec_ascii (l : List UInt8) (i : Nat) (h : (l.getD i 0).toNat < 128) : dec l i = (((l.getD i 0).toNat : Int), 1) := by
  rw [dec_N]
  unfold Lib.decodeN
  rw [if_pos h]
theorem dec_high (l : List UInt8) (i : Nat) (h : ¬ (l.getD i 0).toNat < 128) : 128 ≤ (dec l i).1 := by
  rw [dec_N]
  rcases Lib.decodeN_shape (l.length - i) (l.getD i 0).toNat (l.getD (i + 1) 0).toNat (l.getD (i + 2) 0).toNat (l.getD (i + 3) 0).toNat with ⟨c, e⟩ | ⟨k1, k2, k3, kv, e⟩ | ⟨k1, k2, k3, k4, kv, ks, e⟩ | ⟨k1, k2, k3, k4, k5, kv, kw, e⟩ | e
  all_goals (rw [e]; dsimp only; omega)
theorem decodeGo_dec (l : List UInt8) (h : l ≠ []) : (((Lib.decodeGo (sv l)).1 : Int), (Lib.decodeGo (sv l)).2) = dec l 0 := by
  unfold Lib.decodeGo dec
  have : ¬ (sv l).size = 0 := by rw [sv_size]; intro h0; exact h (List.length_eq_zero_iff.1 h0)
  rw [if_neg this]
theorem dec_width (l : List UInt8) (i : Nat) : 1 ≤ (dec l i).2 := Lib.width_pos _ _
end Go.Z
