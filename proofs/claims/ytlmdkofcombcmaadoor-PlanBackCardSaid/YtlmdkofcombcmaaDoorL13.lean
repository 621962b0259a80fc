/- A part of the pure law: facts of the functions that the walks compute, no program in sight. -/
import Derived.Test.YtlmdkofcombcmaaDoorL12
namespace Go.Z
open Go
open Go.RowKit (wrap32 wrap64)
/-! ## Hexadecimal digits -/
def digs : Str := lit [48, 49, 50, 51, 52, 53, 54, 55, 56, 57, 97, 98, 99, 100, 101, 102]
theorem digs_low (x : UInt8) (h : List.Mem x digs) : x.toNat < 128 := (show ∀ x ∈ ([48, 49, 50, 51, 52, 53, 54, 55, 56, 57, 97, 98, 99, 100, 101, 102] : List UInt8), x.toNat < 128 by decide +kernel) x h
theorem digs_loop : ∀ k, strings_IndexRune.l0 (k + 17) digs 0 0 = some (-1) := fun k => by kernel_rfl
theorem ofNat_high (n : Nat) (h : n < 64) : 128 ≤ (UInt8.ofNat (128 + n)).toNat := by
  rw [UInt8.toNat_ofNat']
  omega
theorem enc_last (r : Int) (h : 128 ≤ r) : ∃ (n : Nat) (b : UInt8), (enc r).length = n + 1 ∧ 1 ≤ n ∧ n ≤ 3 ∧ (enc r)[n]? = some b ∧ 128 ≤ b.toNat := by
  unfold enc Utf8.encode
  simp only []
  generalize hc : (if Utf8.valid r = true then r.toNat else Utf8.runeError) = c
  have hlow : ¬ c < 128 := by
    rw [← hc]
    split
    · omega
    · decide
  rw [if_neg hlow]
  split
  · exact ⟨1, UInt8.ofNat (128 + c % 64), rfl, by decide, by decide, rfl, ofNat_high _ (by omega)⟩
  · split
    · exact ⟨2, UInt8.ofNat (128 + c % 64), rfl, by decide, by decide, rfl, ofNat_high _ (by omega)⟩
    · exact ⟨3, UInt8.ofNat (128 + c % 64), rfl, by decide, by decide, rfl, ofNat_high _ (by omega)⟩
theorem indexByte_high (q : List UInt8) (b : UInt8) (hq : ∀ x ∈ q, x.toNat < 128) (hb : 128 ≤ b.toNat) : Lib.indexByte q b = -1 := by
  have h1 := Lib.indexByte_ge q b
  by_cases h : 0 ≤ Lib.indexByte q b
  · obtain ⟨n, hn⟩ : ∃ n : Nat, Lib.indexByte q b = (n : Int) := ⟨(Lib.indexByte q b).toNat, by omega⟩
    have := hq b (List.mem_of_getElem? (Lib.indexByte_some hn).1)
    omega
  · omega
def hexIdx (a : Int) : Int := if a < 128 then Lib.indexByte digs (UInt8.ofInt a) else -1
theorem hexIdx_ev (a : Int) (h0 : 0 ≤ a) : Ev (fun k => strings_IndexRune k digs a) (hexIdx a) := by
  unfold strings_IndexRune hexIdx
  by_cases h1 : a < 128
  · refine Ev.bindO (x := true) (by rw [if_pos h0, decide_eq_true h1]) ?_
    rw [if_pos h1]
    simp only [if_true]
    exact Ev.some _
  · refine Ev.bindO (x := false) (by rw [if_pos h0, decide_eq_false h1]) ?_
    rw [if_neg h1]
    simp only [Bool.false_eq_true, if_false]
    refine Ev.ite (fun _ => ⟨17, digs_loop⟩) (fun _ => ?_)
    refine Ev.bindO (x := Lib.validRune a) rfl (Ev.ite (fun _ => Ev.some _) (fun _ => ?_))
    obtain ⟨n, b, hl, h1n, hn3, hg, hb⟩ := enc_last a (by omega)
    have hL : wrap64 ((List.length (lit (enc a)) : Int) - 1) = (n : Int) := by
      have : (List.length (lit (enc a)) : Int) = n + 1 := by rw [show List.length (lit (enc a)) = n + 1 from hl]; omega
      rw [this, wrap64_id (by omega) (by omega)]; omega
    rw [hL]
    obtain ⟨c, hc, hcm⟩ := atL_at (l := (digs : List UInt8)) (i := (n : Int)) (by omega) (by show (n : Int) < 16; omega)
    have hcl := digs_low c (List.mem_of_getElem? hcm)
    have hb2 : atL (lit (enc a)) (n : Int) = some b := by
      unfold atL
      rw [if_pos (by omega), Int.toNat_natCast]
      exact hg
    obtain ⟨q, hq, hqe, _⟩ := subS_at digs (lo := (n : Int) + 1) (hi := 16) (by omega) (by omega) (Int.le_refl _)
    have hqi : strings_IndexByte q b = some (-1) := by
      show some (Lib.indexByte q b) = _
      rw [indexByte_high q b (fun x hx => digs_low x (by rw [hqe] at hx; exact List.mem_of_mem_take (List.mem_of_mem_drop hx))) hb]
    refine Ev.step (G := fun _ => some (-1)) (fun k => ?_) (Ev.some _)
    rw [strings_IndexRune.l1, if_pos (by show (n : Int) < 16; omega), hc, Option.bind_some, hL, hb2, Option.bind_some, if_pos (by intro e; rw [e] at hcl; omega), wrap64_id (by omega) (by omega)]
    rw [show (List.length digs : Int) = 16 from rfl, hq, Option.bind_some, Option.bind_some, hqi]
    rfl
theorem hex_l0 (s : Str) (b : Int) (c : Bool) : ∀ (m i : Nat) (d v : Int), List.length s - i ≤ m → Tot (fun k => text_hex.l0 k s d c v i) (fun _ => True)
  | m, i, d, v, hm => by
    refine Tot.step (fun k => text_hex.l0.eq_2 ..) ?_
    refine Tot.ite (fun hlt => ?_) (fun _ => Tot.some _ trivial)
    refine Tot.bind (Tot.all _ (hexIdx_ev _ (dec_range s i).1)) (fun r _ => Tot.ite (fun _ => Tot.some _ trivial) (fun _ => ?_))
    have hd := dec_fits s i hlt
    match m, hm with
    | 0, hm => omega
    | m + 1, hm => exact hex_l0 s b c m _ _ _ (by omega)
theorem hex_tot (s : Str) : Tot (fun k => text_hex k s) (fun _ => True) := hex_l0 s 0 false _ 0 0 0 (Nat.le_refl _)
theorem braced_tot (s : Str) (hs : List.length s ≤ 65536) : Tot (fun k => text_braced k s) (fun r => r.2 = 0 ∨ (List.length r.1 ≤ r.2 ∧ 1 ≤ r.2 ∧ r.2 ≤ List.length s)) := by
  unfold text_braced
  refine Tot.bindX ?_ (fun z => Tot.ite (fun _ => Tot.some _ (.inl rfl)) (fun _ => ?_))
  · refine iex (fun _ => ⟨_, rfl⟩) (fun h => ?_)
    obtain ⟨x, hx, _⟩ := atL_at (l := (s : List UInt8)) (i := 1) (by decide) (by omega)
    rw [hx]
    exact ⟨_, rfl⟩
  · refine Tot.bindO (x := Lib.indexByte s 125) rfl ?_
    have hlt := indexByte_lt s 125
    by_cases h3 : Lib.indexByte s 125 < 3
    · refine Tot.bindO (x := true) (by rw [if_pos h3]) ?_
      simp only [if_true]
      exact Tot.some _ (.inl rfl)
    · refine Tot.bindO (x := decide ((8 : Int) < Lib.indexByte s 125)) (by rw [if_neg h3]) (Tot.ite (fun _ => Tot.some _ (.inl rfl)) (fun h8 => ?_))
      obtain ⟨q, hq, _⟩ := subS_at s (lo := 2) (hi := Lib.indexByte s 125) (by decide) (by omega) (by omega)
      refine Tot.bindO hq (Tot.bind (hex_tot q) (fun v _ => ?_))
      refine Tot.bindX (iex (fun _ => ⟨_, rfl⟩) (fun _ => ⟨_, rfl⟩)) (fun z => Tot.ite (fun _ => Tot.some _ (.inl rfl)) (fun _ => ?_))
      have h8' : Lib.indexByte s 125 ≤ 8 := by
        have := h8
        simp only [decide_eq_true_eq] at this
        omega
      rw [wrap64_id (by omega) (by omega)]
      have he := (enc_len v.1).2
      exact Tot.some _ (.inr ⟨by show ((enc v.1).length : Int) ≤ Lib.indexByte s 125 + 1; omega, by show 1 ≤ Lib.indexByte s 125 + 1; omega, by show Lib.indexByte s 125 + 1 ≤ _; omega⟩)
theorem unescaped_tot (s : Str) (hs : List.length s ≤ 65536) : Tot (fun k => text_unescaped k s) (fun r => r.2 = 0 ∨ (List.length r.1 ≤ r.2 ∧ 1 ≤ r.2 ∧ r.2 ≤ List.length s)) := by
  unfold text_unescaped text_unescaped.j0
  refine Tot.ite (fun _ => Tot.some _ (.inl rfl)) (fun hne => ?_)
  have hl : 0 < List.length s := List.length_pos_iff.2 hne
  obtain ⟨b, hb, _⟩ := atL_at (l := (s : List UInt8)) (i := 0) (by decide) (by omega)
  refine Tot.bindO hb (Tot.bindX (iex (fun _ => ⟨_, rfl⟩) (fun _ => ⟨_, rfl⟩)) (fun z => ?_))
  have one : ∀ x : UInt8, (List.length (lit [x]) : Int) ≤ 1 ∧ (1 : Int) ≤ 1 ∧ (1 : Int) ≤ List.length s := fun x => ⟨Int.le_refl _, Int.le_refl _, by omega⟩
  refine Tot.ite (fun _ => ?_) (fun _ => Tot.ite (fun _ => Tot.some _ (.inr (one _))) (fun _ => Tot.ite (fun _ => Tot.some _ (.inr (one _))) (fun _ => Tot.ite (fun _ => Tot.some _ (.inr (one _))) (fun _ => Tot.ite (fun _ => ?_) (fun _ => Tot.ite (fun _ => ?_) (fun _ => Tot.some _ (.inl rfl)))))))
  · obtain ⟨q, hq, _, hql⟩ := subS_at s (lo := 0) (hi := 1) (by decide) (by decide) (by omega)
    refine Tot.bindO hq (Tot.some _ (.inr ⟨by show (List.length q : Int) ≤ 1; omega, Int.le_refl _, by show (1 : Int) ≤ _; omega⟩))
  · refine Tot.ite (fun h2 => ?_) (fun _ => Tot.some _ (.inl rfl))
    obtain ⟨q, hq, _⟩ := subS_at s (lo := 1) (hi := 3) (by decide) (by decide) (by omega)
    refine Tot.bindO hq (Tot.bind (hex_tot q) (fun v _ => Tot.ite (fun _ => Tot.some _ (.inr ⟨by show (1 : Int) ≤ 3; decide, by show (1 : Int) ≤ 3; decide, by show (3 : Int) ≤ _; omega⟩)) (fun _ => Tot.some _ (.inl rfl))))
  · exact Tot.bind (braced_tot s hs) (fun r hr => Tot.some _ hr)
end Go.Z
