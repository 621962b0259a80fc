/- A part of the pure law: facts of the functions that the walks compute, no program in sight. -/
import Derived.Test.YtlmdkofcombcmaaDoorL13
namespace Go.Z
open Go
open Go.RowKit (wrap32 wrap64)
/-! ## Literals: written -/
theorem esc_all : ∀ n : Fin 256, (text_escapedByte (UInt8.ofNat n.val)).map (fun q => List.length q) = some 4 := by decide +kernel
theorem esc_ev (b : UInt8) : ∃ q, text_escapedByte b = some q ∧ List.length q = 4 := by
  have h := esc_all ⟨b.toNat, b.toNat_lt⟩
  rw [show UInt8.ofNat b.toNat = b from by simp] at h
  obtain ⟨q, h1, h2⟩ := Option.map_eq_some_iff.1 h
  exact ⟨q, h1, h2⟩
theorem u64_small : ∀ n : Fin 16, IntKind.wrap .u64 (n.val : Int) = n.val := by decide +kernel
theorem and15 (x : Int) : 0 ≤ andK .u64 x 15 ∧ andK .u64 x 15 < 16 := by
  unfold andK
  have h : (BitVec.ofInt IntKind.u64.bits x &&& BitVec.ofInt IntKind.u64.bits 15).toNat ≤ 15 := by
    rw [BitVec.toNat_and]
    exact Nat.le_trans Nat.and_le_right (by decide)
  have e := u64_small ⟨_, Nat.lt_succ_of_le h⟩
  rw [show (IntKind.wrap .u64 ((BitVec.ofInt IntKind.u64.bits x &&& BitVec.ofInt IntKind.u64.bits 15).toNat : Int)) = ((BitVec.ofInt IntKind.u64.bits x &&& BitVec.ofInt IntKind.u64.bits 15).toNat : Int) from e]
  omega
theorem shr4 (x : Int) : shrK .u64 x (IntKind.wrap .u64 4) = x / 16 := by
  unfold shrK
  rw [show (2 : Int) ^ (min (IntKind.wrap .u64 4).toNat IntKind.u64.bits) = 16 by decide +kernel]
  exact Int.fdiv_eq_ediv_of_nonneg _ (by decide)
theorem fb_j0 (p : Int) (arr : List UInt8) (h0 : 0 ≤ p) (h1 : p ≤ 65) (ha : arr.length = 65) : Tot (fun k => internal_strconv_formatBits.j0 k false false p arr) (fun r => List.length r.2 ≤ 65) := by
  refine Tot.step (fun k => internal_strconv_formatBits.j0.eq_2 ..) ?_
  refine Tot.bindO (x := (p, arr)) rfl ?_
  simp only [Bool.false_eq_true, if_false]
  rw [if_pos ha]
  refine Tot.bindO (subL_at h0 h1 (by rw [ha]; exact Int.le_refl _)) (Tot.some _ ?_)
  have := subL_len arr h0 h1 (by rw [ha]; exact Int.le_refl _)
  show (List.drop p.toNat (List.take (65 : Int).toNat arr)).length ≤ 65
  omega
theorem fb_l2 : ∀ (m : Nat) (x p : Int) (arr : List UInt8), 0 ≤ x → x < 16 ^ (m + 1) → (m : Int) + 1 ≤ p → p ≤ 65 → arr.length = 65 → Tot (fun k => internal_strconv_formatBits.l2 k false false 4 x p arr) (fun r => List.length r.2 ≤ 65)
  | m, x, p, arr, h0, h1, hm, hp, ha => by
    refine Tot.step (fun k => internal_strconv_formatBits.l2.eq_2 ..) ?_
    rw [wrap64_id (n := p - 1) (by omega) (by omega)]
    have hc : (0 ≤ p - 1 ∧ p - 1 < 65) ∧ p - 1 < (arr.length : Int) := by rw [ha]; omega
    refine Tot.ite (fun h16 => ?_) (fun h16 => ?_)
    · obtain ⟨q, hq, _⟩ := atL_at (l := (lit [48, 49, 50, 51, 52, 53, 54, 55, 56, 57, 97, 98, 99, 100, 101, 102, 103, 104, 105, 106, 107, 108, 109, 110, 111, 112, 113, 114, 115, 116, 117, 118, 119, 120, 121, 122] : List UInt8)) (i := andK .u64 x 15) (and15 x).1 (Int.lt_trans (and15 x).2 (by decide))
      refine Tot.bindO hq ?_
      refine Tot.ite (fun _ => Tot.ite (fun _ => ?_) (fun h => absurd (by decide +kernel) h)) (fun h => absurd hc h)
      rw [shr4]
      match m, h1, hm with
      | 0, h1, hm => omega
      | m + 1, h1, hm =>
        refine fb_l2 m (x / 16) (p - 1) _ (by omega) ?_ (by omega) (by omega) (by rw [List.length_set]; exact ha)
        rw [Int.pow_succ] at h1
        exact Int.ediv_lt_of_lt_mul (by decide) h1
    · obtain ⟨q, hq, _⟩ := atL_at (l := (lit [48, 49, 50, 51, 52, 53, 54, 55, 56, 57, 97, 98, 99, 100, 101, 102, 103, 104, 105, 106, 107, 108, 109, 110, 111, 112, 113, 114, 115, 116, 117, 118, 119, 120, 121, 122] : List UInt8)) (i := x) h0 (by show x < 36; omega)
      refine Tot.bindO hq ?_
      refine Tot.ite (fun _ => ?_) (fun h => absurd hc h)
      exact fb_j0 _ _ hc.1.1 (by omega) (by rw [List.length_set]; exact ha)
theorem FormatInt_tot (r : Int) (h0 : 0 ≤ r) (h1 : r ≤ 1114111) : Tot (fun k => strconv_FormatInt k r 16) (fun q => List.length q ≤ 65) := by
  unfold strconv_FormatInt internal_strconv_FormatInt internal_strconv_formatBits
  refine Tot.bind (p := fun q => List.length q ≤ 65) ?_ (fun q hq => Tot.some _ hq)
  refine Tot.ite (fun h => absurd h (by decide)) (fun _ => ?_)
  rw [decide_eq_false (show ¬ r < 0 by omega), IntWalk.u64_in r (by omega)]
  refine Tot.bind (p := fun q => List.length q.2 ≤ 65) ?_ (fun q hq => Tot.some _ hq)
  refine Tot.ite (fun _ => ?_) (fun h => absurd rfl h)
  refine Tot.bindO (x := ()) rfl (Tot.bindO (x := r) rfl (Tot.bindO (x := true) rfl ?_))
  simp only [if_true]
  refine Tot.bindO (x := 4) (by decide +kernel) ?_
  exact fb_l2 5 r 65 _ h0 (by show r < 16777216; omega) (by decide) (by decide) (by simp)
theorem cat_lim (a b : Str) {n m : Nat} (h1 : List.length a ≤ n) (h2 : List.length b ≤ m) : List.length (cat a b) ≤ n + m := by
  rw [cat_len]; omega
theorem written_tot (s : Str) (i : Nat) (hi : i < List.length s) (r : Int) (h0 : 0 ≤ r) (h1 : r ≤ 1114111) : Tot (fun k => text_written k s i r) (fun q => List.length q ≤ 100) := by
  have he := (enc_len r).2
  unfold text_written
  refine Tot.bindX (iex (fun _ => ⟨_, rfl⟩) (fun _ => ⟨_, rfl⟩)) (fun z => Tot.ite (fun _ => ?_) (fun _ => Tot.ite (fun _ => Tot.some _ (ll _ (by decide))) (fun _ => Tot.ite (fun _ => Tot.some _ (ll _ (by decide))) (fun _ => Tot.ite (fun _ => Tot.some _ (ll _ (by decide))) (fun _ => ?_)))))
  · rw [if_pos (by have := ll [92] (Nat.le_refl 1); have := ll (enc r) he; omega)]
    exact Tot.some _ (Nat.le_trans (cat_lim _ _ (ll _ (Nat.le_refl 1)) (ll _ he)) (by decide))
  · refine Tot.bindX (iex (fun _ => ⟨_, rfl⟩) (fun _ => ⟨_, rfl⟩)) (fun z => Tot.ite (fun _ => ?_) (fun _ => ?_))
    · obtain ⟨q, hq, hl⟩ := esc_ev (UInt8.ofInt r)
      exact Tot.bindO hq (Tot.some _ (by rw [hl]; decide))
    · refine Tot.bindX (stray_ex s i (by omega) (by omega) r) (fun z => Tot.ite (fun _ => ?_) (fun _ => ?_))
      · obtain ⟨b, hb, _⟩ := atL_at (l := (s : List UInt8)) (i := (i : Int)) (by omega) (by omega)
        obtain ⟨q, hq, hl⟩ := esc_ev b
        exact Tot.bindO hb (Tot.bindO hq (Tot.some _ (by rw [hl]; decide)))
      · refine Tot.bindX (hidden_ev r) (fun z => Tot.ite (fun _ => ?_) (fun _ => Tot.some _ (Nat.le_trans (ll _ he) (by decide))))
        rw [wrap64_id (by omega) (by omega)]
        refine Tot.bind (FormatInt_tot r h0 h1) (fun q hq => ?_)
        have c1 := cat_lim (lit [92, 117, 123]) q (ll _ (Nat.le_refl 3)) hq
        have c2 := cat_lim (cat (lit [92, 117, 123]) q) (lit [125]) c1 (ll _ (Nat.le_refl 1))
        have l3 := ll [92, 117, 123] (Nat.le_refl 3)
        have l1 := ll [125] (Nat.le_refl 1)
        rw [if_pos (by omega), if_pos (by omega)]
        exact Tot.some _ (Nat.le_trans c2 (by decide))
theorem wb_ev (b : List UInt8) (c : UInt8) (h : b.length ≤ 100000000) : strings_Builder_WriteByte b c = some (b ++ [c]) := by
  show (some ()).bind _ = _
  simp only [Option.bind_some]
  rw [if_pos (by simp only [List.length_cons, List.length_nil]; omega)]
theorem Quote_l0 (s : Str) (hs : List.length s ≤ 65536) : ∀ (m i : Nat) (b : List UInt8), List.length s - i ≤ m → i ≤ List.length s → b.length ≤ 1 + 100 * i → Tot (fun k => text_Quote.l0 k s b i) (fun _ => True)
  | m, i, b, hm, hi, hb => by
    refine Tot.step (fun k => text_Quote.l0.eq_2 ..) ?_
    refine Tot.ite (fun hlt => ?_) (fun _ => ?_)
    · obtain ⟨h0, h1⟩ := dec_range s i
      have hd := dec_fits s i hlt
      refine Tot.bind (written_tot s i hlt _ h0 h1) (fun q hq => Tot.bindO (ws_ev b q (by omega)) ?_)
      have hl : (bcat b q).length ≤ 1 + 100 * i + 100 := bl b q hb hq (Nat.le_refl _)
      match m, hm with
      | 0, hm => omega
      | m + 1, hm => exact Quote_l0 s hs m (i + (dec s i).2) (bcat b q) (by omega) hd.2 (by omega)
    · exact Tot.bindO (wb_ev b 34 (by omega)) (Tot.bindO (x := lit (b ++ [34])) rfl (Tot.some _ trivial))
theorem Quote_tot (s : Str) (hs : List.length s ≤ 65536) : Tot (fun k => text_Quote k s) (fun _ => True) := by
  unfold text_Quote
  exact Tot.bindO (wb_ev [] 34 (by simp)) (Quote_l0 s hs _ 0 _ (Nat.le_refl _) (by omega) (by simp))
end Go.Z
