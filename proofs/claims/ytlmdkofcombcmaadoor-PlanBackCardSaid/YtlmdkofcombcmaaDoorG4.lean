/- The walks: for each Go function a function of values that it computes, and the proof that it does (printed by wip/tools/zgen.py). -/
import Derived.Test.YtlmdkofcombcmaaDoorG3
set_option linter.unusedVariables false
set_option linter.unusedSimpArgs false
namespace Go.Z
open Go
open Go.Proofs
open Go.RowKit (wrap32 wrap64)

/-! ### annals/annalsref2.piece: function 93 -/
mutual
def annalsref2_piece.l1 : Nat → Str → Int → Int → Int → Int → Int → Option annalsref2_Piece
  | 0, _, _, _, _, _, _ => none
  | k + 1, a0, a1, x14, x16, x68, x69 => (if (x69 : Int) < x14 then (atL a0 (wrap64 (a1 + x69))).bind (fun b77 => ((if ((b77.toNat : Int) : Int) < 128 then (some true) else (some (decide ((191 : Int) < (b77.toNat : Int)))))).bind (fun (z79 : Bool) => (if z79 = true then (some (⟨(-1), a1, 1⟩ : annalsref2_Piece)) else (annalsref2_piece.l1 k a0 a1 x14 x16 (wrap64 ((wrap64 ((wrap64 (x68 * 64)) + (b77.toNat : Int))) - 128)) (wrap64 (x69 + 1)))))) else ((if (x68 : Int) < x16 then (some true) else (if (1114111 : Int) < x68 then (some true) else (if (55296 : Int) ≤ x68 then (some (decide ((x68 : Int) ≤ 57343))) else (some false))))).bind (fun (z92 : Bool) => (if z92 = true then (some (⟨(-1), a1, 1⟩ : annalsref2_Piece)) else (some (⟨x68, a1, x14⟩ : annalsref2_Piece)))))
def annalsref2_piece.j0 : Nat → Str → Int → Int → Int → Int → Option annalsref2_Piece
  | 0, _, _, _, _, _ => none
  | k + 1, a0, a1, x14, x15, x16 => (if ((List.length a0 : Int) : Int) < (wrap64 (a1 + x14)) then (some (⟨(-1), a1, 1⟩ : annalsref2_Piece)) else (annalsref2_piece.l1 k a0 a1 x14 x16 x15 1))
end
def annalsref2_piece (k : Nat) (a0 : Str) (a1 : Int) : Option annalsref2_Piece :=
  (atL a0 a1).bind (fun b5 => (if ((b5.toNat : Int) : Int) < 128 then (some (⟨(b5.toNat : Int), a1, 1⟩ : annalsref2_Piece)) else ((if (192 : Int) ≤ (b5.toNat : Int) then (some (decide (((b5.toNat : Int) : Int) < 224))) else (some false))).bind (fun (z30 : Bool) => (if z30 = true then (annalsref2_piece.j0 k a0 a1 2 (wrap64 ((b5.toNat : Int) - 192)) 128) else ((if (224 : Int) ≤ (b5.toNat : Int) then (some (decide (((b5.toNat : Int) : Int) < 240))) else (some false))).bind (fun (z37 : Bool) => (if z37 = true then (annalsref2_piece.j0 k a0 a1 3 (wrap64 ((b5.toNat : Int) - 224)) 2048) else ((if (240 : Int) ≤ (b5.toNat : Int) then (some (decide (((b5.toNat : Int) : Int) < 248))) else (some false))).bind (fun (z44 : Bool) => (if z44 = true then (annalsref2_piece.j0 k a0 a1 4 (wrap64 ((b5.toNat : Int) - 240)) 65536) else (some (⟨(-1), a1, 1⟩ : annalsref2_Piece))))))))))
set_option maxRecDepth 100000 in
set_option maxHeartbeats 4000000 in
theorem annalsref2_piece_ok (k : Nat) (a0 : Str) (a1 : Int) (r : annalsref2_Piece) (w : World) (Fr : BS) (hG : Gl Fr w) (hF : ∀ b, Fr b → b < w.heap.size)  (H : annalsref2_piece k a0 a1 = some r) :
    CallsR Tryd.prog 93 #[.string (sv a0), .int .i64 a1] w (fun v w' => v = .agg #[.int .i64 r.R, .int .i64 r.At, .int .i64 r.N] ∧ Mem w' [(Fr, w)]) := by
  have M0 := Mem.start w Fr hF
  refine enterZ (args := [.string (sv a0), .int .i64 a1]) [.cell 4 147] Tryd.func93 rfl rfl rfl rfl ?_
  unfold annalsref2_piece at H
  refine WC_seq ?_
  refine WC_region ?_
  refine WL_of (L_alloc M0 rfl rfl zr147 [.int .i64 0, .int .i64 0, .int .i64 0] rfl ?_)
  intro g1 W2 B3 M4
  refine WL_nil ?_
  refine thenN ?_
  refine WC_seq ?_
  refine WC_region ?_
  refine WL_of (L_move rfl rfl (.string (sv a0)) rfl ?_)
  refine WL_of (L_move rfl rfl (.int .i64 a1) rfl ?_)
  obtain ⟨b5, hb6, H⟩ := bindS H
  refine WL_of (L_sindex rfl rfl Tryd.underlying9 .i64 a0 a1 rfl rfl b5 hb6 ?_)
  refine WL_of (L_conv rfl rfl (.int .u8 (b5.toNat : Int)) rfl (.int .i64 (b5.toNat : Int)) (C_u8_i64 Tryd.underlying5 Tryd.underlying3 b5) ?_)
  refine WL_of (L_assign rfl rfl (.int .i64 (b5.toNat : Int)) rfl ?_)
  refine WL_nil ?_
  refine thenN ?_
  refine WC_seq ?_
  refine WC_region ?_
  refine WL_of (L_move rfl rfl (.int .i64 a1) rfl ?_)
  refine WL_of (L_build' rfl rfl [(0, .int .i64 (-1)), (1, .int .i64 a1), (2, .int .i64 1)] rfl Tryd.underlying147 zr147 pl147 [.int .i64 (-1), .int .i64 a1, .int .i64 1] rfl ?_)
  refine WL_of (L_alloc M4 rfl rfl zr147 [.int .i64 0, .int .i64 0, .int .i64 0] rfl ?_)
  intro g7 W8 B9 M10
  refine WL_of (L_store M10 rfl (.agg #[.int .i64 (-1), .int .i64 a1, .int .i64 1]) rfl [.int .i64 (-1), .int .i64 a1, .int .i64 1] rfl 3 sz147 rfl rfl rfl B9 rfl rfl [.int .i64 (-1), .int .i64 a1, .int .i64 1] rfl ?_)
  intro W11 B12 M13
  refine WL_nil ?_
  refine thenN ?_
  refine WC_seq ?_
  refine WC_region ?_
  refine WL_of (L_assign rfl rfl (.int .i64 0) rfl ?_)
  refine WL_of (L_assign rfl rfl (.int .i64 0) rfl ?_)
  refine WL_of (L_assign rfl rfl (.int .i64 0) rfl ?_)
  refine WL_nil ?_
  refine thenN ?_
  refine WC_cut (fun ρ w_ => ∃ (k20 : Nat), ∃ (x14 : Int) (x15 : Int) (x16 : Int) (ρ0 : Nat → Value), ρ = updL ρ0 [(0, .string (sv a0)), (1, .int .i64 a1), (4, .pointer (some ⟨g1, 0, none⟩)), (6, .pointer (some ⟨g7, 0, none⟩)), (7, .int .i64 x14), (8, .int .i64 x15), (9, .int .i64 x16)] ∧ Mem w_ [(one g7, W11), (one g1, W2), (Fr, w)] ∧ k20 ≤ k ∧ annalsref2_piece.j0 k20 a0 a1 x14 x15 x16 = some r) ?_ ?_
  · refine WC_block ?_
    refine WC_seq ?_
    refine WC_region ?_
    refine WL_of (L_move rfl rfl (.int .i64 (b5.toNat : Int)) rfl ?_)
    refine WL_of (L_bin rfl rfl (.int .i64 (b5.toNat : Int)) (.int .i64 128) rfl rfl (.bool (decide (((b5.toNat : Int) : Int) < 128))) (B_lss _ _ _ _ (b5.toNat : Int) 128) ?_)
    refine WL_of (L_assign rfl rfl (.bool (decide (((b5.toNat : Int) : Int) < 128))) rfl ?_)
    refine WL_nil ?_
    refine thenN ?_
    refine WC_if (p := ((b5.toNat : Int) : Int) < 128) rfl (fun c23 => ?_) (fun c23 => ?_)
    · replace H := ifP c23 H
      refine WC_seq ?_
      refine WC_region ?_
      refine WL_of (L_move rfl rfl (.int .i64 (b5.toNat : Int)) rfl ?_)
      refine WL_of (L_move rfl rfl (.int .i64 a1) rfl ?_)
      refine WL_of (L_build' rfl rfl [(0, .int .i64 (b5.toNat : Int)), (1, .int .i64 a1), (2, .int .i64 1)] rfl Tryd.underlying147 zr147 pl147 [.int .i64 (b5.toNat : Int), .int .i64 a1, .int .i64 1] rfl ?_)
      have M24 : Mem W11 [(one g1, W2), (one g7, W11), (Fr, w)] := M13.front [(one g7, W11)] rfl
      refine WL_of (L_store M24 rfl (.agg #[.int .i64 (b5.toNat : Int), .int .i64 a1, .int .i64 1]) rfl [.int .i64 (b5.toNat : Int), .int .i64 a1, .int .i64 1] rfl 3 sz147 rfl rfl rfl B3 rfl rfl [.int .i64 (b5.toNat : Int), .int .i64 a1, .int .i64 1] rfl ?_)
      intro W25 B26 M27
      refine WL_nil ?_
      refine thenN ?_
      refine WC_ret ?_
      refine blkR ?_
      refine thenR ?_
      obtain rfl := someE H
      have M28 : Mem W25 [(Fr, w), (one g1, W25), (one g7, W11)] := M27.front [(one g1, W25), (one g7, W11)] rfl
      have M29 : Mem W25 [(Fr, w)] := M28.sub (List.prefix_append [(Fr, w)] [(one g1, W25), (one g7, W11)]).sublist
      refine retR [.agg #[.int .i64 (b5.toNat : Int), .int .i64 a1, .int .i64 1]] ⟨⟨_, rfl, R_loadVarN Tryd.underlying147 rfl B26.el (M27.agree 0 rfl) sz147 rfl⟩, trivial⟩ ?_
      exact ⟨rfl, M29⟩
    · replace H := ifN c23 H
      obtain ⟨z30, hz31, H⟩ := bindS H
      refine WC_cut (fun ρ w_ => ∃  (ρ0 : Nat → Value), ρ = updL ρ0 [(0, .string (sv a0)), (1, .int .i64 a1), (4, .pointer (some ⟨g1, 0, none⟩)), (5, .int .i64 (b5.toNat : Int)), (6, .pointer (some ⟨g7, 0, none⟩)), (7, .int .i64 0), (8, .int .i64 0), (9, .int .i64 0), (25, .bool z30)] ∧ Mem w_ [(one g7, W11), (one g1, W2), (Fr, w)]) ?_ ?_
      · refine WC_region ?_
        refine WL_of (L_move rfl rfl (.int .i64 (b5.toNat : Int)) rfl ?_)
        refine WL_of (L_bin rfl rfl (.int .i64 (b5.toNat : Int)) (.int .i64 192) rfl rfl (.bool (decide ((192 : Int) ≤ (b5.toNat : Int)))) (B_geq _ _ _ _ (b5.toNat : Int) 192) ?_)
        refine WL_of (L_move rfl rfl (.bool (decide ((192 : Int) ≤ (b5.toNat : Int)))) rfl ?_)
        by_cases c32 : (192 : Int) ≤ (b5.toNat : Int)
        · replace hz31 := ifP c32 hz31
          refine WL_known 28 true (vtrue c32) ?_
          refine WL_of (L_move rfl rfl (.int .i64 (b5.toNat : Int)) rfl ?_)
          refine WL_of (L_bin rfl rfl (.int .i64 (b5.toNat : Int)) (.int .i64 224) rfl rfl (.bool (decide (((b5.toNat : Int) : Int) < 224))) (B_lss _ _ _ _ (b5.toNat : Int) 224) ?_)
          refine WL_of (L_pick rfl rfl true rfl (.bool (decide (((b5.toNat : Int) : Int) < 224))) rfl ?_)
          refine WL_of (L_assign rfl rfl (.bool (decide (((b5.toNat : Int) : Int) < 224))) rfl ?_)
          refine WL_nil ?_
          refine thenN ?_
          obtain rfl := someE hz31
          exact ⟨_, updL_same _ _ ⟨rfl, rfl, rfl, rfl, rfl, rfl, rfl, rfl, rfl, trivial⟩, M13⟩
        · replace hz31 := ifN c32 hz31
          refine WL_known 28 false (vfalse c32) ?_
          refine WL_of (WO_off rfl rfl ?_)
          refine WL_of (WO_off rfl rfl ?_)
          refine WL_of (L_pick rfl rfl false rfl (.bool false) rfl ?_)
          refine WL_of (L_assign rfl rfl (.bool false) rfl ?_)
          refine WL_nil ?_
          refine thenN ?_
          obtain rfl := someE hz31
          exact ⟨_, updL_same _ _ ⟨rfl, rfl, rfl, rfl, rfl, rfl, rfl, rfl, rfl, trivial⟩, M13⟩
      · rintro _ W33 ⟨ρ35, rfl, M34⟩
        refine WC_ifb rfl (fun c36 => ?_) (fun c36 => ?_)
        · replace H := ifP c36 H
          refine WC_region ?_
          refine WL_of (L_move rfl rfl (.int .i64 (b5.toNat : Int)) rfl ?_)
          refine WL_of (L_bin rfl rfl (.int .i64 (b5.toNat : Int)) (.int .i64 192) rfl rfl (.int .i64 (wrap64 ((b5.toNat : Int) - 192))) (B_sub _ _ _ (b5.toNat : Int) 192) ?_)
          refine WL_of (L_assign rfl rfl (.int .i64 2) rfl ?_)
          refine WL_of (L_assign rfl rfl (.int .i64 (wrap64 ((b5.toNat : Int) - 192))) rfl ?_)
          refine WL_of (L_assign rfl rfl (.int .i64 128) rfl ?_)
          refine WL_nil ?_
          refine blkN ?_
          refine thenN ?_
          exact ⟨k, 2, wrap64 ((b5.toNat : Int) - 192), 128, _, updL_same _ _ ⟨rfl, rfl, rfl, rfl, rfl, rfl, rfl, trivial⟩, M34, (by omega), H⟩
        · replace H := ifN (by rw [c36]; simp) H
          obtain ⟨z37, hz38, H⟩ := bindS H
          refine WC_cut (fun ρ w_ => ∃  (ρ0 : Nat → Value), ρ = updL ρ0 [(0, .string (sv a0)), (1, .int .i64 a1), (4, .pointer (some ⟨g1, 0, none⟩)), (5, .int .i64 (b5.toNat : Int)), (6, .pointer (some ⟨g7, 0, none⟩)), (7, .int .i64 0), (8, .int .i64 0), (9, .int .i64 0), (34, .bool z37)] ∧ Mem w_ [(one g7, W11), (one g1, W2), (Fr, w)]) ?_ ?_
          · refine WC_region ?_
            refine WL_of (L_move rfl rfl (.int .i64 (b5.toNat : Int)) rfl ?_)
            refine WL_of (L_bin rfl rfl (.int .i64 (b5.toNat : Int)) (.int .i64 224) rfl rfl (.bool (decide ((224 : Int) ≤ (b5.toNat : Int)))) (B_geq _ _ _ _ (b5.toNat : Int) 224) ?_)
            refine WL_of (L_move rfl rfl (.bool (decide ((224 : Int) ≤ (b5.toNat : Int)))) rfl ?_)
            by_cases c39 : (224 : Int) ≤ (b5.toNat : Int)
            · replace hz38 := ifP c39 hz38
              refine WL_known 37 true (vtrue c39) ?_
              refine WL_of (L_move rfl rfl (.int .i64 (b5.toNat : Int)) rfl ?_)
              refine WL_of (L_bin rfl rfl (.int .i64 (b5.toNat : Int)) (.int .i64 240) rfl rfl (.bool (decide (((b5.toNat : Int) : Int) < 240))) (B_lss _ _ _ _ (b5.toNat : Int) 240) ?_)
              refine WL_of (L_pick rfl rfl true rfl (.bool (decide (((b5.toNat : Int) : Int) < 240))) rfl ?_)
              refine WL_of (L_assign rfl rfl (.bool (decide (((b5.toNat : Int) : Int) < 240))) rfl ?_)
              refine WL_nil ?_
              refine thenN ?_
              obtain rfl := someE hz38
              exact ⟨_, updL_same _ _ ⟨rfl, rfl, rfl, rfl, rfl, rfl, rfl, rfl, rfl, trivial⟩, M34⟩
            · replace hz38 := ifN c39 hz38
              refine WL_known 37 false (vfalse c39) ?_
              refine WL_of (WO_off rfl rfl ?_)
              refine WL_of (WO_off rfl rfl ?_)
              refine WL_of (L_pick rfl rfl false rfl (.bool false) rfl ?_)
              refine WL_of (L_assign rfl rfl (.bool false) rfl ?_)
              refine WL_nil ?_
              refine thenN ?_
              obtain rfl := someE hz38
              exact ⟨_, updL_same _ _ ⟨rfl, rfl, rfl, rfl, rfl, rfl, rfl, rfl, rfl, trivial⟩, M34⟩
          · rintro _ W40 ⟨ρ42, rfl, M41⟩
            refine WC_ifb rfl (fun c43 => ?_) (fun c43 => ?_)
            · replace H := ifP c43 H
              refine WC_region ?_
              refine WL_of (L_move rfl rfl (.int .i64 (b5.toNat : Int)) rfl ?_)
              refine WL_of (L_bin rfl rfl (.int .i64 (b5.toNat : Int)) (.int .i64 224) rfl rfl (.int .i64 (wrap64 ((b5.toNat : Int) - 224))) (B_sub _ _ _ (b5.toNat : Int) 224) ?_)
              refine WL_of (L_assign rfl rfl (.int .i64 3) rfl ?_)
              refine WL_of (L_assign rfl rfl (.int .i64 (wrap64 ((b5.toNat : Int) - 224))) rfl ?_)
              refine WL_of (L_assign rfl rfl (.int .i64 2048) rfl ?_)
              refine WL_nil ?_
              refine blkN ?_
              refine thenN ?_
              exact ⟨k, 3, wrap64 ((b5.toNat : Int) - 224), 2048, _, updL_same _ _ ⟨rfl, rfl, rfl, rfl, rfl, rfl, rfl, trivial⟩, M41, (by omega), H⟩
            · replace H := ifN (by rw [c43]; simp) H
              obtain ⟨z44, hz45, H⟩ := bindS H
              refine WC_cut (fun ρ w_ => ∃  (ρ0 : Nat → Value), ρ = updL ρ0 [(0, .string (sv a0)), (1, .int .i64 a1), (4, .pointer (some ⟨g1, 0, none⟩)), (5, .int .i64 (b5.toNat : Int)), (6, .pointer (some ⟨g7, 0, none⟩)), (7, .int .i64 0), (8, .int .i64 0), (9, .int .i64 0), (43, .bool z44)] ∧ Mem w_ [(one g7, W11), (one g1, W2), (Fr, w)]) ?_ ?_
              · refine WC_region ?_
                refine WL_of (L_move rfl rfl (.int .i64 (b5.toNat : Int)) rfl ?_)
                refine WL_of (L_bin rfl rfl (.int .i64 (b5.toNat : Int)) (.int .i64 240) rfl rfl (.bool (decide ((240 : Int) ≤ (b5.toNat : Int)))) (B_geq _ _ _ _ (b5.toNat : Int) 240) ?_)
                refine WL_of (L_move rfl rfl (.bool (decide ((240 : Int) ≤ (b5.toNat : Int)))) rfl ?_)
                by_cases c46 : (240 : Int) ≤ (b5.toNat : Int)
                · replace hz45 := ifP c46 hz45
                  refine WL_known 46 true (vtrue c46) ?_
                  refine WL_of (L_move rfl rfl (.int .i64 (b5.toNat : Int)) rfl ?_)
                  refine WL_of (L_bin rfl rfl (.int .i64 (b5.toNat : Int)) (.int .i64 248) rfl rfl (.bool (decide (((b5.toNat : Int) : Int) < 248))) (B_lss _ _ _ _ (b5.toNat : Int) 248) ?_)
                  refine WL_of (L_pick rfl rfl true rfl (.bool (decide (((b5.toNat : Int) : Int) < 248))) rfl ?_)
                  refine WL_of (L_assign rfl rfl (.bool (decide (((b5.toNat : Int) : Int) < 248))) rfl ?_)
                  refine WL_nil ?_
                  refine thenN ?_
                  obtain rfl := someE hz45
                  exact ⟨_, updL_same _ _ ⟨rfl, rfl, rfl, rfl, rfl, rfl, rfl, rfl, rfl, trivial⟩, M41⟩
                · replace hz45 := ifN c46 hz45
                  refine WL_known 46 false (vfalse c46) ?_
                  refine WL_of (WO_off rfl rfl ?_)
                  refine WL_of (WO_off rfl rfl ?_)
                  refine WL_of (L_pick rfl rfl false rfl (.bool false) rfl ?_)
                  refine WL_of (L_assign rfl rfl (.bool false) rfl ?_)
                  refine WL_nil ?_
                  refine thenN ?_
                  obtain rfl := someE hz45
                  exact ⟨_, updL_same _ _ ⟨rfl, rfl, rfl, rfl, rfl, rfl, rfl, rfl, rfl, trivial⟩, M41⟩
              · rintro _ W47 ⟨ρ49, rfl, M48⟩
                refine WC_ifb rfl (fun c50 => ?_) (fun c50 => ?_)
                · replace H := ifP c50 H
                  refine WC_region ?_
                  refine WL_of (L_move rfl rfl (.int .i64 (b5.toNat : Int)) rfl ?_)
                  refine WL_of (L_bin rfl rfl (.int .i64 (b5.toNat : Int)) (.int .i64 240) rfl rfl (.int .i64 (wrap64 ((b5.toNat : Int) - 240))) (B_sub _ _ _ (b5.toNat : Int) 240) ?_)
                  refine WL_of (L_assign rfl rfl (.int .i64 4) rfl ?_)
                  refine WL_of (L_assign rfl rfl (.int .i64 (wrap64 ((b5.toNat : Int) - 240))) rfl ?_)
                  refine WL_of (L_assign rfl rfl (.int .i64 65536) rfl ?_)
                  refine WL_nil ?_
                  refine blkN ?_
                  refine thenN ?_
                  exact ⟨k, 4, wrap64 ((b5.toNat : Int) - 240), 65536, _, updL_same _ _ ⟨rfl, rfl, rfl, rfl, rfl, rfl, rfl, trivial⟩, M48, (by omega), H⟩
                · replace H := ifN (by rw [c50]; simp) H
                  refine WC_seq ?_
                  refine WC_region ?_
                  refine WL_of (L_loadN rfl rfl Tryd.underlying147 rfl B12.el (M48.agree 0 rfl) 0 rfl 3 sz147 [.int .i64 (-1), .int .i64 a1, .int .i64 1] rfl rfl ?_)
                  have M51 : Mem W47 [(one g1, W2), (one g7, W11), (Fr, w)] := M48.front [(one g7, W11)] rfl
                  refine WL_of (L_store M51 rfl (.agg #[.int .i64 (-1), .int .i64 a1, .int .i64 1]) rfl [.int .i64 (-1), .int .i64 a1, .int .i64 1] rfl 3 sz147 rfl rfl rfl B3 rfl rfl [.int .i64 (-1), .int .i64 a1, .int .i64 1] rfl ?_)
                  intro W52 B53 M54
                  refine WL_nil ?_
                  refine thenN ?_
                  refine WC_ret ?_
                  refine blkR ?_
                  refine thenR ?_
                  obtain rfl := someE H
                  have M55 : Mem W52 [(Fr, w), (one g1, W52), (one g7, W11)] := M54.front [(one g1, W52), (one g7, W11)] rfl
                  have M56 : Mem W52 [(Fr, w)] := M55.sub (List.prefix_append [(Fr, w)] [(one g1, W52), (one g7, W11)]).sublist
                  refine retR [.agg #[.int .i64 (-1), .int .i64 a1, .int .i64 1]] ⟨⟨_, rfl, R_loadVarN Tryd.underlying147 rfl B53.el (M54.agree 0 rfl) sz147 rfl⟩, trivial⟩ ?_
                  exact ⟨rfl, M56⟩
  · rintro _ W17 ⟨k20, x14, x15, x16, ρ19, rfl, M18, hk21, H22⟩
    cases k20 with
    | zero => rw [annalsref2_piece.j0] at H22; cases H22
    | succ k20 =>
    rw [annalsref2_piece.j0] at H22
    refine WC_seq ?_
    refine WC_seq ?_
    refine WC_region ?_
    refine WL_of (L_move rfl rfl (.int .i64 a1) rfl ?_)
    refine WL_of (L_move rfl rfl (.int .i64 x14) rfl ?_)
    refine WL_of (L_bin rfl rfl (.int .i64 a1) (.int .i64 x14) rfl rfl (.int .i64 (wrap64 (a1 + x14))) (B_add _ _ _ a1 x14) ?_)
    refine WL_of (L_move rfl rfl (.string (sv a0)) rfl ?_)
    refine WL_of (L_len rfl rfl (.string (sv a0)) rfl (List.length a0) (N_str Tryd.underlying9 a0) ?_)
    refine WL_of (L_bin rfl rfl (.int .i64 (wrap64 (a1 + x14))) (.int .i64 (List.length a0 : Int)) rfl rfl (.bool (decide (((List.length a0 : Int) : Int) < (wrap64 (a1 + x14))))) (B_gtr _ _ _ _ (wrap64 (a1 + x14)) (List.length a0 : Int)) ?_)
    refine WL_nil ?_
    refine thenN ?_
    refine WC_if (p := ((List.length a0 : Int) : Int) < (wrap64 (a1 + x14))) rfl (fun c57 => ?_) (fun c57 => ?_)
    · replace H22 := ifP c57 H22
      refine WC_seq ?_
      refine WC_region ?_
      refine WL_of (L_loadN rfl rfl Tryd.underlying147 rfl B12.el (M18.agree 0 rfl) 0 rfl 3 sz147 [.int .i64 (-1), .int .i64 a1, .int .i64 1] rfl rfl ?_)
      have M58 : Mem W17 [(one g1, W2), (one g7, W11), (Fr, w)] := M18.front [(one g7, W11)] rfl
      refine WL_of (L_store M58 rfl (.agg #[.int .i64 (-1), .int .i64 a1, .int .i64 1]) rfl [.int .i64 (-1), .int .i64 a1, .int .i64 1] rfl 3 sz147 rfl rfl rfl B3 rfl rfl [.int .i64 (-1), .int .i64 a1, .int .i64 1] rfl ?_)
      intro W59 B60 M61
      refine WL_nil ?_
      refine thenN ?_
      refine WC_ret ?_
      refine thenR ?_
      obtain rfl := someE H22
      have M62 : Mem W59 [(Fr, w), (one g1, W59), (one g7, W11)] := M61.front [(one g1, W59), (one g7, W11)] rfl
      have M63 : Mem W59 [(Fr, w)] := M62.sub (List.prefix_append [(Fr, w)] [(one g1, W59), (one g7, W11)]).sublist
      refine retR [.agg #[.int .i64 (-1), .int .i64 a1, .int .i64 1]] ⟨⟨_, rfl, R_loadVarN Tryd.underlying147 rfl B60.el (M61.agree 0 rfl) sz147 rfl⟩, trivial⟩ ?_
      exact ⟨rfl, M63⟩
    · replace H22 := ifN c57 H22
      refine WC_skip ?_
      refine thenN ?_
      refine WC_seq ?_
      refine WC_seq ?_
      refine WC_region ?_
      refine WL_of (L_assign rfl rfl (.int .i64 1) rfl ?_)
      refine WL_nil ?_
      refine thenN ?_
      refine WC_block ?_
      refine WC_loop (fun k74 ρ w_ => ∃ (x68 : Int) (x69 : Int) (ρ0 : Nat → Value), ρ = updL ρ0 [(0, .string (sv a0)), (1, .int .i64 a1), (4, .pointer (some ⟨g1, 0, none⟩)), (6, .pointer (some ⟨g7, 0, none⟩)), (7, .int .i64 x14), (8, .int .i64 x68), (9, .int .i64 x16), (10, .int .i64 x69)] ∧ Mem w_ [(one g7, W11), (one g1, W2), (Fr, w)] ∧ k74 ≤ k20 ∧ annalsref2_piece.l1 k74 a0 a1 x14 x16 x68 x69 = some r) k20 ?_ ?_
      · exact ⟨x15, 1, _, updL_same _ _ ⟨rfl, rfl, rfl, rfl, rfl, rfl, rfl, rfl, trivial⟩, M18, (Nat.le_refl _), H22⟩
      · rintro k74 _ W70 ⟨x68, x69, ρ72, rfl, M71, hk75, H73⟩
        cases k74 with
        | zero => rw [annalsref2_piece.l1] at H73; cases H73
        | succ k74 =>
        rw [annalsref2_piece.l1] at H73
        refine WC_seq ?_
        refine WC_seq ?_
        refine WC_region ?_
        refine WL_of (L_move rfl rfl (.int .i64 x69) rfl ?_)
        refine WL_of (L_move rfl rfl (.int .i64 x14) rfl ?_)
        refine WL_of (L_bin rfl rfl (.int .i64 x69) (.int .i64 x14) rfl rfl (.bool (decide ((x69 : Int) < x14))) (B_lss _ _ _ _ x69 x14) ?_)
        refine WL_nil ?_
        refine thenN ?_
        refine WC_if (p := (x69 : Int) < x14) rfl (fun c76 => ?_) (fun c76 => ?_)
        · replace H73 := ifP c76 H73
          refine WC_skip ?_
          refine thenN ?_
          refine WC_seq ?_
          refine WC_block ?_
          refine WC_seq ?_
          refine WC_region ?_
          refine WL_of (L_move rfl rfl (.string (sv a0)) rfl ?_)
          refine WL_of (L_move rfl rfl (.int .i64 a1) rfl ?_)
          refine WL_of (L_move rfl rfl (.int .i64 x69) rfl ?_)
          refine WL_of (L_bin rfl rfl (.int .i64 a1) (.int .i64 x69) rfl rfl (.int .i64 (wrap64 (a1 + x69))) (B_add _ _ _ a1 x69) ?_)
          obtain ⟨b77, hb78, H73⟩ := bindS H73
          refine WL_of (L_sindex rfl rfl Tryd.underlying9 .i64 a0 (wrap64 (a1 + x69)) rfl rfl b77 hb78 ?_)
          refine WL_of (L_conv rfl rfl (.int .u8 (b77.toNat : Int)) rfl (.int .i64 (b77.toNat : Int)) (C_u8_i64 Tryd.underlying5 Tryd.underlying3 b77) ?_)
          refine WL_of (L_assign rfl rfl (.int .i64 (b77.toNat : Int)) rfl ?_)
          refine WL_nil ?_
          refine thenN ?_
          refine WC_seq ?_
          obtain ⟨z79, hz80, H73⟩ := bindS H73
          refine WC_cut (fun ρ w_ => ∃  (ρ0 : Nat → Value), ρ = updL ρ0 [(0, .string (sv a0)), (1, .int .i64 a1), (4, .pointer (some ⟨g1, 0, none⟩)), (6, .pointer (some ⟨g7, 0, none⟩)), (7, .int .i64 x14), (8, .int .i64 x68), (9, .int .i64 x16), (10, .int .i64 x69), (11, .int .i64 (b77.toNat : Int)), (75, .bool z79)] ∧ Mem w_ [(one g7, W11), (one g1, W2), (Fr, w)]) ?_ ?_
          · refine WC_region ?_
            refine WL_of (L_move rfl rfl (.int .i64 (b77.toNat : Int)) rfl ?_)
            refine WL_of (L_bin rfl rfl (.int .i64 (b77.toNat : Int)) (.int .i64 128) rfl rfl (.bool (decide (((b77.toNat : Int) : Int) < 128))) (B_lss _ _ _ _ (b77.toNat : Int) 128) ?_)
            refine WL_of (L_move rfl rfl (.bool (decide (((b77.toNat : Int) : Int) < 128))) rfl ?_)
            by_cases c81 : ((b77.toNat : Int) : Int) < 128
            · replace hz80 := ifP c81 hz80
              refine WL_known 72 true (vtrue c81) ?_
              refine WL_of (WO_off rfl rfl ?_)
              refine WL_of (WO_off rfl rfl ?_)
              refine WL_of (L_pick rfl rfl true rfl (.bool true) rfl ?_)
              refine WL_nil ?_
              refine thenN ?_
              obtain rfl := someE hz80
              exact ⟨_, updL_same _ _ ⟨rfl, rfl, rfl, rfl, rfl, rfl, rfl, rfl, rfl, rfl, trivial⟩, M71⟩
            · replace hz80 := ifN c81 hz80
              refine WL_known 72 false (vfalse c81) ?_
              refine WL_of (L_move rfl rfl (.int .i64 (b77.toNat : Int)) rfl ?_)
              refine WL_of (L_bin rfl rfl (.int .i64 (b77.toNat : Int)) (.int .i64 191) rfl rfl (.bool (decide ((191 : Int) < (b77.toNat : Int)))) (B_gtr _ _ _ _ (b77.toNat : Int) 191) ?_)
              refine WL_of (L_pick rfl rfl false rfl (.bool (decide ((191 : Int) < (b77.toNat : Int)))) rfl ?_)
              refine WL_nil ?_
              refine thenN ?_
              obtain rfl := someE hz80
              exact ⟨_, updL_same _ _ ⟨rfl, rfl, rfl, rfl, rfl, rfl, rfl, rfl, rfl, rfl, trivial⟩, M71⟩
          · rintro _ W82 ⟨ρ84, rfl, M83⟩
            refine WC_ifb rfl (fun c85 => ?_) (fun c85 => ?_)
            · replace H73 := ifP c85 H73
              refine WC_seq ?_
              refine WC_region ?_
              refine WL_of (L_loadN rfl rfl Tryd.underlying147 rfl B12.el (M83.agree 0 rfl) 0 rfl 3 sz147 [.int .i64 (-1), .int .i64 a1, .int .i64 1] rfl rfl ?_)
              have M86 : Mem W82 [(one g1, W2), (one g7, W11), (Fr, w)] := M83.front [(one g7, W11)] rfl
              refine WL_of (L_store M86 rfl (.agg #[.int .i64 (-1), .int .i64 a1, .int .i64 1]) rfl [.int .i64 (-1), .int .i64 a1, .int .i64 1] rfl 3 sz147 rfl rfl rfl B3 rfl rfl [.int .i64 (-1), .int .i64 a1, .int .i64 1] rfl ?_)
              intro W87 B88 M89
              refine WL_nil ?_
              refine thenN ?_
              refine WC_ret ?_
              refine thenR ?_
              refine blkR ?_
              refine thenR ?_
              refine thenR ?_
              refine blkR ?_
              refine thenR ?_
              obtain rfl := someE H73
              have M90 : Mem W87 [(Fr, w), (one g1, W87), (one g7, W11)] := M89.front [(one g1, W87), (one g7, W11)] rfl
              have M91 : Mem W87 [(Fr, w)] := M90.sub (List.prefix_append [(Fr, w)] [(one g1, W87), (one g7, W11)]).sublist
              refine retR [.agg #[.int .i64 (-1), .int .i64 a1, .int .i64 1]] ⟨⟨_, rfl, R_loadVarN Tryd.underlying147 rfl B88.el (M89.agree 0 rfl) sz147 rfl⟩, trivial⟩ ?_
              exact ⟨rfl, M91⟩
            · replace H73 := ifN (by rw [c85]; simp) H73
              refine WC_skip ?_
              refine thenN ?_
              refine WC_region ?_
              refine WL_of (L_move rfl rfl (.int .i64 x68) rfl ?_)
              refine WL_of (L_bin rfl rfl (.int .i64 x68) (.int .i64 64) rfl rfl (.int .i64 (wrap64 (x68 * 64))) (B_mul _ _ _ x68 64) ?_)
              refine WL_of (L_move rfl rfl (.int .i64 (b77.toNat : Int)) rfl ?_)
              refine WL_of (L_bin rfl rfl (.int .i64 (wrap64 (x68 * 64))) (.int .i64 (b77.toNat : Int)) rfl rfl (.int .i64 (wrap64 ((wrap64 (x68 * 64)) + (b77.toNat : Int)))) (B_add _ _ _ (wrap64 (x68 * 64)) (b77.toNat : Int)) ?_)
              refine WL_of (L_bin rfl rfl (.int .i64 (wrap64 ((wrap64 (x68 * 64)) + (b77.toNat : Int)))) (.int .i64 128) rfl rfl (.int .i64 (wrap64 ((wrap64 ((wrap64 (x68 * 64)) + (b77.toNat : Int))) - 128))) (B_sub _ _ _ (wrap64 ((wrap64 (x68 * 64)) + (b77.toNat : Int))) 128) ?_)
              refine WL_of (L_assign rfl rfl (.int .i64 (wrap64 ((wrap64 ((wrap64 (x68 * 64)) + (b77.toNat : Int))) - 128))) rfl ?_)
              refine WL_nil ?_
              refine blkN ?_
              refine thenN ?_
              refine WC_region ?_
              refine WL_of (L_move rfl rfl (.int .i64 x69) rfl ?_)
              refine WL_of (L_bin rfl rfl (.int .i64 x69) (.int .i64 1) rfl rfl (.int .i64 (wrap64 (x69 + 1))) (B_add _ _ _ x69 1) ?_)
              refine WL_of (L_assign rfl rfl (.int .i64 (wrap64 (x69 + 1))) rfl ?_)
              refine WL_nil ?_
              refine thenN ?_
              exact ⟨k74, by omega, wrap64 ((wrap64 ((wrap64 (x68 * 64)) + (b77.toNat : Int))) - 128), wrap64 (x69 + 1), _, updL_same _ _ ⟨rfl, rfl, rfl, rfl, rfl, rfl, rfl, rfl, trivial⟩, M83, (by omega), H73⟩
        · replace H73 := ifN c76 H73
          refine WC_exit ?_
          refine thenE ?_
          refine thenE ?_
          refine blkX ?_
          refine thenN ?_
          refine WC_seq ?_
          obtain ⟨z92, hz93, H73⟩ := bindS H73
          refine WC_cut (fun ρ w_ => ∃  (ρ0 : Nat → Value), ρ = updL ρ0 [(1, .int .i64 a1), (4, .pointer (some ⟨g1, 0, none⟩)), (6, .pointer (some ⟨g7, 0, none⟩)), (7, .int .i64 x14), (8, .int .i64 x68), (96, .bool z92)] ∧ Mem w_ [(one g7, W11), (one g1, W2), (Fr, w)]) ?_ ?_
          · refine WC_region ?_
            refine WL_of (L_move rfl rfl (.int .i64 x68) rfl ?_)
            refine WL_of (L_move rfl rfl (.int .i64 x16) rfl ?_)
            refine WL_of (L_bin rfl rfl (.int .i64 x68) (.int .i64 x16) rfl rfl (.bool (decide ((x68 : Int) < x16))) (B_lss _ _ _ _ x68 x16) ?_)
            refine WL_of (L_move rfl rfl (.bool (decide ((x68 : Int) < x16))) rfl ?_)
            by_cases c94 : (x68 : Int) < x16
            · replace hz93 := ifP c94 hz93
              refine WL_known 85 true (vtrue c94) ?_
              refine WL_of (WO_off rfl rfl ?_)
              refine WL_of (WO_off rfl rfl ?_)
              refine WL_of (L_pick rfl rfl true rfl (.bool true) rfl ?_)
              refine WL_of (L_move rfl rfl (.bool true) rfl ?_)
              refine WL_of (WO_off rfl rfl ?_)
              refine WL_of (WO_off rfl rfl ?_)
              refine WL_of (WO_off rfl rfl ?_)
              refine WL_of (WO_off rfl rfl ?_)
              refine WL_of (WO_off rfl rfl ?_)
              refine WL_of (WO_off rfl rfl ?_)
              refine WL_of (L_pick rfl rfl true rfl (.bool true) rfl ?_)
              refine WL_nil ?_
              refine thenN ?_
              obtain rfl := someE hz93
              exact ⟨_, updL_same _ _ ⟨rfl, rfl, rfl, rfl, rfl, rfl, trivial⟩, M71⟩
            · replace hz93 := ifN c94 hz93
              refine WL_known 85 false (vfalse c94) ?_
              refine WL_of (L_move rfl rfl (.int .i64 x68) rfl ?_)
              refine WL_of (L_bin rfl rfl (.int .i64 x68) (.int .i64 1114111) rfl rfl (.bool (decide ((1114111 : Int) < x68))) (B_gtr _ _ _ _ x68 1114111) ?_)
              refine WL_of (L_pick rfl rfl false rfl (.bool (decide ((1114111 : Int) < x68))) rfl ?_)
              refine WL_of (L_move rfl rfl (.bool (decide ((1114111 : Int) < x68))) rfl ?_)
              by_cases c95 : (1114111 : Int) < x68
              · replace hz93 := ifP c95 hz93
                refine WL_known 89 true (vtrue c95) ?_
                refine WL_of (WO_off rfl rfl ?_)
                refine WL_of (WO_off rfl rfl ?_)
                refine WL_of (WO_off rfl rfl ?_)
                refine WL_of (WO_off rfl rfl ?_)
                refine WL_of (WO_off rfl rfl ?_)
                refine WL_of (WO_off rfl rfl ?_)
                refine WL_of (L_pick rfl rfl true rfl (.bool true) rfl ?_)
                refine WL_nil ?_
                refine thenN ?_
                obtain rfl := someE hz93
                exact ⟨_, updL_same _ _ ⟨rfl, rfl, rfl, rfl, rfl, rfl, trivial⟩, M71⟩
              · replace hz93 := ifN c95 hz93
                refine WL_known 89 false (vfalse c95) ?_
                refine WL_of (L_move rfl rfl (.int .i64 x68) rfl ?_)
                refine WL_of (L_bin rfl rfl (.int .i64 x68) (.int .i64 55296) rfl rfl (.bool (decide ((55296 : Int) ≤ x68))) (B_geq _ _ _ _ x68 55296) ?_)
                refine WL_of (L_move rfl rfl (.bool (decide ((55296 : Int) ≤ x68))) rfl ?_)
                by_cases c96 : (55296 : Int) ≤ x68
                · replace hz93 := ifP c96 hz93
                  refine WL_known 92 true (vtrue c96) ?_
                  refine WL_of (L_move rfl rfl (.int .i64 x68) rfl ?_)
                  refine WL_of (L_bin rfl rfl (.int .i64 x68) (.int .i64 57343) rfl rfl (.bool (decide ((x68 : Int) ≤ 57343))) (B_leq _ _ _ _ x68 57343) ?_)
                  refine WL_of (L_pick rfl rfl true rfl (.bool (decide ((x68 : Int) ≤ 57343))) rfl ?_)
                  refine WL_of (L_pick rfl rfl false rfl (.bool (decide ((x68 : Int) ≤ 57343))) rfl ?_)
                  refine WL_nil ?_
                  refine thenN ?_
                  obtain rfl := someE hz93
                  exact ⟨_, updL_same _ _ ⟨rfl, rfl, rfl, rfl, rfl, rfl, trivial⟩, M71⟩
                · replace hz93 := ifN c96 hz93
                  refine WL_known 92 false (vfalse c96) ?_
                  refine WL_of (WO_off rfl rfl ?_)
                  refine WL_of (WO_off rfl rfl ?_)
                  refine WL_of (L_pick rfl rfl false rfl (.bool false) rfl ?_)
                  refine WL_of (L_pick rfl rfl false rfl (.bool false) rfl ?_)
                  refine WL_nil ?_
                  refine thenN ?_
                  obtain rfl := someE hz93
                  exact ⟨_, updL_same _ _ ⟨rfl, rfl, rfl, rfl, rfl, rfl, trivial⟩, M71⟩
          · rintro _ W97 ⟨ρ99, rfl, M98⟩
            refine WC_ifb rfl (fun c100 => ?_) (fun c100 => ?_)
            · replace H73 := ifP c100 H73
              refine WC_seq ?_
              refine WC_region ?_
              refine WL_of (L_loadN rfl rfl Tryd.underlying147 rfl B12.el (M98.agree 0 rfl) 0 rfl 3 sz147 [.int .i64 (-1), .int .i64 a1, .int .i64 1] rfl rfl ?_)
              have M101 : Mem W97 [(one g1, W2), (one g7, W11), (Fr, w)] := M98.front [(one g7, W11)] rfl
              refine WL_of (L_store M101 rfl (.agg #[.int .i64 (-1), .int .i64 a1, .int .i64 1]) rfl [.int .i64 (-1), .int .i64 a1, .int .i64 1] rfl 3 sz147 rfl rfl rfl B3 rfl rfl [.int .i64 (-1), .int .i64 a1, .int .i64 1] rfl ?_)
              intro W102 B103 M104
              refine WL_nil ?_
              refine thenN ?_
              refine WC_ret ?_
              refine thenR ?_
              obtain rfl := someE H73
              have M105 : Mem W102 [(Fr, w), (one g1, W102), (one g7, W11)] := M104.front [(one g1, W102), (one g7, W11)] rfl
              have M106 : Mem W102 [(Fr, w)] := M105.sub (List.prefix_append [(Fr, w)] [(one g1, W102), (one g7, W11)]).sublist
              refine retR [.agg #[.int .i64 (-1), .int .i64 a1, .int .i64 1]] ⟨⟨_, rfl, R_loadVarN Tryd.underlying147 rfl B103.el (M104.agree 0 rfl) sz147 rfl⟩, trivial⟩ ?_
              exact ⟨rfl, M106⟩
            · replace H73 := ifN (by rw [c100]; simp) H73
              refine WC_skip ?_
              refine thenN ?_
              refine WC_seq ?_
              refine WC_region ?_
              refine WL_of (L_move rfl rfl (.int .i64 x68) rfl ?_)
              refine WL_of (L_move rfl rfl (.int .i64 a1) rfl ?_)
              refine WL_of (L_move rfl rfl (.int .i64 x14) rfl ?_)
              refine WL_of (L_build' rfl rfl [(0, .int .i64 x68), (1, .int .i64 a1), (2, .int .i64 x14)] rfl Tryd.underlying147 zr147 pl147 [.int .i64 x68, .int .i64 a1, .int .i64 x14] rfl ?_)
              have M107 : Mem W97 [(one g1, W2), (one g7, W11), (Fr, w)] := M98.front [(one g7, W11)] rfl
              refine WL_of (L_store M107 rfl (.agg #[.int .i64 x68, .int .i64 a1, .int .i64 x14]) rfl [.int .i64 x68, .int .i64 a1, .int .i64 x14] rfl 3 sz147 rfl rfl rfl B3 rfl rfl [.int .i64 x68, .int .i64 a1, .int .i64 x14] rfl ?_)
              intro W108 B109 M110
              refine WL_nil ?_
              refine thenN ?_
              refine WC_ret ?_
              obtain rfl := someE H73
              have M111 : Mem W108 [(Fr, w), (one g1, W108), (one g7, W11)] := M110.front [(one g1, W108), (one g7, W11)] rfl
              have M112 : Mem W108 [(Fr, w)] := M111.sub (List.prefix_append [(Fr, w)] [(one g1, W108), (one g7, W11)]).sublist
              refine retR [.agg #[.int .i64 x68, .int .i64 a1, .int .i64 x14]] ⟨⟨_, rfl, R_loadVarN Tryd.underlying147 rfl B109.el (M110.agree 0 rfl) sz147 rfl⟩, trivial⟩ ?_
              exact ⟨rfl, M112⟩

/-! ### annals/annalsref2.Pieces: function 81 -/
def annalsref2_Pieces.l0 : Nat → Str → (List annalsref2_Piece) → Int → Option (List annalsref2_Piece)
  | 0, _, _, _ => none
  | k + 1, a0, x13, x18 => (if (x18 : Int) < (List.length a0 : Int) then (annalsref2_piece k a0 x18).bind (fun (r28 : annalsref2_Piece) => (if List.length x13 + List.length ([r28] : List annalsref2_Piece) ≤ 5864062014805 then (annalsref2_Pieces.l0 k a0 (x13 ++ ([r28] : List annalsref2_Piece)) (wrap64 (x18 + r28.N))) else none)) else (some x13))
def annalsref2_Pieces (k : Nat) (a0 : Str) : Option (List annalsref2_Piece) :=
  (annalsref2_Pieces.l0 k a0 ([] : List annalsref2_Piece) 0)
set_option maxRecDepth 100000 in
set_option maxHeartbeats 4000000 in
theorem annalsref2_Pieces_ok (k : Nat) (a0 : Str) (r : List annalsref2_Piece) (w : World) (Fr : BS) (hG : Gl Fr w) (hF : ∀ b, Fr b → b < w.heap.size)  (H : annalsref2_Pieces k a0 = some r) :
    CallsR Tryd.prog 81 #[.string (sv a0)] w (fun v w' => ∃ (A0 : Option Addr) (c0 : Nat) (S0 : BS), v = .slice A0 (List.length r) c0 ∧ Mem w' [(S0, w'), (Fr, w)] ∧ OR w' S0 w' none0 147 A0 c0 r) := by
  have M0 := Mem.start w Fr hF
  refine enterZ (args := [.string (sv a0)]) [.tmp 2] Tryd.func81 rfl rfl rfl rfl ?_
  unfold annalsref2_Pieces at H
  refine WC_seq ?_
  refine WC_region ?_
  refine WL_of (L_assign rfl rfl (.slice none 0 0) rfl ?_)
  refine WL_nil ?_
  refine thenN ?_
  refine WC_seq ?_
  refine WC_region ?_
  refine WL_of (L_assign rfl rfl (.slice none 0 0) rfl ?_)
  refine WL_nil ?_
  refine thenN ?_
  refine WC_seq ?_
  refine WC_region ?_
  refine WL_of (L_assign rfl rfl (.int .i64 0) rfl ?_)
  refine WL_nil ?_
  refine thenN ?_
  refine WC_seq ?_
  refine WC_block ?_
  refine WC_loop (fun k23 ρ w_ => ∃ (x13 : List annalsref2_Piece) (x18 : Int) (A14 : Option Addr) (c15 : Nat) (S16 : BS) (ρ0 : Nat → Value), ρ = updL ρ0 [(0, .string (sv a0)), (2, .slice none 0 0), (3, .slice A14 x13.length c15), (4, .int .i64 x18)] ∧ Mem w_ [(S16, w_), (Fr, w)] ∧ OR w_ S16 w_ none0 147 A14 c15 x13 ∧ k23 ≤ k ∧ annalsref2_Pieces.l0 k23 a0 x13 x18 = some r) k ?_ ?_
  · have M25 : Mem w [(none0, w), (Fr, w)] := M0.empty
    exact ⟨([] : List annalsref2_Piece), 0, none, 0, none0, _, updL_same _ _ ⟨rfl, rfl, rfl, rfl, trivial⟩, M25, OR.nil w none0 w none0 147, (Nat.le_refl _), H⟩
  · rintro k23 _ W19 ⟨x13, x18, A14, c15, S16, ρ21, rfl, M20, hr17, hk24, H22⟩
    cases k23 with
    | zero => rw [annalsref2_Pieces.l0] at H22; cases H22
    | succ k23 =>
    rw [annalsref2_Pieces.l0] at H22
    refine WC_seq ?_
    refine WC_seq ?_
    refine WC_region ?_
    refine WL_of (L_move rfl rfl (.int .i64 x18) rfl ?_)
    refine WL_of (L_move rfl rfl (.string (sv a0)) rfl ?_)
    refine WL_of (L_len rfl rfl (.string (sv a0)) rfl (List.length a0) (N_str Tryd.underlying9 a0) ?_)
    refine WL_of (L_bin rfl rfl (.int .i64 x18) (.int .i64 (List.length a0 : Int)) rfl rfl (.bool (decide ((x18 : Int) < (List.length a0 : Int)))) (B_lss _ _ _ _ x18 (List.length a0 : Int)) ?_)
    refine WL_nil ?_
    refine thenN ?_
    refine WC_if (p := (x18 : Int) < (List.length a0 : Int)) rfl (fun c26 => ?_) (fun c26 => ?_)
    · replace H22 := ifP c26 H22
      refine WC_skip ?_
      refine thenN ?_
      refine WC_block ?_
      refine WC_seq ?_
      refine WC_region ?_
      refine WL_of (L_move rfl rfl (.string (sv a0)) rfl ?_)
      refine WL_of (L_move rfl rfl (.int .i64 x18) rfl ?_)
      obtain ⟨r28, hr29, H22⟩ := bindS H22
      refine WL_of (L_call' rfl rfl cf93 [.string (sv a0), .int .i64 x18] rfl (annalsref2_piece_ok k23 a0 x18 r28 _ (Un [(S16, W19), (Fr, w)]) (hG.call M20 1 rfl) M20.frame  hr29) ?_)
      rintro _ W30 ⟨rfl, M31⟩
      have M32 : Mem W30 [(S16, W19), (Fr, w)] := M20.back (New := []) M31
      refine WL_of (L_alloc M32 rfl rfl zr147 [.int .i64 0, .int .i64 0, .int .i64 0] rfl ?_)
      intro g33 W34 B35 M36
      refine WL_of (L_store M36 rfl (.agg #[.int .i64 r28.R, .int .i64 r28.At, .int .i64 r28.N]) rfl [.int .i64 r28.R, .int .i64 r28.At, .int .i64 r28.N] rfl 3 sz147 rfl rfl rfl B35 rfl rfl [.int .i64 r28.R, .int .i64 r28.At, .int .i64 r28.N] rfl ?_)
      intro W37 B38 M39
      refine WL_nil ?_
      refine thenN ?_
      refine WC_seq ?_
      refine WC_region ?_
      refine WL_of (L_move rfl rfl (.slice A14 x13.length c15) rfl ?_)
      refine WL_of (L_loadN rfl rfl Tryd.underlying147 rfl B38.el (M39.agree 0 rfl) 0 rfl 3 sz147 [.int .i64 r28.R, .int .i64 r28.At, .int .i64 r28.N] rfl rfl ?_)
      refine WL_of (L_buildSlice' M39 rfl rfl [(0, .agg #[.int .i64 r28.R, .int .i64 r28.At, .int .i64 r28.N])] rfl Tryd.underlying144 sz147 zr147 rfl rfl [.int .i64 r28.R, .int .i64 r28.At, .int .i64 r28.N] (by kernel_rfl) ?_)
      intro g40 W41 B42 M43
      have M44 : Mem W41 [(S16, W19), (one g40, W41), (one g33, W37), (Fr, w)] := M43.front [(one g40, W41), (one g33, W37)] rfl
      by_cases c45 : List.length x13 + List.length ([r28] : List annalsref2_Piece) ≤ 5864062014805
      · replace H22 := ifP c45 H22
        refine WL_of (L_append (ys := ([r28] : List annalsref2_Piece)) (v := W19) (E := none0) M44 rfl rfl Tryd.underlying144 el147 rfl rfl hr17 (.inr ⟨⟨g40, 0, none⟩, rfl, Src.box (css := [[.int .i64 r28.R, .int .i64 r28.At, .int .i64 r28.N]]) (B42.now (M44.agree 1 rfl)) (⟨rfl, trivial⟩) rfl⟩) (by omega) (by decide) ?_)
        intro W46 S47 A48 c49 ho50 M51
        refine WL_of (L_assign rfl rfl (.slice A48 (x13 ++ ([r28] : List annalsref2_Piece)).length c49) rfl ?_)
        refine WL_nil ?_
        refine thenN ?_
        refine WC_region ?_
        refine WL_of (L_move rfl rfl (.int .i64 x18) rfl ?_)
        refine WL_of (L_field rfl rfl fd147_2 ⟨g33, 0, none⟩ rfl ?_)
        refine WL_of (L_load1 rfl rfl Tryd.underlying3 rfl B38.el (M51.agree 2 rfl) 2 rfl (.int .i64 r28.N) rfl ?_)
        refine WL_of (L_bin rfl rfl (.int .i64 x18) (.int .i64 r28.N) rfl rfl (.int .i64 (wrap64 (x18 + r28.N))) (B_add _ _ _ x18 r28.N) ?_)
        refine WL_of (L_assign rfl rfl (.int .i64 (wrap64 (x18 + r28.N))) rfl ?_)
        refine WL_nil ?_
        refine blkN ?_
        refine thenN ?_
        have M52 : Mem W46 [(Fr, w), (S47, W46), (one g40, W41), (one g33, W37)] := M51.front [(S47, W46), (one g40, W41), (one g33, W37)] rfl
        have M53 : Mem W46 [(S47, W46), (Fr, w), (one g40, W41), (one g33, W37)] := M52.front [(Fr, w)] rfl
        have M54 : Mem W46 [(S47, W46), (Fr, w)] := M53.sub (List.prefix_append [(S47, W46), (Fr, w)] [(one g40, W41), (one g33, W37)]).sublist
        exact ⟨k23, by omega, (x13 ++ ([r28] : List annalsref2_Piece)), wrap64 (x18 + r28.N), A48, c49, S47, _, updL_same _ _ ⟨rfl, rfl, rfl, rfl, trivial⟩, M54, ho50.map (fun _ _ h => h), (by omega), H22⟩
      · exact noneS (ifN c45 H22)
    · replace H22 := ifN c26 H22
      refine WC_exit ?_
      refine thenE ?_
      refine thenE ?_
      refine blkX ?_
      refine thenN ?_
      refine WC_seq ?_
      refine WC_region ?_
      refine WL_of (L_move rfl rfl (.slice A14 x13.length c15) rfl ?_)
      refine WL_of (L_assign rfl rfl (.slice A14 x13.length c15) rfl ?_)
      refine WL_nil ?_
      refine thenN ?_
      refine WC_ret ?_
      obtain rfl := someE H22
      refine retR [.slice A14 x13.length c15] ⟨rfl, trivial⟩ ?_
      exact ⟨A14, c15, S16, rfl, M20, (hr17.agree (M20.agree 0 rfl)).map (fun _ _ h => h)⟩

/-! ### annals/annalsref2.within: function 94 -/
def annalsref2_within (a0 : Int) (a1 : Int) (a2 : Int) : Option Bool :=
  ((if (a1 : Int) ≤ a0 then (some (decide ((a0 : Int) ≤ a2))) else (some false))).bind (fun (z1 : Bool) => (some z1))
set_option maxRecDepth 100000 in
set_option maxHeartbeats 4000000 in
theorem annalsref2_within_ok (a0 : Int) (a1 : Int) (a2 : Int) (r : Bool) (w : World) (Fr : BS) (hG : Gl Fr w) (hF : ∀ b, Fr b → b < w.heap.size)  (H : annalsref2_within a0 a1 a2 = some r) :
    CallsR Tryd.prog 94 #[.int .i64 a0, .int .i64 a1, .int .i64 a2] w (fun v w' => v = .bool r ∧ Mem w' [(Fr, w)]) := by
  have M0 := Mem.start w Fr hF
  refine enterZ (args := [.int .i64 a0, .int .i64 a1, .int .i64 a2]) [.tmp 6] Tryd.func94 rfl rfl rfl rfl ?_
  unfold annalsref2_within at H
  refine WC_seq ?_
  refine WC_region ?_
  refine WL_of (L_assign rfl rfl (.bool false) rfl ?_)
  refine WL_nil ?_
  refine thenN ?_
  obtain ⟨z1, hz2, H⟩ := bindS H
  refine WC_cut (fun ρ w_ => ∃  (ρ0 : Nat → Value), ρ = updL ρ0 [(6, .bool z1)] ∧ Mem w_ [(Fr, w)]) ?_ ?_
  · refine WC_region ?_
    refine WL_of (L_move rfl rfl (.int .i64 a1) rfl ?_)
    refine WL_of (L_move rfl rfl (.int .i64 a0) rfl ?_)
    refine WL_of (L_bin rfl rfl (.int .i64 a1) (.int .i64 a0) rfl rfl (.bool (decide ((a1 : Int) ≤ a0))) (B_leq _ _ _ _ a1 a0) ?_)
    refine WL_of (L_move rfl rfl (.bool (decide ((a1 : Int) ≤ a0))) rfl ?_)
    by_cases c3 : (a1 : Int) ≤ a0
    · replace hz2 := ifP c3 hz2
      refine WL_known 10 true (vtrue c3) ?_
      refine WL_of (L_move rfl rfl (.int .i64 a0) rfl ?_)
      refine WL_of (L_move rfl rfl (.int .i64 a2) rfl ?_)
      refine WL_of (L_bin rfl rfl (.int .i64 a0) (.int .i64 a2) rfl rfl (.bool (decide ((a0 : Int) ≤ a2))) (B_leq _ _ _ _ a0 a2) ?_)
      refine WL_of (L_pick rfl rfl true rfl (.bool (decide ((a0 : Int) ≤ a2))) rfl ?_)
      refine WL_of (L_assign rfl rfl (.bool (decide ((a0 : Int) ≤ a2))) rfl ?_)
      refine WL_nil ?_
      refine thenN ?_
      obtain rfl := someE hz2
      exact ⟨_, updL_same _ _ ⟨rfl, trivial⟩, M0⟩
    · replace hz2 := ifN c3 hz2
      refine WL_known 10 false (vfalse c3) ?_
      refine WL_of (WO_off rfl rfl ?_)
      refine WL_of (WO_off rfl rfl ?_)
      refine WL_of (WO_off rfl rfl ?_)
      refine WL_of (L_pick rfl rfl false rfl (.bool false) rfl ?_)
      refine WL_of (L_assign rfl rfl (.bool false) rfl ?_)
      refine WL_nil ?_
      refine thenN ?_
      obtain rfl := someE hz2
      exact ⟨_, updL_same _ _ ⟨rfl, trivial⟩, M0⟩
  · rintro _ W4 ⟨ρ6, rfl, M5⟩
    refine WC_ret ?_
    obtain rfl := someE H
    refine retR [.bool z1] ⟨rfl, trivial⟩ ?_
    exact ⟨rfl, M5⟩

/-! ### annals/annalsref2.Letter: function 82 -/
def annalsref2_Letter.l0 : Nat → Int → Bool → Int → Option Bool
  | 0, _, _, _ => none
  | k + 1, a0, x5, x6 => (if (x6 : Int) < 22 then (atL annalsref2_letters x6).bind (fun q15 => (atL annalsref2_letters x6).bind (fun q24 => (annalsref2_within a0 q15.i0_ q24.i1_).bind (fun (r34 : Bool) => (if r34 = true then (some true) else (annalsref2_Letter.l0 k a0 x5 (wrap64 (x6 + 1))))))) else (some false))
def annalsref2_Letter (k : Nat) (a0 : Int) : Option Bool :=
  (annalsref2_Letter.l0 k a0 false 0)
set_option maxRecDepth 100000 in
set_option maxHeartbeats 4000000 in
theorem annalsref2_Letter_ok (k : Nat) (a0 : Int) (r : Bool) (w : World) (Fr : BS) (hG : Gl Fr w) (hF : ∀ b, Fr b → b < w.heap.size)  (H : annalsref2_Letter k a0 = some r) :
    CallsR Tryd.prog 82 #[.int .i64 a0] w (fun v w' => v = .bool r ∧ Mem w' [(Fr, w)]) := by
  have M0 := Mem.start w Fr hF
  refine enterZ (args := [.int .i64 a0]) [.tmp 2] Tryd.func82 rfl rfl rfl rfl ?_
  unfold annalsref2_Letter at H
  refine WC_seq ?_
  refine WC_region ?_
  refine WL_of (L_assign rfl rfl (.bool false) rfl ?_)
  refine WL_nil ?_
  refine thenN ?_
  refine WC_seq ?_
  refine WC_seq ?_
  refine WC_region ?_
  refine WL_of (L_assign rfl rfl (.int .i64 0) rfl ?_)
  refine WL_nil ?_
  refine thenN ?_
  refine WC_block ?_
  refine WC_loop (fun k11 ρ w_ => ∃ (x5 : Bool) (x6 : Int) (ρ0 : Nat → Value), ρ = updL ρ0 [(0, .int .i64 a0), (2, .bool x5), (3, .int .i64 x6)] ∧ Mem w_ [(Fr, w)] ∧ k11 ≤ k ∧ annalsref2_Letter.l0 k11 a0 x5 x6 = some r) k ?_ ?_
  · exact ⟨false, 0, _, updL_same _ _ ⟨rfl, rfl, rfl, trivial⟩, M0, (Nat.le_refl _), H⟩
  · rintro k11 _ W7 ⟨x5, x6, ρ9, rfl, M8, hk12, H10⟩
    cases k11 with
    | zero => rw [annalsref2_Letter.l0] at H10; cases H10
    | succ k11 =>
    rw [annalsref2_Letter.l0] at H10
    refine WC_seq ?_
    refine WC_seq ?_
    refine WC_region ?_
    refine WL_of (L_move rfl rfl (.int .i64 x6) rfl ?_)
    refine WL_of (L_bin rfl rfl (.int .i64 x6) (.int .i64 22) rfl rfl (.bool (decide ((x6 : Int) < 22))) (B_lss _ _ _ _ x6 22) ?_)
    refine WL_nil ?_
    refine thenN ?_
    refine WC_if (p := (x6 : Int) < 22) rfl (fun c13 => ?_) (fun c13 => ?_)
    · replace H10 := ifP c13 H10
      refine WC_skip ?_
      refine thenN ?_
      refine WC_seq ?_
      refine WC_block ?_
      refine WC_seq ?_
      refine WD_start (n := 10) (fun w_ => Mem w_ [(Fr, w)]) [] mixed rfl ?_
      have M14 := M8.drawn
      refine WD_take' 0 rfl (by kernel_rfl) (by kernel_rfl) (by kernel_rfl) (by kernel_rfl) (by kernel_rfl) rfl (fun _ _ _ h => h) rfl _ (M14.sub (.cons_cons _ .slnil)) rfl (fun w_ hS => L_move rfl rfl (.int .i64 a0) rfl  ⟨rfl, rfl⟩) ?_
      refine WD_take' 1 rfl (by kernel_rfl) (by kernel_rfl) (by kernel_rfl) (by kernel_rfl) (by kernel_rfl) rfl (fun _ _ _ h => h) rfl _ (M14.sub (.cons_cons _ .slnil)) rfl (fun w_ hS => L_move rfl rfl (.int .i64 x6) rfl  ⟨rfl, rfl⟩) ?_
      obtain ⟨q15, hq16, H10⟩ := bindS H10
      obtain ⟨ad17, cs18, hA19, E20, R21⟩ := hG.t_annalsref2_letters.at hq16
      cases hA19
      have hl22 := atL_spec hq16
      refine WD_take' 2 rfl (by kernel_rfl) (by kernel_rfl) (by kernel_rfl) (by kernel_rfl) (by kernel_rfl) rfl (fun _ _ _ h => h) rfl _ (M14.sub (.cons_cons _ .slnil)) rfl (fun w_ hS => L_indexArr rfl rfl Tryd.underlying160 sz159 rfl rfl hl22.1 hl22.2.1  ⟨rfl, rfl⟩) ?_
      obtain rfl := R21
      have E23 : El w Fr (Addr.add ⟨5, 0, none⟩ (Int.toNat x6 * 2)) [.int .i64 q15.i0_, .int .i64 q15.i1_] := E20
      refine WD_take' 3 rfl (by kernel_rfl) (by kernel_rfl) (by kernel_rfl) (by kernel_rfl) (by kernel_rfl) rfl (fun _ _ _ h => h) rfl _ (M14.sub (.cons_cons _ .slnil)) rfl (fun w_ hS => L_indexArr rfl rfl Tryd.underlying159 sz3 rfl rfl (by decide) (by decide)  ⟨rfl, rfl⟩) ?_
      refine WD_take' 4 rfl (by kernel_rfl) (by kernel_rfl) (by kernel_rfl) (by kernel_rfl) (by kernel_rfl) rfl (fun _ _ _ h => h) rfl _ (M14.sub (.cons_cons _ .slnil)) rfl (fun w_ hS => L_load1 rfl rfl Tryd.underlying3 rfl E23 (hS.agree 0 rfl) 0 rfl (.int .i64 q15.i0_) rfl  ⟨rfl, rfl⟩) ?_
      refine WD_take' 5 rfl (by kernel_rfl) (by kernel_rfl) (by kernel_rfl) (by kernel_rfl) (by kernel_rfl) rfl (fun _ _ _ h => h) rfl _ (M14.sub (.cons_cons _ .slnil)) rfl (fun w_ hS => L_move rfl rfl (.int .i64 x6) rfl  ⟨rfl, rfl⟩) ?_
      obtain ⟨q24, hq25, H10⟩ := bindS H10
      obtain ⟨ad26, cs27, hA28, E29, R30⟩ := hG.t_annalsref2_letters.at hq25
      cases hA28
      have hl31 := atL_spec hq25
      refine WD_take' 6 rfl (by kernel_rfl) (by kernel_rfl) (by kernel_rfl) (by kernel_rfl) (by kernel_rfl) rfl (fun _ _ _ h => h) rfl _ (M14.sub (.cons_cons _ .slnil)) rfl (fun w_ hS => L_indexArr rfl rfl Tryd.underlying160 sz159 rfl rfl hl31.1 hl31.2.1  ⟨rfl, rfl⟩) ?_
      obtain rfl := R30
      have E32 : El w Fr (Addr.add ⟨5, 0, none⟩ (Int.toNat x6 * 2)) [.int .i64 q24.i0_, .int .i64 q24.i1_] := E29
      refine WD_take' 7 rfl (by kernel_rfl) (by kernel_rfl) (by kernel_rfl) (by kernel_rfl) (by kernel_rfl) rfl (fun _ _ _ h => h) rfl _ (M14.sub (.cons_cons _ .slnil)) rfl (fun w_ hS => L_indexArr rfl rfl Tryd.underlying159 sz3 rfl rfl (by decide) (by decide)  ⟨rfl, rfl⟩) ?_
      refine WD_take' 8 rfl (by kernel_rfl) (by kernel_rfl) (by kernel_rfl) (by kernel_rfl) (by kernel_rfl) rfl (fun _ _ _ h => h) rfl _ (M14.sub (.cons_cons _ .slnil)) rfl (fun w_ hS => L_load1 rfl rfl Tryd.underlying3 rfl E32 (hS.agree 0 rfl) 1 rfl (.int .i64 q24.i1_) rfl  ⟨rfl, rfl⟩) ?_
      obtain ⟨r34, hr35, H10⟩ := bindS H10
      refine WD_one 9 rfl (by kernel_rfl) (L_call' rfl rfl cf94 [.int .i64 a0, .int .i64 q15.i0_, .int .i64 q24.i1_] rfl (annalsref2_within_ok a0 q15.i0_ q24.i1_ r34 _ (Un [(Fr, w)]) (hG.call M14 0 rfl) M14.frame  hr35) ?_)
      rintro _ W36 ⟨rfl, M37⟩
      have M38 : Mem W36 [(Fr, w)] := M14.back (New := []) M37
      refine ⟨fun _ => (M38.sub (.cons_cons _ .slnil)), ?_⟩
      refine WD_done (by kernel_rfl) ?_
      refine thenN ?_
      refine WC_ifb rfl (fun c39 => ?_) (fun c39 => ?_)
      · replace H10 := ifP c39 H10
        refine WC_seq ?_
        refine WC_region ?_
        refine WL_of (L_assign rfl rfl (.bool true) rfl ?_)
        refine WL_nil ?_
        refine thenN ?_
        refine WC_ret ?_
        refine blkR ?_
        refine thenR ?_
        refine thenR ?_
        refine blkR ?_
        refine thenR ?_
        obtain rfl := someE H10
        refine retR [.bool true] ⟨rfl, trivial⟩ ?_
        exact ⟨rfl, M38⟩
      · replace H10 := ifN (by rw [c39]; simp) H10
        refine WC_skip ?_
        refine blkN ?_
        refine thenN ?_
        refine WC_region ?_
        refine WL_of (L_move rfl rfl (.int .i64 x6) rfl ?_)
        refine WL_of (L_bin rfl rfl (.int .i64 x6) (.int .i64 1) rfl rfl (.int .i64 (wrap64 (x6 + 1))) (B_add _ _ _ x6 1) ?_)
        refine WL_of (L_assign rfl rfl (.int .i64 (wrap64 (x6 + 1))) rfl ?_)
        refine WL_nil ?_
        refine thenN ?_
        exact ⟨k11, by omega, x5, wrap64 (x6 + 1), _, updL_same _ _ ⟨rfl, rfl, rfl, trivial⟩, M38, (by omega), H10⟩
    · replace H10 := ifN c13 H10
      refine WC_exit ?_
      refine thenE ?_
      refine thenE ?_
      refine blkX ?_
      refine thenN ?_
      refine WC_seq ?_
      refine WC_region ?_
      refine WL_of (L_assign rfl rfl (.bool false) rfl ?_)
      refine WL_nil ?_
      refine thenN ?_
      refine WC_ret ?_
      obtain rfl := someE H10
      refine retR [.bool false] ⟨rfl, trivial⟩ ?_
      exact ⟨rfl, M8⟩

/-! ### annals/annalsref2.nameRune: function 83 -/
def annalsref2_nameRune (k : Nat) (a0 : Int) : Option Bool :=
  ((annalsref2_Letter k a0).bind (fun (r4 : Bool) => (if r4 = true then (some true) else (annalsref2_within a0 48 57).bind (fun (r11 : Bool) => (if r11 = true then (some true) else (if (a0 : Int) = 45 then (some true) else (if (a0 : Int) = 95 then (some true) else (some (decide ((a0 : Int) = 46)))))))))).bind (fun (z1 : Bool) => (some z1))
set_option maxRecDepth 100000 in
set_option maxHeartbeats 4000000 in
theorem annalsref2_nameRune_ok (k : Nat) (a0 : Int) (r : Bool) (w : World) (Fr : BS) (hG : Gl Fr w) (hF : ∀ b, Fr b → b < w.heap.size)  (H : annalsref2_nameRune k a0 = some r) :
    CallsR Tryd.prog 83 #[.int .i64 a0] w (fun v w' => v = .bool r ∧ Mem w' [(Fr, w)]) := by
  have M0 := Mem.start w Fr hF
  refine enterZ (args := [.int .i64 a0]) [.tmp 2] Tryd.func83 rfl rfl rfl rfl ?_
  unfold annalsref2_nameRune at H
  refine WC_seq ?_
  refine WC_region ?_
  refine WL_of (L_assign rfl rfl (.bool false) rfl ?_)
  refine WL_nil ?_
  refine thenN ?_
  obtain ⟨z1, hz2, H⟩ := bindS H
  refine WC_cut (fun ρ w_ => ∃  (ρ0 : Nat → Value), ρ = updL ρ0 [(2, .bool z1)] ∧ Mem w_ [(Fr, w)]) ?_ ?_
  · refine WC_region ?_
    refine WL_of (L_move rfl rfl (.int .i64 a0) rfl ?_)
    obtain ⟨r4, hr5, hz2⟩ := bindS hz2
    refine WL_of (L_call' rfl rfl cf82 [.int .i64 a0] rfl (annalsref2_Letter_ok k a0 r4 _ (Un [(Fr, w)]) (hG.call M0 0 rfl) M0.frame  hr5) ?_)
    rintro _ W6 ⟨rfl, M7⟩
    have M8 : Mem W6 [(Fr, w)] := M0.back (New := []) M7
    refine WL_of (L_move rfl rfl (.bool r4) rfl ?_)
    by_cases c9 : r4 = true
    · replace hz2 := ifP c9 hz2
      refine WL_known 5 true (wtrue c9) ?_
      refine WL_of (WO_off rfl rfl ?_)
      refine WL_of (WO_off rfl rfl ?_)
      refine WL_of (L_pick rfl rfl true rfl (.bool true) rfl ?_)
      refine WL_of (L_move rfl rfl (.bool true) rfl ?_)
      refine WL_of (WO_off rfl rfl ?_)
      refine WL_of (WO_off rfl rfl ?_)
      refine WL_of (L_pick rfl rfl true rfl (.bool true) rfl ?_)
      refine WL_of (L_move rfl rfl (.bool true) rfl ?_)
      refine WL_of (WO_off rfl rfl ?_)
      refine WL_of (WO_off rfl rfl ?_)
      refine WL_of (L_pick rfl rfl true rfl (.bool true) rfl ?_)
      refine WL_of (L_move rfl rfl (.bool true) rfl ?_)
      refine WL_of (WO_off rfl rfl ?_)
      refine WL_of (WO_off rfl rfl ?_)
      refine WL_of (L_pick rfl rfl true rfl (.bool true) rfl ?_)
      refine WL_of (L_assign rfl rfl (.bool true) rfl ?_)
      refine WL_nil ?_
      refine thenN ?_
      obtain rfl := someE hz2
      exact ⟨_, updL_same _ _ ⟨rfl, trivial⟩, M8⟩
    · replace hz2 := ifN c9 hz2
      refine WL_known 5 false (wfalse c9) ?_
      refine WL_of (L_move rfl rfl (.int .i64 a0) rfl ?_)
      obtain ⟨r11, hr12, hz2⟩ := bindS hz2
      refine WL_of (L_call' rfl rfl cf94 [.int .i64 a0, .int .i64 48, .int .i64 57] rfl (annalsref2_within_ok a0 48 57 r11 _ (Un [(Fr, w)]) (hG.call M8 0 rfl) M8.frame  hr12) ?_)
      rintro _ W13 ⟨rfl, M14⟩
      have M15 : Mem W13 [(Fr, w)] := M8.back (New := []) M14
      refine WL_of (L_pick rfl rfl false rfl (.bool r11) rfl ?_)
      refine WL_of (L_move rfl rfl (.bool r11) rfl ?_)
      by_cases c16 : r11 = true
      · replace hz2 := ifP c16 hz2
        refine WL_known 9 true (wtrue c16) ?_
        refine WL_of (WO_off rfl rfl ?_)
        refine WL_of (WO_off rfl rfl ?_)
        refine WL_of (L_pick rfl rfl true rfl (.bool true) rfl ?_)
        refine WL_of (L_move rfl rfl (.bool true) rfl ?_)
        refine WL_of (WO_off rfl rfl ?_)
        refine WL_of (WO_off rfl rfl ?_)
        refine WL_of (L_pick rfl rfl true rfl (.bool true) rfl ?_)
        refine WL_of (L_move rfl rfl (.bool true) rfl ?_)
        refine WL_of (WO_off rfl rfl ?_)
        refine WL_of (WO_off rfl rfl ?_)
        refine WL_of (L_pick rfl rfl true rfl (.bool true) rfl ?_)
        refine WL_of (L_assign rfl rfl (.bool true) rfl ?_)
        refine WL_nil ?_
        refine thenN ?_
        obtain rfl := someE hz2
        exact ⟨_, updL_same _ _ ⟨rfl, trivial⟩, M15⟩
      · replace hz2 := ifN c16 hz2
        refine WL_known 9 false (wfalse c16) ?_
        refine WL_of (L_move rfl rfl (.int .i64 a0) rfl ?_)
        refine WL_of (L_bin rfl rfl (.int .i64 a0) (.int .i64 45) rfl rfl (.bool (decide ((a0 : Int) = 45))) (B_eql _ _ _ _ a0 45) ?_)
        refine WL_of (L_pick rfl rfl false rfl (.bool (decide ((a0 : Int) = 45))) rfl ?_)
        refine WL_of (L_move rfl rfl (.bool (decide ((a0 : Int) = 45))) rfl ?_)
        by_cases c17 : (a0 : Int) = 45
        · replace hz2 := ifP c17 hz2
          refine WL_known 13 true (vtrue c17) ?_
          refine WL_of (WO_off rfl rfl ?_)
          refine WL_of (WO_off rfl rfl ?_)
          refine WL_of (L_pick rfl rfl true rfl (.bool true) rfl ?_)
          refine WL_of (L_move rfl rfl (.bool true) rfl ?_)
          refine WL_of (WO_off rfl rfl ?_)
          refine WL_of (WO_off rfl rfl ?_)
          refine WL_of (L_pick rfl rfl true rfl (.bool true) rfl ?_)
          refine WL_of (L_assign rfl rfl (.bool true) rfl ?_)
          refine WL_nil ?_
          refine thenN ?_
          obtain rfl := someE hz2
          exact ⟨_, updL_same _ _ ⟨rfl, trivial⟩, M15⟩
        · replace hz2 := ifN c17 hz2
          refine WL_known 13 false (vfalse c17) ?_
          refine WL_of (L_move rfl rfl (.int .i64 a0) rfl ?_)
          refine WL_of (L_bin rfl rfl (.int .i64 a0) (.int .i64 95) rfl rfl (.bool (decide ((a0 : Int) = 95))) (B_eql _ _ _ _ a0 95) ?_)
          refine WL_of (L_pick rfl rfl false rfl (.bool (decide ((a0 : Int) = 95))) rfl ?_)
          refine WL_of (L_move rfl rfl (.bool (decide ((a0 : Int) = 95))) rfl ?_)
          by_cases c18 : (a0 : Int) = 95
          · replace hz2 := ifP c18 hz2
            refine WL_known 17 true (vtrue c18) ?_
            refine WL_of (WO_off rfl rfl ?_)
            refine WL_of (WO_off rfl rfl ?_)
            refine WL_of (L_pick rfl rfl true rfl (.bool true) rfl ?_)
            refine WL_of (L_assign rfl rfl (.bool true) rfl ?_)
            refine WL_nil ?_
            refine thenN ?_
            obtain rfl := someE hz2
            exact ⟨_, updL_same _ _ ⟨rfl, trivial⟩, M15⟩
          · replace hz2 := ifN c18 hz2
            refine WL_known 17 false (vfalse c18) ?_
            refine WL_of (L_move rfl rfl (.int .i64 a0) rfl ?_)
            refine WL_of (L_bin rfl rfl (.int .i64 a0) (.int .i64 46) rfl rfl (.bool (decide ((a0 : Int) = 46))) (B_eql _ _ _ _ a0 46) ?_)
            refine WL_of (L_pick rfl rfl false rfl (.bool (decide ((a0 : Int) = 46))) rfl ?_)
            refine WL_of (L_assign rfl rfl (.bool (decide ((a0 : Int) = 46))) rfl ?_)
            refine WL_nil ?_
            refine thenN ?_
            obtain rfl := someE hz2
            exact ⟨_, updL_same _ _ ⟨rfl, trivial⟩, M15⟩
  · rintro _ W19 ⟨ρ21, rfl, M20⟩
    refine WC_ret ?_
    obtain rfl := someE H
    refine retR [.bool z1] ⟨rfl, trivial⟩ ?_
    exact ⟨rfl, M20⟩

/-! ### annals/annalsref2.Name: function 67 -/
def annalsref2_Name.l0 : Nat → (List annalsref2_Piece) → Int → Int → Int → Option (Int × Int)
  | 0, _, _, _, _ => none
  | k + 1, r2, x20, x21, x22 => (if (x22 : Int) < (r2.length : Int) then (atL r2 x22).bind (fun q31 => (if (48 : Int) ≤ x22 then (some (23, q31.At)) else (if (q31.R : Int) < 0 then (some (21, q31.At)) else ((if (x22 : Int) = 0 then (annalsref2_Letter k q31.R).bind (fun (r59 : Bool) => (if (!r59) = true then (some true) else (annalsref2_nameRune k q31.R).bind (fun (r66 : Bool) => (some (!r66))))) else (annalsref2_nameRune k q31.R).bind (fun (r72 : Bool) => (some (!r72))))).bind (fun (z55 : Bool) => (if z55 = true then (some (22, q31.At)) else (annalsref2_Name.l0 k r2 x20 x21 (wrap64 (x22 + 1)))))))) else (some (0, 0)))
def annalsref2_Name (k : Nat) (a0 : Str) : Option (Int × Int) :=
  (annalsref2_Pieces k a0).bind (fun (r2 : List annalsref2_Piece) => (if ((r2.length : Int) : Int) = 0 then (some (20, 0)) else (annalsref2_Name.l0 k r2 0 0 0)))
set_option maxRecDepth 100000 in
set_option maxHeartbeats 4000000 in
theorem annalsref2_Name_ok (k : Nat) (a0 : Str) (r : Int × Int) (w : World) (Fr : BS) (hG : Gl Fr w) (hF : ∀ b, Fr b → b < w.heap.size)  (H : annalsref2_Name k a0 = some r) :
    CallsR Tryd.prog 67 #[.string (sv a0)] w (fun v w' => v = .tuple #[.int .i64 r.1, .int .i64 r.2] ∧ Mem w' [(Fr, w)]) := by
  have M0 := Mem.start w Fr hF
  refine enterZ (args := [.string (sv a0)]) [.tmp 2, .tmp 3] Tryd.func67 rfl rfl rfl rfl ?_
  unfold annalsref2_Name at H
  refine WC_seq ?_
  refine WC_region ?_
  refine WL_of (L_assign rfl rfl (.int .i64 0) rfl ?_)
  refine WL_of (L_assign rfl rfl (.int .i64 0) rfl ?_)
  refine WL_nil ?_
  refine thenN ?_
  refine WC_seq ?_
  refine WC_region ?_
  refine WL_of (L_move rfl rfl (.string (sv a0)) rfl ?_)
  obtain ⟨r2, hr3, H⟩ := bindS H
  refine WL_of (L_call' rfl rfl cf81 [.string (sv a0)] rfl (annalsref2_Pieces_ok k a0 r2 _ (Un [(Fr, w)]) (hG.call M0 0 rfl) M0.frame  hr3) ?_)
  rintro _ W4 ⟨A6, c7, S8, rfl, M5, ho9⟩
  have M10 : Mem W4 [(S8, W4), (Fr, w)] := M0.back (New := [(S8, W4)]) M5
  refine WL_of (L_assign rfl rfl (.slice A6 r2.length c7) rfl ?_)
  refine WL_nil ?_
  refine thenN ?_
  refine WC_seq ?_
  refine WC_seq ?_
  refine WC_region ?_
  refine WL_of (L_move rfl rfl (.slice A6 r2.length c7) rfl ?_)
  refine WL_of (L_len rfl rfl (.slice A6 r2.length c7) rfl (r2.length) (N_slice Tryd.underlying144 _ _ _) ?_)
  refine WL_of (L_bin rfl rfl (.int .i64 (r2.length : Int)) (.int .i64 0) rfl rfl (.bool (decide (((r2.length : Int) : Int) = 0))) (B_eql _ _ _ _ (r2.length : Int) 0) ?_)
  refine WL_nil ?_
  refine thenN ?_
  refine WC_if (p := ((r2.length : Int) : Int) = 0) rfl (fun c11 => ?_) (fun c11 => ?_)
  · replace H := ifP c11 H
    refine WC_seq ?_
    refine WC_region ?_
    refine WL_of (L_assign rfl rfl (.int .i64 20) rfl ?_)
    refine WL_of (L_assign rfl rfl (.int .i64 0) rfl ?_)
    refine WL_nil ?_
    refine thenN ?_
    refine WC_ret ?_
    refine thenR ?_
    obtain rfl := someE H
    have M12 : Mem W4 [(Fr, w), (S8, W4)] := M10.front [(S8, W4)] rfl
    have M13 : Mem W4 [(Fr, w)] := M12.sub (List.prefix_append [(Fr, w)] [(S8, W4)]).sublist
    refine retR [.int .i64 20, .int .i64 0] ⟨rfl, rfl, trivial⟩ ?_
    exact ⟨rfl, M13⟩
  · replace H := ifN c11 H
    refine WC_skip ?_
    refine thenN ?_
    refine WC_seq ?_
    refine WC_seq ?_
    refine WC_region ?_
    refine WL_of (L_assign rfl rfl (.int .i64 0) rfl ?_)
    refine WL_nil ?_
    refine thenN ?_
    refine WC_block ?_
    refine WC_loop (fun k27 ρ w_ => ∃ (x20 : Int) (x21 : Int) (x22 : Int) (ρ0 : Nat → Value), ρ = updL ρ0 [(2, .int .i64 x20), (3, .int .i64 x21), (4, .slice A6 r2.length c7), (5, .int .i64 x22)] ∧ Mem w_ [(S8, W4), (Fr, w)] ∧ k27 ≤ k ∧ annalsref2_Name.l0 k27 r2 x20 x21 x22 = some r) k ?_ ?_
    · exact ⟨0, 0, 0, _, updL_same _ _ ⟨rfl, rfl, rfl, rfl, trivial⟩, M10, (Nat.le_refl _), H⟩
    · rintro k27 _ W23 ⟨x20, x21, x22, ρ25, rfl, M24, hk28, H26⟩
      cases k27 with
      | zero => rw [annalsref2_Name.l0] at H26; cases H26
      | succ k27 =>
      rw [annalsref2_Name.l0] at H26
      refine WC_seq ?_
      refine WC_seq ?_
      refine WC_region ?_
      refine WL_of (L_move rfl rfl (.int .i64 x22) rfl ?_)
      refine WL_of (L_move rfl rfl (.slice A6 r2.length c7) rfl ?_)
      refine WL_of (L_len rfl rfl (.slice A6 r2.length c7) rfl (r2.length) (N_slice Tryd.underlying144 _ _ _) ?_)
      refine WL_of (L_bin rfl rfl (.int .i64 x22) (.int .i64 (r2.length : Int)) rfl rfl (.bool (decide ((x22 : Int) < (r2.length : Int)))) (B_lss _ _ _ _ x22 (r2.length : Int)) ?_)
      refine WL_nil ?_
      refine thenN ?_
      refine WC_if (p := (x22 : Int) < (r2.length : Int)) rfl (fun c29 => ?_) (fun c29 => ?_)
      · replace H26 := ifP c29 H26
        refine WC_skip ?_
        refine thenN ?_
        refine WC_seq ?_
        refine WC_block ?_
        refine WC_seq ?_
        refine WC_region ?_
        refine WL_of (L_move rfl rfl (.slice A6 r2.length c7) rfl ?_)
        refine WL_of (L_move rfl rfl (.int .i64 x22) rfl ?_)
        have hs30 := ho9.sr
        obtain ⟨q31, hq32, H26⟩ := bindS H26
        obtain ⟨ad33, cs34, hA35, E36, R37⟩ := hs30.at hq32
        have hl38 := atL_spec hq32
        refine WL_of (L_index rfl rfl Tryd.underlying144 sz147 rfl rfl hA35 hl38.1 hl38.2.1 ?_)
        obtain rfl := R37
        have E39 : El W4 S8 (Addr.add ad33 (Int.toNat x22 * 3)) [.int .i64 q31.R, .int .i64 q31.At, .int .i64 q31.N] := E36
        refine WL_of (L_loadN rfl rfl Tryd.underlying147 rfl E39 (M24.agree 0 rfl) 0 rfl 3 sz147 [.int .i64 q31.R, .int .i64 q31.At, .int .i64 q31.N] rfl rfl ?_)
        refine WL_of (L_alloc M24 rfl rfl zr147 [.int .i64 0, .int .i64 0, .int .i64 0] rfl ?_)
        intro g40 W41 B42 M43
        refine WL_of (L_store M43 rfl (.agg #[.int .i64 q31.R, .int .i64 q31.At, .int .i64 q31.N]) rfl [.int .i64 q31.R, .int .i64 q31.At, .int .i64 q31.N] rfl 3 sz147 rfl rfl rfl B42 rfl rfl [.int .i64 q31.R, .int .i64 q31.At, .int .i64 q31.N] rfl ?_)
        intro W44 B45 M46
        refine WL_nil ?_
        refine thenN ?_
        refine WC_block ?_
        refine WC_seq ?_
        refine WC_region ?_
        refine WL_of (L_move rfl rfl (.int .i64 x22) rfl ?_)
        refine WL_of (L_bin rfl rfl (.int .i64 x22) (.int .i64 48) rfl rfl (.bool (decide ((48 : Int) ≤ x22))) (B_geq _ _ _ _ x22 48) ?_)
        refine WL_of (L_assign rfl rfl (.bool (decide ((48 : Int) ≤ x22))) rfl ?_)
        refine WL_nil ?_
        refine thenN ?_
        refine WC_if (p := (48 : Int) ≤ x22) rfl (fun c47 => ?_) (fun c47 => ?_)
        · replace H26 := ifP c47 H26
          refine WC_seq ?_
          refine WD_start (n := 4) (fun w_ => Mem w_ [(one g40, W44), (S8, W4), (Fr, w)]) [] mixed rfl ?_
          have M48 := M46.drawn
          refine WD_take' 0 rfl (by kernel_rfl) (by kernel_rfl) (by kernel_rfl) (by kernel_rfl) (by kernel_rfl) rfl (fun _ _ _ h => h) rfl _ (M48.sub (.cons_cons _ (.cons_cons _ (.cons_cons _ .slnil)))) rfl (fun w_ hS => L_field rfl rfl fd147_1 ⟨g40, 0, none⟩ rfl  ⟨rfl, rfl⟩) ?_
          refine WD_take' 1 rfl (by kernel_rfl) (by kernel_rfl) (by kernel_rfl) (by kernel_rfl) (by kernel_rfl) rfl (fun _ _ _ h => h) rfl _ (M48.sub (.cons_cons _ (.cons_cons _ (.cons_cons _ .slnil)))) rfl (fun w_ hS => L_load1 rfl rfl Tryd.underlying3 rfl B45.el (hS.agree 0 rfl) 1 rfl (.int .i64 q31.At) rfl  ⟨rfl, rfl⟩) ?_
          refine WD_take' 2 rfl (by kernel_rfl) (by kernel_rfl) (by kernel_rfl) (by kernel_rfl) (by kernel_rfl) rfl (fun _ _ _ h => h) rfl _ (M48.sub (.cons_cons _ (.cons_cons _ (.cons_cons _ .slnil)))) rfl (fun w_ hS => L_assign rfl rfl (.int .i64 23) rfl  ⟨rfl, rfl⟩) ?_
          refine WD_take' 3 rfl (by kernel_rfl) (by kernel_rfl) (by kernel_rfl) (by kernel_rfl) (by kernel_rfl) rfl (fun _ _ _ h => h) rfl _ (M48.sub (.cons_cons _ (.cons_cons _ (.cons_cons _ .slnil)))) rfl (fun w_ hS => L_assign rfl rfl (.int .i64 q31.At) rfl  ⟨rfl, rfl⟩) ?_
          refine WD_done (by kernel_rfl) ?_
          refine thenN ?_
          refine WC_ret ?_
          refine blkR ?_
          refine blkR ?_
          refine thenR ?_
          refine thenR ?_
          refine blkR ?_
          refine thenR ?_
          obtain rfl := someE H26
          have M49 : Mem (drawnZ W44) [(Fr, w), (one g40, W44), (S8, W4)] := M48.front [(one g40, W44), (S8, W4)] rfl
          have M50 : Mem (drawnZ W44) [(Fr, w)] := M49.sub (List.prefix_append [(Fr, w)] [(one g40, W44), (S8, W4)]).sublist
          refine retR [.int .i64 23, .int .i64 q31.At] ⟨rfl, rfl, trivial⟩ ?_
          exact ⟨rfl, M50⟩
        · replace H26 := ifN c47 H26
          refine WC_seq ?_
          refine WC_region ?_
          refine WL_of (L_field rfl rfl fd147_0 ⟨g40, 0, none⟩ rfl ?_)
          refine WL_of (L_load1 rfl rfl Tryd.underlying3 rfl B45.el (M46.agree 0 rfl) 0 rfl (.int .i64 q31.R) rfl ?_)
          refine WL_of (L_bin rfl rfl (.int .i64 q31.R) (.int .i64 0) rfl rfl (.bool (decide ((q31.R : Int) < 0))) (B_lss _ _ _ _ q31.R 0) ?_)
          refine WL_of (L_assign rfl rfl (.bool (decide ((q31.R : Int) < 0))) rfl ?_)
          refine WL_nil ?_
          refine thenN ?_
          refine WC_if (p := (q31.R : Int) < 0) rfl (fun c51 => ?_) (fun c51 => ?_)
          · replace H26 := ifP c51 H26
            refine WC_seq ?_
            refine WD_start (n := 4) (fun w_ => Mem w_ [(one g40, W44), (S8, W4), (Fr, w)]) [] mixed rfl ?_
            have M52 := M46.drawn
            refine WD_take' 0 rfl (by kernel_rfl) (by kernel_rfl) (by kernel_rfl) (by kernel_rfl) (by kernel_rfl) rfl (fun _ _ _ h => h) rfl _ (M52.sub (.cons_cons _ (.cons_cons _ (.cons_cons _ .slnil)))) rfl (fun w_ hS => L_field rfl rfl fd147_1 ⟨g40, 0, none⟩ rfl  ⟨rfl, rfl⟩) ?_
            refine WD_take' 1 rfl (by kernel_rfl) (by kernel_rfl) (by kernel_rfl) (by kernel_rfl) (by kernel_rfl) rfl (fun _ _ _ h => h) rfl _ (M52.sub (.cons_cons _ (.cons_cons _ (.cons_cons _ .slnil)))) rfl (fun w_ hS => L_load1 rfl rfl Tryd.underlying3 rfl B45.el (hS.agree 0 rfl) 1 rfl (.int .i64 q31.At) rfl  ⟨rfl, rfl⟩) ?_
            refine WD_take' 2 rfl (by kernel_rfl) (by kernel_rfl) (by kernel_rfl) (by kernel_rfl) (by kernel_rfl) rfl (fun _ _ _ h => h) rfl _ (M52.sub (.cons_cons _ (.cons_cons _ (.cons_cons _ .slnil)))) rfl (fun w_ hS => L_assign rfl rfl (.int .i64 21) rfl  ⟨rfl, rfl⟩) ?_
            refine WD_take' 3 rfl (by kernel_rfl) (by kernel_rfl) (by kernel_rfl) (by kernel_rfl) (by kernel_rfl) rfl (fun _ _ _ h => h) rfl _ (M52.sub (.cons_cons _ (.cons_cons _ (.cons_cons _ .slnil)))) rfl (fun w_ hS => L_assign rfl rfl (.int .i64 q31.At) rfl  ⟨rfl, rfl⟩) ?_
            refine WD_done (by kernel_rfl) ?_
            refine thenN ?_
            refine WC_ret ?_
            refine blkR ?_
            refine blkR ?_
            refine thenR ?_
            refine thenR ?_
            refine blkR ?_
            refine thenR ?_
            obtain rfl := someE H26
            have M53 : Mem (drawnZ W44) [(Fr, w), (one g40, W44), (S8, W4)] := M52.front [(one g40, W44), (S8, W4)] rfl
            have M54 : Mem (drawnZ W44) [(Fr, w)] := M53.sub (List.prefix_append [(Fr, w)] [(one g40, W44), (S8, W4)]).sublist
            refine retR [.int .i64 21, .int .i64 q31.At] ⟨rfl, rfl, trivial⟩ ?_
            exact ⟨rfl, M54⟩
          · replace H26 := ifN c51 H26
            obtain ⟨z55, hz56, H26⟩ := bindS H26
            refine WC_cut (fun ρ w_ => ∃  (ρ0 : Nat → Value), ρ = updL ρ0 [(2, .int .i64 x20), (3, .int .i64 x21), (4, .slice A6 r2.length c7), (5, .int .i64 x22), (6, .pointer (some ⟨g40, 0, none⟩)), (33, .bool z55)] ∧ Mem w_ [(one g40, W44), (S8, W4), (Fr, w)]) ?_ ?_
            · refine WC_region ?_
              refine WL_of (L_move rfl rfl (.int .i64 x22) rfl ?_)
              refine WL_of (L_bin rfl rfl (.int .i64 x22) (.int .i64 0) rfl rfl (.bool (decide ((x22 : Int) = 0))) (B_eql _ _ _ _ x22 0) ?_)
              refine WL_of (L_move rfl rfl (.bool (decide ((x22 : Int) = 0))) rfl ?_)
              by_cases c57 : (x22 : Int) = 0
              · replace hz56 := ifP c57 hz56
                refine WL_known 36 true (vtrue c57) ?_
                refine WL_of (L_field rfl rfl fd147_0 ⟨g40, 0, none⟩ rfl ?_)
                refine WL_of (L_load1 rfl rfl Tryd.underlying3 rfl B45.el (M46.agree 0 rfl) 0 rfl (.int .i64 q31.R) rfl ?_)
                obtain ⟨r59, hr60, hz56⟩ := bindS hz56
                refine WL_of (L_call' rfl rfl cf82 [.int .i64 q31.R] rfl (annalsref2_Letter_ok k27 q31.R r59 _ (Un [(one g40, W44), (S8, W4), (Fr, w)]) (hG.call M46 2 rfl) M46.frame  hr60) ?_)
                rintro _ W61 ⟨rfl, M62⟩
                have M63 : Mem W61 [(one g40, W44), (S8, W4), (Fr, w)] := M46.back (New := []) M62
                refine WL_of (L_not rfl rfl r59 rfl ?_)
                refine WL_of (L_pick rfl rfl true rfl (.bool (!r59)) rfl ?_)
                refine WL_of (L_move rfl rfl (.bool (!r59)) rfl ?_)
                by_cases c64 : (!r59) = true
                · replace hz56 := ifP c64 hz56
                  refine WL_known 42 true (wtrue c64) ?_
                  refine WL_of (WO_off rfl rfl ?_)
                  refine WL_of (WO_off rfl rfl ?_)
                  refine WL_of (WO_off rfl rfl ?_)
                  refine WL_of (WO_off rfl rfl ?_)
                  refine WL_of (L_pick rfl rfl true rfl (.bool true) rfl ?_)
                  refine WL_of (L_assign rfl rfl (.bool true) rfl ?_)
                  refine WL_nil ?_
                  refine thenN ?_
                  obtain rfl := someE hz56
                  exact ⟨_, updL_same _ _ ⟨rfl, rfl, rfl, rfl, rfl, rfl, trivial⟩, M63⟩
                · replace hz56 := ifN c64 hz56
                  refine WL_known 42 false (wfalse c64) ?_
                  refine WL_of (L_field rfl rfl fd147_0 ⟨g40, 0, none⟩ rfl ?_)
                  refine WL_of (L_load1 rfl rfl Tryd.underlying3 rfl B45.el (M63.agree 0 rfl) 0 rfl (.int .i64 q31.R) rfl ?_)
                  obtain ⟨r66, hr67, hz56⟩ := bindS hz56
                  refine WL_of (L_call' rfl rfl cf83 [.int .i64 q31.R] rfl (annalsref2_nameRune_ok k27 q31.R r66 _ (Un [(one g40, W44), (S8, W4), (Fr, w)]) (hG.call M63 2 rfl) M63.frame  hr67) ?_)
                  rintro _ W68 ⟨rfl, M69⟩
                  have M70 : Mem W68 [(one g40, W44), (S8, W4), (Fr, w)] := M63.back (New := []) M69
                  refine WL_of (L_not rfl rfl r66 rfl ?_)
                  refine WL_of (L_pick rfl rfl false rfl (.bool (!r66)) rfl ?_)
                  refine WL_of (L_assign rfl rfl (.bool (!r66)) rfl ?_)
                  refine WL_nil ?_
                  refine thenN ?_
                  obtain rfl := someE hz56
                  exact ⟨_, updL_same _ _ ⟨rfl, rfl, rfl, rfl, rfl, rfl, trivial⟩, M70⟩
              · replace hz56 := ifN c57 hz56
                refine WL_known 36 false (vfalse c57) ?_
                refine WL_of (WO_off rfl rfl ?_)
                refine WL_of (WO_off rfl rfl ?_)
                refine WL_of (WO_off rfl rfl ?_)
                refine WL_of (WO_off rfl rfl ?_)
                refine WL_of (L_pick rfl rfl false rfl (.bool false) rfl ?_)
                refine WL_of (L_move rfl rfl (.bool false) rfl ?_)
                refine WL_of (L_field rfl rfl fd147_0 ⟨g40, 0, none⟩ rfl ?_)
                refine WL_of (L_load1 rfl rfl Tryd.underlying3 rfl B45.el (M46.agree 0 rfl) 0 rfl (.int .i64 q31.R) rfl ?_)
                obtain ⟨r72, hr73, hz56⟩ := bindS hz56
                refine WL_of (L_call' rfl rfl cf83 [.int .i64 q31.R] rfl (annalsref2_nameRune_ok k27 q31.R r72 _ (Un [(one g40, W44), (S8, W4), (Fr, w)]) (hG.call M46 2 rfl) M46.frame  hr73) ?_)
                rintro _ W74 ⟨rfl, M75⟩
                have M76 : Mem W74 [(one g40, W44), (S8, W4), (Fr, w)] := M46.back (New := []) M75
                refine WL_of (L_not rfl rfl r72 rfl ?_)
                refine WL_of (L_pick rfl rfl false rfl (.bool (!r72)) rfl ?_)
                refine WL_of (L_assign rfl rfl (.bool (!r72)) rfl ?_)
                refine WL_nil ?_
                refine thenN ?_
                obtain rfl := someE hz56
                exact ⟨_, updL_same _ _ ⟨rfl, rfl, rfl, rfl, rfl, rfl, trivial⟩, M76⟩
            · rintro _ W77 ⟨ρ79, rfl, M78⟩
              refine WC_ifb rfl (fun c80 => ?_) (fun c80 => ?_)
              · replace H26 := ifP c80 H26
                refine WC_seq ?_
                refine WD_start (n := 4) (fun w_ => Mem w_ [(one g40, W44), (S8, W4), (Fr, w)]) [] mixed rfl ?_
                have M81 := M78.drawn
                refine WD_take' 0 rfl (by kernel_rfl) (by kernel_rfl) (by kernel_rfl) (by kernel_rfl) (by kernel_rfl) rfl (fun _ _ _ h => h) rfl _ (M81.sub (.cons_cons _ (.cons_cons _ (.cons_cons _ .slnil)))) rfl (fun w_ hS => L_field rfl rfl fd147_1 ⟨g40, 0, none⟩ rfl  ⟨rfl, rfl⟩) ?_
                refine WD_take' 1 rfl (by kernel_rfl) (by kernel_rfl) (by kernel_rfl) (by kernel_rfl) (by kernel_rfl) rfl (fun _ _ _ h => h) rfl _ (M81.sub (.cons_cons _ (.cons_cons _ (.cons_cons _ .slnil)))) rfl (fun w_ hS => L_load1 rfl rfl Tryd.underlying3 rfl B45.el (hS.agree 0 rfl) 1 rfl (.int .i64 q31.At) rfl  ⟨rfl, rfl⟩) ?_
                refine WD_take' 2 rfl (by kernel_rfl) (by kernel_rfl) (by kernel_rfl) (by kernel_rfl) (by kernel_rfl) rfl (fun _ _ _ h => h) rfl _ (M81.sub (.cons_cons _ (.cons_cons _ (.cons_cons _ .slnil)))) rfl (fun w_ hS => L_assign rfl rfl (.int .i64 22) rfl  ⟨rfl, rfl⟩) ?_
                refine WD_take' 3 rfl (by kernel_rfl) (by kernel_rfl) (by kernel_rfl) (by kernel_rfl) (by kernel_rfl) rfl (fun _ _ _ h => h) rfl _ (M81.sub (.cons_cons _ (.cons_cons _ (.cons_cons _ .slnil)))) rfl (fun w_ hS => L_assign rfl rfl (.int .i64 q31.At) rfl  ⟨rfl, rfl⟩) ?_
                refine WD_done (by kernel_rfl) ?_
                refine thenN ?_
                refine WC_ret ?_
                refine blkR ?_
                refine blkR ?_
                refine thenR ?_
                refine thenR ?_
                refine blkR ?_
                refine thenR ?_
                obtain rfl := someE H26
                have M82 : Mem (drawnZ W77) [(Fr, w), (one g40, W44), (S8, W4)] := M81.front [(one g40, W44), (S8, W4)] rfl
                have M83 : Mem (drawnZ W77) [(Fr, w)] := M82.sub (List.prefix_append [(Fr, w)] [(one g40, W44), (S8, W4)]).sublist
                refine retR [.int .i64 22, .int .i64 q31.At] ⟨rfl, rfl, trivial⟩ ?_
                exact ⟨rfl, M83⟩
              · replace H26 := ifN (by rw [c80]; simp) H26
                refine WC_skip ?_
                refine blkN ?_
                refine blkN ?_
                refine thenN ?_
                refine WC_region ?_
                refine WL_of (L_move rfl rfl (.int .i64 x22) rfl ?_)
                refine WL_of (L_bin rfl rfl (.int .i64 x22) (.int .i64 1) rfl rfl (.int .i64 (wrap64 (x22 + 1))) (B_add _ _ _ x22 1) ?_)
                refine WL_of (L_assign rfl rfl (.int .i64 (wrap64 (x22 + 1))) rfl ?_)
                refine WL_nil ?_
                refine thenN ?_
                have M84 : Mem W77 [(Fr, w), (one g40, W44), (S8, W4)] := M78.front [(one g40, W44), (S8, W4)] rfl
                have M85 : Mem W77 [(S8, W4), (Fr, w), (one g40, W44)] := M84.front [(Fr, w), (one g40, W44)] rfl
                have M86 : Mem W77 [(S8, W4), (Fr, w)] := M85.sub (List.prefix_append [(S8, W4), (Fr, w)] [(one g40, W44)]).sublist
                exact ⟨k27, by omega, x20, x21, wrap64 (x22 + 1), _, updL_same _ _ ⟨rfl, rfl, rfl, rfl, trivial⟩, M86, (by omega), H26⟩
      · replace H26 := ifN c29 H26
        refine WC_exit ?_
        refine thenE ?_
        refine thenE ?_
        refine blkX ?_
        refine thenN ?_
        refine WC_seq ?_
        refine WC_region ?_
        refine WL_of (L_assign rfl rfl (.int .i64 0) rfl ?_)
        refine WL_of (L_assign rfl rfl (.int .i64 0) rfl ?_)
        refine WL_nil ?_
        refine thenN ?_
        refine WC_ret ?_
        obtain rfl := someE H26
        have M87 : Mem W23 [(Fr, w), (S8, W4)] := M24.front [(S8, W4)] rfl
        have M88 : Mem W23 [(Fr, w)] := M87.sub (List.prefix_append [(Fr, w)] [(S8, W4)]).sublist
        refine retR [.int .i64 0, .int .i64 0] ⟨rfl, rfl, trivial⟩ ?_
        exact ⟨rfl, M88⟩

/-! ### annals/annalsref15.label: function 51 -/
def annalsref15_label (k : Nat) (a0 : Str) : Option Bool :=
  (annalsref2_Name k a0).bind (fun (r2 : (Int × Int)) => (some (decide ((r2.1 : Int) = 0))))
set_option maxRecDepth 100000 in
set_option maxHeartbeats 4000000 in
theorem annalsref15_label_ok (k : Nat) (a0 : Str) (r : Bool) (w : World) (Fr : BS) (hG : Gl Fr w) (hF : ∀ b, Fr b → b < w.heap.size)  (H : annalsref15_label k a0 = some r) :
    CallsR Tryd.prog 51 #[.string (sv a0)] w (fun v w' => v = .bool r ∧ Mem w' [(Fr, w)]) := by
  have M0 := Mem.start w Fr hF
  refine enterZ (args := [.string (sv a0)]) [.tmp 2] Tryd.func51 rfl rfl rfl rfl ?_
  unfold annalsref15_label at H
  refine WC_seq ?_
  refine WC_region ?_
  refine WL_of (L_assign rfl rfl (.bool false) rfl ?_)
  refine WL_nil ?_
  refine thenN ?_
  refine WC_seq ?_
  refine WC_region ?_
  refine WL_of (L_move rfl rfl (.string (sv a0)) rfl ?_)
  obtain ⟨r2, hr3, H⟩ := bindS H
  refine WL_of (L_call' rfl rfl cf67 [.string (sv a0)] rfl (annalsref2_Name_ok k a0 r2 _ (Un [(Fr, w)]) (hG.call M0 0 rfl) M0.frame  hr3) ?_)
  rintro _ W4 ⟨rfl, M5⟩
  have M6 : Mem W4 [(Fr, w)] := M0.back (New := []) M5
  refine WL_of (L_move rfl rfl (.tuple #[.int .i64 r2.1, .int .i64 r2.2]) rfl ?_)
  refine WL_of (L_extract rfl rfl [.int .i64 r2.1, .int .i64 r2.2] rfl (.int .i64 r2.1) rfl ?_)
  refine WL_of (L_extract rfl rfl [.int .i64 r2.1, .int .i64 r2.2] rfl (.int .i64 r2.2) rfl ?_)
  refine WL_of (L_assign rfl rfl (.int .i64 r2.1) rfl ?_)
  refine WL_of (L_assign rfl rfl (.int .i64 r2.2) rfl ?_)
  refine WL_nil ?_
  refine thenN ?_
  refine WC_seq ?_
  refine WC_region ?_
  refine WL_of (L_move rfl rfl (.int .i64 r2.1) rfl ?_)
  refine WL_of (L_bin rfl rfl (.int .i64 r2.1) (.int .i64 0) rfl rfl (.bool (decide ((r2.1 : Int) = 0))) (B_eql _ _ _ _ r2.1 0) ?_)
  refine WL_of (L_assign rfl rfl (.bool (decide ((r2.1 : Int) = 0))) rfl ?_)
  refine WL_nil ?_
  refine thenN ?_
  refine WC_ret ?_
  obtain rfl := someE H
  refine retR [.bool (decide ((r2.1 : Int) = 0))] ⟨rfl, trivial⟩ ?_
  exact ⟨rfl, M6⟩

/-! ### annals/annalsref15.ahead: function 68 -/
def annalsref15_ahead (a0 : api_Plan) (a1 : Int) : Option Bool :=
  ((if (a0.Pivot : Int) = 0 then (some true) else (some (decide ((wrap64 (a1 + 1) : Int) < a0.Pivot))))).bind (fun (z5 : Bool) => (some z5))
set_option maxRecDepth 100000 in
set_option maxHeartbeats 4000000 in
theorem annalsref15_ahead_ok (a0 : api_Plan) (Aa0_0 : Option Addr) (ca0_0 : Nat) (a1 : Int) (r : Bool) (w : World) (Fr : BS) (hG : Gl Fr w) (hF : ∀ b, Fr b → b < w.heap.size) (ha0_0 : SR w Fr w Fr Aa0_0 ca0_0 a0.Steps) (H : annalsref15_ahead a0 a1 = some r) :
    CallsR Tryd.prog 68 #[.agg #[.string (sv a0.Name), .int .i64 a0.Pivot, .slice Aa0_0 a0.Steps.length ca0_0], .int .i64 a1] w (fun v w' => v = .bool r ∧ Mem w' [(Fr, w)]) := by
  have M0 := Mem.start w Fr hF
  refine enterZ (args := [.agg #[.string (sv a0.Name), .int .i64 a0.Pivot, .slice Aa0_0 a0.Steps.length ca0_0], .int .i64 a1]) [.tmp 4] Tryd.func68 rfl rfl rfl rfl ?_
  unfold annalsref15_ahead at H
  refine WC_seq ?_
  refine WC_region ?_
  refine WL_of (L_box M0 rfl rfl (.agg #[.string (sv a0.Name), .int .i64 a0.Pivot, .slice Aa0_0 a0.Steps.length ca0_0]) rfl [.string (sv a0.Name), .int .i64 a0.Pivot, .slice Aa0_0 a0.Steps.length ca0_0] rfl ?_)
  intro g1 W2 B3 M4
  refine WL_of (L_assign rfl rfl (.bool false) rfl ?_)
  refine WL_nil ?_
  refine thenN ?_
  obtain ⟨z5, hz6, H⟩ := bindS H
  refine WC_cut (fun ρ w_ => ∃  (ρ0 : Nat → Value), ρ = updL ρ0 [(4, .bool z5)] ∧ Mem w_ [(one g1, W2), (Fr, w)]) ?_ ?_
  · refine WC_region ?_
    refine WL_of (L_field rfl rfl fd24_1 ⟨g1, 0, none⟩ rfl ?_)
    refine WL_of (L_load1 rfl rfl Tryd.underlying3 rfl B3.el (M4.agree 0 rfl) 1 rfl (.int .i64 a0.Pivot) rfl ?_)
    refine WL_of (L_bin rfl rfl (.int .i64 a0.Pivot) (.int .i64 0) rfl rfl (.bool (decide ((a0.Pivot : Int) = 0))) (B_eql _ _ _ _ a0.Pivot 0) ?_)
    refine WL_of (L_move rfl rfl (.bool (decide ((a0.Pivot : Int) = 0))) rfl ?_)
    by_cases c7 : (a0.Pivot : Int) = 0
    · replace hz6 := ifP c7 hz6
      refine WL_known 8 true (vtrue c7) ?_
      refine WL_of (WO_off rfl rfl ?_)
      refine WL_of (WO_off rfl rfl ?_)
      refine WL_of (WO_off rfl rfl ?_)
      refine WL_of (WO_off rfl rfl ?_)
      refine WL_of (WO_off rfl rfl ?_)
      refine WL_of (L_pick rfl rfl true rfl (.bool true) rfl ?_)
      refine WL_of (L_assign rfl rfl (.bool true) rfl ?_)
      refine WL_nil ?_
      refine thenN ?_
      obtain rfl := someE hz6
      exact ⟨_, updL_same _ _ ⟨rfl, trivial⟩, M4⟩
    · replace hz6 := ifN c7 hz6
      refine WL_known 8 false (vfalse c7) ?_
      refine WL_of (L_move rfl rfl (.int .i64 a1) rfl ?_)
      refine WL_of (L_bin rfl rfl (.int .i64 a1) (.int .i64 1) rfl rfl (.int .i64 (wrap64 (a1 + 1))) (B_add _ _ _ a1 1) ?_)
      refine WL_of (L_field rfl rfl fd24_1 ⟨g1, 0, none⟩ rfl ?_)
      refine WL_of (L_load1 rfl rfl Tryd.underlying3 rfl B3.el (M4.agree 0 rfl) 1 rfl (.int .i64 a0.Pivot) rfl ?_)
      refine WL_of (L_bin rfl rfl (.int .i64 (wrap64 (a1 + 1))) (.int .i64 a0.Pivot) rfl rfl (.bool (decide ((wrap64 (a1 + 1) : Int) < a0.Pivot))) (B_lss _ _ _ _ (wrap64 (a1 + 1)) a0.Pivot) ?_)
      refine WL_of (L_pick rfl rfl false rfl (.bool (decide ((wrap64 (a1 + 1) : Int) < a0.Pivot))) rfl ?_)
      refine WL_of (L_assign rfl rfl (.bool (decide ((wrap64 (a1 + 1) : Int) < a0.Pivot))) rfl ?_)
      refine WL_nil ?_
      refine thenN ?_
      obtain rfl := someE hz6
      exact ⟨_, updL_same _ _ ⟨rfl, trivial⟩, M4⟩
  · rintro _ W8 ⟨ρ10, rfl, M9⟩
    refine WC_ret ?_
    obtain rfl := someE H
    have M11 : Mem W8 [(Fr, w), (one g1, W2)] := M9.front [(one g1, W2)] rfl
    have M12 : Mem W8 [(Fr, w)] := M11.sub (List.prefix_append [(Fr, w)] [(one g1, W2)]).sublist
    refine retR [.bool z5] ⟨rfl, trivial⟩ ?_
    exact ⟨rfl, M12⟩

/-! ### annals/annalsref15.behind: function 69 -/
def annalsref15_behind (a0 : api_Plan) (a1 : Int) : Option Bool :=
  ((if (a0.Pivot : Int) ≠ 0 then (some (decide ((a0.Pivot : Int) < (wrap64 (a1 + 1))))) else (some false))).bind (fun (z5 : Bool) => (some z5))
set_option maxRecDepth 100000 in
set_option maxHeartbeats 4000000 in
theorem annalsref15_behind_ok (a0 : api_Plan) (Aa0_0 : Option Addr) (ca0_0 : Nat) (a1 : Int) (r : Bool) (w : World) (Fr : BS) (hG : Gl Fr w) (hF : ∀ b, Fr b → b < w.heap.size) (ha0_0 : SR w Fr w Fr Aa0_0 ca0_0 a0.Steps) (H : annalsref15_behind a0 a1 = some r) :
    CallsR Tryd.prog 69 #[.agg #[.string (sv a0.Name), .int .i64 a0.Pivot, .slice Aa0_0 a0.Steps.length ca0_0], .int .i64 a1] w (fun v w' => v = .bool r ∧ Mem w' [(Fr, w)]) := by
  have M0 := Mem.start w Fr hF
  refine enterZ (args := [.agg #[.string (sv a0.Name), .int .i64 a0.Pivot, .slice Aa0_0 a0.Steps.length ca0_0], .int .i64 a1]) [.tmp 4] Tryd.func69 rfl rfl rfl rfl ?_
  unfold annalsref15_behind at H
  refine WC_seq ?_
  refine WC_region ?_
  refine WL_of (L_box M0 rfl rfl (.agg #[.string (sv a0.Name), .int .i64 a0.Pivot, .slice Aa0_0 a0.Steps.length ca0_0]) rfl [.string (sv a0.Name), .int .i64 a0.Pivot, .slice Aa0_0 a0.Steps.length ca0_0] rfl ?_)
  intro g1 W2 B3 M4
  refine WL_of (L_assign rfl rfl (.bool false) rfl ?_)
  refine WL_nil ?_
  refine thenN ?_
  obtain ⟨z5, hz6, H⟩ := bindS H
  refine WC_cut (fun ρ w_ => ∃  (ρ0 : Nat → Value), ρ = updL ρ0 [(4, .bool z5)] ∧ Mem w_ [(one g1, W2), (Fr, w)]) ?_ ?_
  · refine WC_region ?_
    refine WL_of (L_field rfl rfl fd24_1 ⟨g1, 0, none⟩ rfl ?_)
    refine WL_of (L_load1 rfl rfl Tryd.underlying3 rfl B3.el (M4.agree 0 rfl) 1 rfl (.int .i64 a0.Pivot) rfl ?_)
    refine WL_of (L_bin rfl rfl (.int .i64 a0.Pivot) (.int .i64 0) rfl rfl (.bool (decide ((a0.Pivot : Int) ≠ 0))) (B_neq _ _ _ _ a0.Pivot 0) ?_)
    refine WL_of (L_move rfl rfl (.bool (decide ((a0.Pivot : Int) ≠ 0))) rfl ?_)
    by_cases c7 : (a0.Pivot : Int) ≠ 0
    · replace hz6 := ifP c7 hz6
      refine WL_known 8 true (vtrue c7) ?_
      refine WL_of (L_move rfl rfl (.int .i64 a1) rfl ?_)
      refine WL_of (L_bin rfl rfl (.int .i64 a1) (.int .i64 1) rfl rfl (.int .i64 (wrap64 (a1 + 1))) (B_add _ _ _ a1 1) ?_)
      refine WL_of (L_field rfl rfl fd24_1 ⟨g1, 0, none⟩ rfl ?_)
      refine WL_of (L_load1 rfl rfl Tryd.underlying3 rfl B3.el (M4.agree 0 rfl) 1 rfl (.int .i64 a0.Pivot) rfl ?_)
      refine WL_of (L_bin rfl rfl (.int .i64 (wrap64 (a1 + 1))) (.int .i64 a0.Pivot) rfl rfl (.bool (decide ((a0.Pivot : Int) < (wrap64 (a1 + 1))))) (B_gtr _ _ _ _ (wrap64 (a1 + 1)) a0.Pivot) ?_)
      refine WL_of (L_pick rfl rfl true rfl (.bool (decide ((a0.Pivot : Int) < (wrap64 (a1 + 1))))) rfl ?_)
      refine WL_of (L_assign rfl rfl (.bool (decide ((a0.Pivot : Int) < (wrap64 (a1 + 1))))) rfl ?_)
      refine WL_nil ?_
      refine thenN ?_
      obtain rfl := someE hz6
      exact ⟨_, updL_same _ _ ⟨rfl, trivial⟩, M4⟩
    · replace hz6 := ifN c7 hz6
      refine WL_known 8 false (vfalse c7) ?_
      refine WL_of (WO_off rfl rfl ?_)
      refine WL_of (WO_off rfl rfl ?_)
      refine WL_of (WO_off rfl rfl ?_)
      refine WL_of (WO_off rfl rfl ?_)
      refine WL_of (WO_off rfl rfl ?_)
      refine WL_of (L_pick rfl rfl false rfl (.bool false) rfl ?_)
      refine WL_of (L_assign rfl rfl (.bool false) rfl ?_)
      refine WL_nil ?_
      refine thenN ?_
      obtain rfl := someE hz6
      exact ⟨_, updL_same _ _ ⟨rfl, trivial⟩, M4⟩
  · rintro _ W8 ⟨ρ10, rfl, M9⟩
    refine WC_ret ?_
    obtain rfl := someE H
    have M11 : Mem W8 [(Fr, w), (one g1, W2)] := M9.front [(one g1, W2)] rfl
    have M12 : Mem W8 [(Fr, w)] := M11.sub (List.prefix_append [(Fr, w)] [(one g1, W2)]).sublist
    refine retR [.bool z5] ⟨rfl, trivial⟩ ?_
    exact ⟨rfl, M12⟩

/-! ### annals/annalsref15.used: function 70 -/
def annalsref15_used.l0 : Nat → api_Plan → Int → Str → Bool → Int → Option Bool
  | 0, _, _, _, _, _ => none
  | k + 1, a0, a1, a2, x9, x10 => (if (x10 : Int) < a1 then ((if (a2 : Str) ≠ (lit []) then (atL a0.Steps x10).bind (fun q21 => (if (q21.Do : Str) = a2 then (some true) else (atL a0.Steps x10).bind (fun q31 => (some (decide ((q31.Undo : Str) = a2)))))) else (some false))).bind (fun (z18 : Bool) => (if z18 = true then (some true) else (annalsref15_used.l0 k a0 a1 a2 x9 (wrap64 (x10 + 1))))) else (some false))
def annalsref15_used (k : Nat) (a0 : api_Plan) (a1 : Int) (a2 : Str) : Option Bool :=
  (annalsref15_used.l0 k a0 a1 a2 false 0)
set_option maxRecDepth 100000 in
set_option maxHeartbeats 4000000 in
theorem annalsref15_used_ok (k : Nat) (a0 : api_Plan) (Aa0_0 : Option Addr) (ca0_0 : Nat) (a1 : Int) (a2 : Str) (r : Bool) (w : World) (Fr : BS) (hG : Gl Fr w) (hF : ∀ b, Fr b → b < w.heap.size) (ha0_0 : SR w Fr w Fr Aa0_0 ca0_0 a0.Steps) (H : annalsref15_used k a0 a1 a2 = some r) :
    CallsR Tryd.prog 70 #[.agg #[.string (sv a0.Name), .int .i64 a0.Pivot, .slice Aa0_0 a0.Steps.length ca0_0], .int .i64 a1, .string (sv a2)] w (fun v w' => v = .bool r ∧ Mem w' [(Fr, w)]) := by
  have M0 := Mem.start w Fr hF
  refine enterZ (args := [.agg #[.string (sv a0.Name), .int .i64 a0.Pivot, .slice Aa0_0 a0.Steps.length ca0_0], .int .i64 a1, .string (sv a2)]) [.tmp 6] Tryd.func70 rfl rfl rfl rfl ?_
  unfold annalsref15_used at H
  refine WC_seq ?_
  refine WC_region ?_
  refine WL_of (L_box M0 rfl rfl (.agg #[.string (sv a0.Name), .int .i64 a0.Pivot, .slice Aa0_0 a0.Steps.length ca0_0]) rfl [.string (sv a0.Name), .int .i64 a0.Pivot, .slice Aa0_0 a0.Steps.length ca0_0] rfl ?_)
  intro g1 W2 B3 M4
  refine WL_of (L_assign rfl rfl (.bool false) rfl ?_)
  refine WL_nil ?_
  refine thenN ?_
  refine WC_seq ?_
  refine WC_seq ?_
  refine WC_region ?_
  refine WL_of (L_assign rfl rfl (.int .i64 0) rfl ?_)
  refine WL_nil ?_
  refine thenN ?_
  refine WC_block ?_
  refine WC_loop (fun k15 ρ w_ => ∃ (x9 : Bool) (x10 : Int) (ρ0 : Nat → Value), ρ = updL ρ0 [(1, .int .i64 a1), (2, .string (sv a2)), (3, .pointer (some ⟨g1, 0, none⟩)), (6, .bool x9), (7, .int .i64 x10)] ∧ Mem w_ [(one g1, W2), (Fr, w)] ∧ k15 ≤ k ∧ annalsref15_used.l0 k15 a0 a1 a2 x9 x10 = some r) k ?_ ?_
  · exact ⟨false, 0, _, updL_same _ _ ⟨rfl, rfl, rfl, rfl, rfl, trivial⟩, M4, (Nat.le_refl _), H⟩
  · rintro k15 _ W11 ⟨x9, x10, ρ13, rfl, M12, hk16, H14⟩
    cases k15 with
    | zero => rw [annalsref15_used.l0] at H14; cases H14
    | succ k15 =>
    rw [annalsref15_used.l0] at H14
    refine WC_seq ?_
    refine WC_seq ?_
    refine WC_region ?_
    refine WL_of (L_move rfl rfl (.int .i64 x10) rfl ?_)
    refine WL_of (L_move rfl rfl (.int .i64 a1) rfl ?_)
    refine WL_of (L_bin rfl rfl (.int .i64 x10) (.int .i64 a1) rfl rfl (.bool (decide ((x10 : Int) < a1))) (B_lss _ _ _ _ x10 a1) ?_)
    refine WL_nil ?_
    refine thenN ?_
    refine WC_if (p := (x10 : Int) < a1) rfl (fun c17 => ?_) (fun c17 => ?_)
    · replace H14 := ifP c17 H14
      refine WC_skip ?_
      refine thenN ?_
      refine WC_seq ?_
      refine WC_block ?_
      obtain ⟨z18, hz19, H14⟩ := bindS H14
      refine WC_cut (fun ρ w_ => ∃  (ρ0 : Nat → Value), ρ = updL ρ0 [(1, .int .i64 a1), (2, .string (sv a2)), (3, .pointer (some ⟨g1, 0, none⟩)), (6, .bool x9), (7, .int .i64 x10), (34, .bool z18)] ∧ Mem w_ [(one g1, W2), (Fr, w)]) ?_ ?_
      · refine WC_region ?_
        refine WL_of (L_move rfl rfl (.string (sv a2)) rfl ?_)
        refine WL_of (L_bin rfl rfl (.string (sv a2)) (.string (sv (lit []))) rfl rfl (.bool (decide ((a2 : Str) ≠ (lit [])))) (B_sneq _ _ _ a2 (lit [])) ?_)
        refine WL_of (L_move rfl rfl (.bool (decide ((a2 : Str) ≠ (lit [])))) rfl ?_)
        by_cases c20 : (a2 : Str) ≠ (lit [])
        · replace hz19 := ifP c20 hz19
          refine WL_known 15 true (vtrue c20) ?_
          refine WL_of (L_field rfl rfl fd24_2 ⟨g1, 0, none⟩ rfl ?_)
          refine WL_of (L_load1 rfl rfl Tryd.underlying22 rfl B3.el (M12.agree 0 rfl) 2 rfl (.slice Aa0_0 a0.Steps.length ca0_0) rfl ?_)
          refine WL_of (L_move rfl rfl (.int .i64 x10) rfl ?_)
          obtain ⟨q21, hq22, hz19⟩ := bindS hz19
          obtain ⟨ad23, cs24, hA25, E26, R27⟩ := ha0_0.at hq22
          have hl28 := atL_spec hq22
          refine WL_of (L_index rfl rfl Tryd.underlying22 sz44 rfl rfl hA25 hl28.1 hl28.2.1 ?_)
          obtain rfl := R27
          have E29 : El w Fr (Addr.add ad23 (Int.toNat x10 * 3)) [.string (sv q21.Do), .string (sv q21.Undo), .int .i64 q21.Tries] := E26
          refine WL_of (L_field rfl rfl fd44_0 (Addr.add ad23 (Int.toNat x10 * 3)) rfl ?_)
          refine WL_of (L_load1 rfl rfl Tryd.underlying9 rfl E29 (M12.agree 1 rfl) 0 rfl (.string (sv q21.Do)) rfl ?_)
          refine WL_of (L_move rfl rfl (.string (sv a2)) rfl ?_)
          refine WL_of (L_bin rfl rfl (.string (sv q21.Do)) (.string (sv a2)) rfl rfl (.bool (decide ((q21.Do : Str) = a2))) (B_seql _ _ _ q21.Do a2) ?_)
          refine WL_of (L_move rfl rfl (.bool (decide ((q21.Do : Str) = a2))) rfl ?_)
          by_cases c30 : (q21.Do : Str) = a2
          · replace hz19 := ifP c30 hz19
            refine WL_known 24 true (vtrue c30) ?_
            refine WL_of (WO_off rfl rfl ?_)
            refine WL_of (WO_off rfl rfl ?_)
            refine WL_of (WO_off rfl rfl ?_)
            refine WL_of (WO_off rfl rfl ?_)
            refine WL_of (WO_off rfl rfl ?_)
            refine WL_of (WO_off rfl rfl ?_)
            refine WL_of (WO_off rfl rfl ?_)
            refine WL_of (WO_off rfl rfl ?_)
            refine WL_of (L_pick rfl rfl true rfl (.bool true) rfl ?_)
            refine WL_of (L_pick rfl rfl true rfl (.bool true) rfl ?_)
            refine WL_nil ?_
            refine thenN ?_
            obtain rfl := someE hz19
            exact ⟨_, updL_same _ _ ⟨rfl, rfl, rfl, rfl, rfl, rfl, trivial⟩, M12⟩
          · replace hz19 := ifN c30 hz19
            refine WL_known 24 false (vfalse c30) ?_
            refine WL_of (L_field rfl rfl fd24_2 ⟨g1, 0, none⟩ rfl ?_)
            refine WL_of (L_load1 rfl rfl Tryd.underlying22 rfl B3.el (M12.agree 0 rfl) 2 rfl (.slice Aa0_0 a0.Steps.length ca0_0) rfl ?_)
            refine WL_of (L_move rfl rfl (.int .i64 x10) rfl ?_)
            obtain ⟨q31, hq32, hz19⟩ := bindS hz19
            obtain ⟨ad33, cs34, hA35, E36, R37⟩ := ha0_0.at hq32
            have hl38 := atL_spec hq32
            refine WL_of (L_index rfl rfl Tryd.underlying22 sz44 rfl rfl hA35 hl38.1 hl38.2.1 ?_)
            obtain rfl := R37
            have E39 : El w Fr (Addr.add ad33 (Int.toNat x10 * 3)) [.string (sv q31.Do), .string (sv q31.Undo), .int .i64 q31.Tries] := E36
            refine WL_of (L_field rfl rfl fd44_1 (Addr.add ad33 (Int.toNat x10 * 3)) rfl ?_)
            refine WL_of (L_load1 rfl rfl Tryd.underlying9 rfl E39 (M12.agree 1 rfl) 1 rfl (.string (sv q31.Undo)) rfl ?_)
            refine WL_of (L_move rfl rfl (.string (sv a2)) rfl ?_)
            refine WL_of (L_bin rfl rfl (.string (sv q31.Undo)) (.string (sv a2)) rfl rfl (.bool (decide ((q31.Undo : Str) = a2))) (B_seql _ _ _ q31.Undo a2) ?_)
            refine WL_of (L_pick rfl rfl false rfl (.bool (decide ((q31.Undo : Str) = a2))) rfl ?_)
            refine WL_of (L_pick rfl rfl true rfl (.bool (decide ((q31.Undo : Str) = a2))) rfl ?_)
            refine WL_nil ?_
            refine thenN ?_
            obtain rfl := someE hz19
            exact ⟨_, updL_same _ _ ⟨rfl, rfl, rfl, rfl, rfl, rfl, trivial⟩, M12⟩
        · replace hz19 := ifN c20 hz19
          refine WL_known 15 false (vfalse c20) ?_
          refine WL_of (WO_off rfl rfl ?_)
          refine WL_of (WO_off rfl rfl ?_)
          refine WL_of (WO_off rfl rfl ?_)
          refine WL_of (WO_off rfl rfl ?_)
          refine WL_of (WO_off rfl rfl ?_)
          refine WL_of (WO_off rfl rfl ?_)
          refine WL_of (WO_off rfl rfl ?_)
          refine WL_of (WO_off rfl rfl ?_)
          refine WL_of (WO_off rfl rfl ?_)
          refine WL_of (WO_off rfl rfl ?_)
          refine WL_of (WO_off rfl rfl ?_)
          refine WL_of (WO_off rfl rfl ?_)
          refine WL_of (WO_off rfl rfl ?_)
          refine WL_of (WO_off rfl rfl ?_)
          refine WL_of (WO_off rfl rfl ?_)
          refine WL_of (WO_off rfl rfl ?_)
          refine WL_of (WO_off rfl rfl ?_)
          refine WL_of (WO_off rfl rfl ?_)
          refine WL_of (L_pick rfl rfl false rfl (.bool false) rfl ?_)
          refine WL_nil ?_
          refine thenN ?_
          obtain rfl := someE hz19
          exact ⟨_, updL_same _ _ ⟨rfl, rfl, rfl, rfl, rfl, rfl, trivial⟩, M12⟩
      · rintro _ W40 ⟨ρ42, rfl, M41⟩
        refine WC_ifb rfl (fun c43 => ?_) (fun c43 => ?_)
        · replace H14 := ifP c43 H14
          refine WC_seq ?_
          refine WC_region ?_
          refine WL_of (L_assign rfl rfl (.bool true) rfl ?_)
          refine WL_nil ?_
          refine thenN ?_
          refine WC_ret ?_
          refine blkR ?_
          refine thenR ?_
          refine thenR ?_
          refine blkR ?_
          refine thenR ?_
          obtain rfl := someE H14
          have M44 : Mem W40 [(Fr, w), (one g1, W2)] := M41.front [(one g1, W2)] rfl
          have M45 : Mem W40 [(Fr, w)] := M44.sub (List.prefix_append [(Fr, w)] [(one g1, W2)]).sublist
          refine retR [.bool true] ⟨rfl, trivial⟩ ?_
          exact ⟨rfl, M45⟩
        · replace H14 := ifN (by rw [c43]; simp) H14
          refine WC_skip ?_
          refine blkN ?_
          refine thenN ?_
          refine WC_region ?_
          refine WL_of (L_move rfl rfl (.int .i64 x10) rfl ?_)
          refine WL_of (L_bin rfl rfl (.int .i64 x10) (.int .i64 1) rfl rfl (.int .i64 (wrap64 (x10 + 1))) (B_add _ _ _ x10 1) ?_)
          refine WL_of (L_assign rfl rfl (.int .i64 (wrap64 (x10 + 1))) rfl ?_)
          refine WL_nil ?_
          refine thenN ?_
          exact ⟨k15, by omega, x9, wrap64 (x10 + 1), _, updL_same _ _ ⟨rfl, rfl, rfl, rfl, rfl, trivial⟩, M41, (by omega), H14⟩
    · replace H14 := ifN c17 H14
      refine WC_exit ?_
      refine thenE ?_
      refine thenE ?_
      refine blkX ?_
      refine thenN ?_
      refine WC_seq ?_
      refine WC_region ?_
      refine WL_of (L_assign rfl rfl (.bool false) rfl ?_)
      refine WL_nil ?_
      refine thenN ?_
      refine WC_ret ?_
      obtain rfl := someE H14
      have M46 : Mem W11 [(Fr, w), (one g1, W2)] := M12.front [(one g1, W2)] rfl
      have M47 : Mem W11 [(Fr, w)] := M46.sub (List.prefix_append [(Fr, w)] [(one g1, W2)]).sublist
      refine retR [.bool false] ⟨rfl, trivial⟩ ?_
      exact ⟨rfl, M47⟩

/-! ### annals/annalsref15.step: function 52 -/
def annalsref15_step.j0 (k : Nat) (a0 : api_Plan) (a1 : Int) (q5 : api_Step) : Option Int := ((annalsref15_used k a0 a1 q5.Do).bind (fun (r80 : Bool) => (if r80 = true then (some true) else (annalsref15_used k a0 a1 q5.Undo).bind (fun (r87 : Bool) => (if r87 = true then (some true) else (some (decide ((q5.Do : Str) = q5.Undo)))))))).bind (fun (z77 : Bool) => (if z77 = true then (some 151) else (some 0)))
def annalsref15_step (k : Nat) (a0 : api_Plan) (a1 : Int) : Option Int :=
  (atL a0.Steps a1).bind (fun q5 => ((annalsref15_label k q5.Do).bind (fun (r24 : Bool) => (if (!r24) = true then (some true) else (if (q5.Undo : Str) ≠ (lit []) then (annalsref15_label k q5.Undo).bind (fun (r32 : Bool) => (some (!r32))) else (some false))))).bind (fun (z21 : Bool) => (if z21 = true then (some 35) else (annalsref15_ahead a0 a1).bind (fun (r45 : Bool) => (if r45 ≠ (decide ((q5.Undo : Str) ≠ (lit []))) then (some 152) else (annalsref15_behind a0 a1).bind (fun (r59 : Bool) => (if r59 = true then (if (q5.Tries : Int) ≠ 0 then (some 34) else (annalsref15_step.j0 k a0 a1 q5)) else ((if (q5.Tries : Int) < 1 then (some true) else (some (decide ((1000 : Int) < q5.Tries))))).bind (fun (z68 : Bool) => (if z68 = true then (some 34) else (annalsref15_step.j0 k a0 a1 q5))))))))))
set_option maxRecDepth 100000 in
set_option maxHeartbeats 4000000 in
theorem annalsref15_step_ok (k : Nat) (a0 : api_Plan) (Aa0_0 : Option Addr) (ca0_0 : Nat) (a1 : Int) (r : Int) (w : World) (Fr : BS) (hG : Gl Fr w) (hF : ∀ b, Fr b → b < w.heap.size) (ha0_0 : SR w Fr w Fr Aa0_0 ca0_0 a0.Steps) (H : annalsref15_step k a0 a1 = some r) :
    CallsR Tryd.prog 52 #[.agg #[.string (sv a0.Name), .int .i64 a0.Pivot, .slice Aa0_0 a0.Steps.length ca0_0], .int .i64 a1] w (fun v w' => v = .int .i64 r ∧ Mem w' [(Fr, w)]) := by
  have M0 := Mem.start w Fr hF
  refine enterZ (args := [.agg #[.string (sv a0.Name), .int .i64 a0.Pivot, .slice Aa0_0 a0.Steps.length ca0_0], .int .i64 a1]) [.tmp 4] Tryd.func52 rfl rfl rfl rfl ?_
  unfold annalsref15_step at H
  refine WC_seq ?_
  refine WC_region ?_
  refine WL_of (L_box M0 rfl rfl (.agg #[.string (sv a0.Name), .int .i64 a0.Pivot, .slice Aa0_0 a0.Steps.length ca0_0]) rfl [.string (sv a0.Name), .int .i64 a0.Pivot, .slice Aa0_0 a0.Steps.length ca0_0] rfl ?_)
  intro g1 W2 B3 M4
  refine WL_of (L_assign rfl rfl (.int .i64 0) rfl ?_)
  refine WL_nil ?_
  refine thenN ?_
  refine WC_seq ?_
  refine WC_region ?_
  refine WL_of (L_field rfl rfl fd24_2 ⟨g1, 0, none⟩ rfl ?_)
  refine WL_of (L_load1 rfl rfl Tryd.underlying22 rfl B3.el (M4.agree 0 rfl) 2 rfl (.slice Aa0_0 a0.Steps.length ca0_0) rfl ?_)
  refine WL_of (L_move rfl rfl (.int .i64 a1) rfl ?_)
  obtain ⟨q5, hq6, H⟩ := bindS H
  obtain ⟨ad7, cs8, hA9, E10, R11⟩ := ha0_0.at hq6
  have hl12 := atL_spec hq6
  refine WL_of (L_index rfl rfl Tryd.underlying22 sz44 rfl rfl hA9 hl12.1 hl12.2.1 ?_)
  obtain rfl := R11
  have E13 : El w Fr (Addr.add ad7 (Int.toNat a1 * 3)) [.string (sv q5.Do), .string (sv q5.Undo), .int .i64 q5.Tries] := E10
  refine WL_of (L_loadN rfl rfl Tryd.underlying44 rfl E13 (M4.agree 1 rfl) 0 rfl 3 sz44 [.string (sv q5.Do), .string (sv q5.Undo), .int .i64 q5.Tries] rfl rfl ?_)
  refine WL_of (L_alloc M4 rfl rfl zr44 [.string (sv (lit [])), .string (sv (lit [])), .int .i64 0] rfl ?_)
  intro g14 W15 B16 M17
  refine WL_of (L_store M17 rfl (.agg #[.string (sv q5.Do), .string (sv q5.Undo), .int .i64 q5.Tries]) rfl [.string (sv q5.Do), .string (sv q5.Undo), .int .i64 q5.Tries] rfl 3 sz44 rfl rfl rfl B16 rfl rfl [.string (sv q5.Do), .string (sv q5.Undo), .int .i64 q5.Tries] rfl ?_)
  intro W18 B19 M20
  refine WL_nil ?_
  refine thenN ?_
  refine WC_seq ?_
  obtain ⟨z21, hz22, H⟩ := bindS H
  refine WC_cut (fun ρ w_ => ∃  (ρ0 : Nat → Value), ρ = updL ρ0 [(1, .int .i64 a1), (2, .pointer (some ⟨g1, 0, none⟩)), (4, .int .i64 0), (5, .pointer (some ⟨g14, 0, none⟩)), (25, .bool z21)] ∧ Mem w_ [(one g14, W18), (one g1, W2), (Fr, w)]) ?_ ?_
  · refine WC_region ?_
    refine WL_of (L_field rfl rfl fd44_0 ⟨g14, 0, none⟩ rfl ?_)
    refine WL_of (L_load1 rfl rfl Tryd.underlying9 rfl B19.el (M20.agree 0 rfl) 0 rfl (.string (sv q5.Do)) rfl ?_)
    obtain ⟨r24, hr25, hz22⟩ := bindS hz22
    refine WL_of (L_call' rfl rfl cf51 [.string (sv q5.Do)] rfl (annalsref15_label_ok k q5.Do r24 _ (Un [(one g14, W18), (one g1, W2), (Fr, w)]) (hG.call M20 2 rfl) M20.frame  hr25) ?_)
    rintro _ W26 ⟨rfl, M27⟩
    have M28 : Mem W26 [(one g14, W18), (one g1, W2), (Fr, w)] := M20.back (New := []) M27
    refine WL_of (L_not rfl rfl r24 rfl ?_)
    refine WL_of (L_move rfl rfl (.bool (!r24)) rfl ?_)
    by_cases c29 : (!r24) = true
    · replace hz22 := ifP c29 hz22
      refine WL_known 15 true (wtrue c29) ?_
      refine WL_of (WO_off rfl rfl ?_)
      refine WL_of (WO_off rfl rfl ?_)
      refine WL_of (WO_off rfl rfl ?_)
      refine WL_of (WO_off rfl rfl ?_)
      refine WL_of (WO_off rfl rfl ?_)
      refine WL_of (WO_off rfl rfl ?_)
      refine WL_of (WO_off rfl rfl ?_)
      refine WL_of (WO_off rfl rfl ?_)
      refine WL_of (WO_off rfl rfl ?_)
      refine WL_of (L_pick rfl rfl true rfl (.bool true) rfl ?_)
      refine WL_nil ?_
      refine thenN ?_
      obtain rfl := someE hz22
      exact ⟨_, updL_same _ _ ⟨rfl, rfl, rfl, rfl, rfl, trivial⟩, M28⟩
    · replace hz22 := ifN c29 hz22
      refine WL_known 15 false (wfalse c29) ?_
      refine WL_of (L_field rfl rfl fd44_1 ⟨g14, 0, none⟩ rfl ?_)
      refine WL_of (L_load1 rfl rfl Tryd.underlying9 rfl B19.el (M28.agree 0 rfl) 1 rfl (.string (sv q5.Undo)) rfl ?_)
      refine WL_of (L_bin rfl rfl (.string (sv q5.Undo)) (.string (sv (lit []))) rfl rfl (.bool (decide ((q5.Undo : Str) ≠ (lit [])))) (B_sneq _ _ _ q5.Undo (lit [])) ?_)
      refine WL_of (L_move rfl rfl (.bool (decide ((q5.Undo : Str) ≠ (lit [])))) rfl ?_)
      by_cases c30 : (q5.Undo : Str) ≠ (lit [])
      · replace hz22 := ifP c30 hz22
        refine WL_known 19 true (vtrue c30) ?_
        refine WL_of (L_field rfl rfl fd44_1 ⟨g14, 0, none⟩ rfl ?_)
        refine WL_of (L_load1 rfl rfl Tryd.underlying9 rfl B19.el (M28.agree 0 rfl) 1 rfl (.string (sv q5.Undo)) rfl ?_)
        obtain ⟨r32, hr33, hz22⟩ := bindS hz22
        refine WL_of (L_call' rfl rfl cf51 [.string (sv q5.Undo)] rfl (annalsref15_label_ok k q5.Undo r32 _ (Un [(one g14, W18), (one g1, W2), (Fr, w)]) (hG.call M28 2 rfl) M28.frame  hr33) ?_)
        rintro _ W34 ⟨rfl, M35⟩
        have M36 : Mem W34 [(one g14, W18), (one g1, W2), (Fr, w)] := M28.back (New := []) M35
        refine WL_of (L_not rfl rfl r32 rfl ?_)
        refine WL_of (L_pick rfl rfl true rfl (.bool (!r32)) rfl ?_)
        refine WL_of (L_pick rfl rfl false rfl (.bool (!r32)) rfl ?_)
        refine WL_nil ?_
        refine thenN ?_
        obtain rfl := someE hz22
        exact ⟨_, updL_same _ _ ⟨rfl, rfl, rfl, rfl, rfl, trivial⟩, M36⟩
      · replace hz22 := ifN c30 hz22
        refine WL_known 19 false (vfalse c30) ?_
        refine WL_of (WO_off rfl rfl ?_)
        refine WL_of (WO_off rfl rfl ?_)
        refine WL_of (WO_off rfl rfl ?_)
        refine WL_of (WO_off rfl rfl ?_)
        refine WL_of (L_pick rfl rfl false rfl (.bool false) rfl ?_)
        refine WL_of (L_pick rfl rfl false rfl (.bool false) rfl ?_)
        refine WL_nil ?_
        refine thenN ?_
        obtain rfl := someE hz22
        exact ⟨_, updL_same _ _ ⟨rfl, rfl, rfl, rfl, rfl, trivial⟩, M28⟩
  · rintro _ W37 ⟨ρ39, rfl, M38⟩
    refine WC_ifb rfl (fun c40 => ?_) (fun c40 => ?_)
    · replace H := ifP c40 H
      refine WC_seq ?_
      refine WC_region ?_
      refine WL_of (L_assign rfl rfl (.int .i64 35) rfl ?_)
      refine WL_nil ?_
      refine thenN ?_
      refine WC_ret ?_
      refine thenR ?_
      obtain rfl := someE H
      have M41 : Mem W37 [(Fr, w), (one g14, W18), (one g1, W2)] := M38.front [(one g14, W18), (one g1, W2)] rfl
      have M42 : Mem W37 [(Fr, w)] := M41.sub (List.prefix_append [(Fr, w)] [(one g14, W18), (one g1, W2)]).sublist
      refine retR [.int .i64 35] ⟨rfl, trivial⟩ ?_
      exact ⟨rfl, M42⟩
    · replace H := ifN (by rw [c40]; simp) H
      refine WC_skip ?_
      refine thenN ?_
      refine WC_seq ?_
      refine WC_seq ?_
      refine WD_start (n := 7) (fun w_ => Mem w_ [(one g14, W18), (one g1, W2), (Fr, w)]) [] mixed rfl ?_
      have M43 := M38.drawn
      refine WD_take' 0 rfl (by kernel_rfl) (by kernel_rfl) (by kernel_rfl) (by kernel_rfl) (by kernel_rfl) rfl (fun _ _ _ h => h) rfl _ (M43.sub (.cons_cons _ (.cons_cons _ (.cons_cons _ .slnil)))) rfl (fun w_ hS => L_loadN rfl rfl Tryd.underlying24 rfl B3.el (hS.agree 1 rfl) 0 rfl 3 sz24 [.string (sv a0.Name), .int .i64 a0.Pivot, .slice Aa0_0 a0.Steps.length ca0_0] rfl rfl  ⟨rfl, rfl⟩) ?_
      refine WD_take' 1 rfl (by kernel_rfl) (by kernel_rfl) (by kernel_rfl) (by kernel_rfl) (by kernel_rfl) rfl (fun _ _ _ h => h) rfl _ (M43.sub (.cons_cons _ (.cons_cons _ (.cons_cons _ .slnil)))) rfl (fun w_ hS => L_move rfl rfl (.int .i64 a1) rfl  ⟨rfl, rfl⟩) ?_
      refine WD_take' 3 rfl (by kernel_rfl) (by kernel_rfl) (by kernel_rfl) (by kernel_rfl) (by kernel_rfl) rfl (fun _ _ _ h => h) rfl _ (M43.sub (.cons_cons _ (.cons_cons _ (.cons_cons _ .slnil)))) rfl (fun w_ hS => L_field rfl rfl fd44_1 ⟨g14, 0, none⟩ rfl  ⟨rfl, rfl⟩) ?_
      refine WD_take' 4 rfl (by kernel_rfl) (by kernel_rfl) (by kernel_rfl) (by kernel_rfl) (by kernel_rfl) rfl (fun _ _ _ h => h) rfl _ (M43.sub (.cons_cons _ (.cons_cons _ (.cons_cons _ .slnil)))) rfl (fun w_ hS => L_load1 rfl rfl Tryd.underlying9 rfl B19.el (hS.agree 0 rfl) 1 rfl (.string (sv q5.Undo)) rfl  ⟨rfl, rfl⟩) ?_
      refine WD_take' 5 rfl (by kernel_rfl) (by kernel_rfl) (by kernel_rfl) (by kernel_rfl) (by kernel_rfl) rfl (fun _ _ _ h => h) rfl _ (M43.sub (.cons_cons _ (.cons_cons _ (.cons_cons _ .slnil)))) rfl (fun w_ hS => L_bin rfl rfl (.string (sv q5.Undo)) (.string (sv (lit []))) rfl rfl (.bool (decide ((q5.Undo : Str) ≠ (lit [])))) (B_sneq _ _ _ q5.Undo (lit []))  ⟨rfl, rfl⟩) ?_
      obtain ⟨r45, hr46, H⟩ := bindS H
      refine WD_one 2 rfl (by kernel_rfl) (L_call' rfl rfl cf68 [.agg #[.string (sv a0.Name), .int .i64 a0.Pivot, .slice Aa0_0 a0.Steps.length ca0_0], .int .i64 a1] rfl (annalsref15_ahead_ok a0 Aa0_0 ca0_0 a1 r45 _ (Un [(one g14, W18), (one g1, W2), (Fr, w)]) (hG.call M43 2 rfl) M43.frame ((ha0_0.agree (M43.agree 2 rfl) (M43.agree 2 rfl)).sub (Un.at 2 rfl) (Un.at 2 rfl)) hr46) ?_)
      rintro _ W47 ⟨rfl, M48⟩
      have M49 : Mem W47 [(one g14, W18), (one g1, W2), (Fr, w)] := M43.back (New := []) M48
      refine ⟨fun _ => (M49.sub (.cons_cons _ (.cons_cons _ (.cons_cons _ .slnil)))), ?_⟩
      refine WD_take' 6 rfl (by kernel_rfl) (by kernel_rfl) (by kernel_rfl) (by kernel_rfl) (by kernel_rfl) rfl (fun _ _ _ h => h) rfl _ (M49.sub (.cons_cons _ (.cons_cons _ (.cons_cons _ .slnil)))) rfl (fun w_ hS => L_bin rfl rfl (.bool r45) (.bool (decide ((q5.Undo : Str) ≠ (lit [])))) rfl rfl (.bool (decide (r45 ≠ (decide ((q5.Undo : Str) ≠ (lit [])))))) (B_bneq _ _ _ Tryd.underlying4 r45 (decide ((q5.Undo : Str) ≠ (lit []))))  ⟨rfl, rfl⟩) ?_
      refine WD_done (by kernel_rfl) ?_
      refine thenN ?_
      refine WC_if (p := r45 ≠ (decide ((q5.Undo : Str) ≠ (lit [])))) rfl (fun c50 => ?_) (fun c50 => ?_)
      · replace H := ifP c50 H
        refine WC_seq ?_
        refine WC_region ?_
        refine WL_of (L_assign rfl rfl (.int .i64 152) rfl ?_)
        refine WL_nil ?_
        refine thenN ?_
        refine WC_ret ?_
        refine thenR ?_
        obtain rfl := someE H
        have M51 : Mem W47 [(Fr, w), (one g14, W18), (one g1, W2)] := M49.front [(one g14, W18), (one g1, W2)] rfl
        have M52 : Mem W47 [(Fr, w)] := M51.sub (List.prefix_append [(Fr, w)] [(one g14, W18), (one g1, W2)]).sublist
        refine retR [.int .i64 152] ⟨rfl, trivial⟩ ?_
        exact ⟨rfl, M52⟩
      · replace H := ifN c50 H
        refine WC_skip ?_
        refine thenN ?_
        refine WC_cut (fun ρ w_ => ∃  (ρ0 : Nat → Value), ρ = updL ρ0 [(1, .int .i64 a1), (2, .pointer (some ⟨g1, 0, none⟩)), (4, .int .i64 0), (5, .pointer (some ⟨g14, 0, none⟩))] ∧ Mem w_ [(one g14, W18), (one g1, W2), (Fr, w)] ∧ annalsref15_step.j0 k a0 a1 q5 = some r) ?_ ?_
        · refine WC_seq ?_
          refine WC_region ?_
          refine WL_of (L_loadN rfl rfl Tryd.underlying24 rfl B3.el (M49.agree 1 rfl) 0 rfl 3 sz24 [.string (sv a0.Name), .int .i64 a0.Pivot, .slice Aa0_0 a0.Steps.length ca0_0] rfl rfl ?_)
          refine WL_of (L_move rfl rfl (.int .i64 a1) rfl ?_)
          obtain ⟨r59, hr60, H⟩ := bindS H
          refine WL_of (L_call' rfl rfl cf69 [.agg #[.string (sv a0.Name), .int .i64 a0.Pivot, .slice Aa0_0 a0.Steps.length ca0_0], .int .i64 a1] rfl (annalsref15_behind_ok a0 Aa0_0 ca0_0 a1 r59 _ (Un [(one g14, W18), (one g1, W2), (Fr, w)]) (hG.call M49 2 rfl) M49.frame ((ha0_0.agree (M49.agree 2 rfl) (M49.agree 2 rfl)).sub (Un.at 2 rfl) (Un.at 2 rfl)) hr60) ?_)
          rintro _ W61 ⟨rfl, M62⟩
          have M63 : Mem W61 [(one g14, W18), (one g1, W2), (Fr, w)] := M49.back (New := []) M62
          refine WL_nil ?_
          refine thenN ?_
          refine WC_ifb rfl (fun c64 => ?_) (fun c64 => ?_)
          · replace H := ifP c64 H
            refine WC_seq ?_
            refine WC_region ?_
            refine WL_of (L_field rfl rfl fd44_2 ⟨g14, 0, none⟩ rfl ?_)
            refine WL_of (L_load1 rfl rfl Tryd.underlying3 rfl B19.el (M63.agree 0 rfl) 2 rfl (.int .i64 q5.Tries) rfl ?_)
            refine WL_of (L_bin rfl rfl (.int .i64 q5.Tries) (.int .i64 0) rfl rfl (.bool (decide ((q5.Tries : Int) ≠ 0))) (B_neq _ _ _ _ q5.Tries 0) ?_)
            refine WL_nil ?_
            refine thenN ?_
            refine WC_if (p := (q5.Tries : Int) ≠ 0) rfl (fun c65 => ?_) (fun c65 => ?_)
            · replace H := ifP c65 H
              refine WC_seq ?_
              refine WC_region ?_
              refine WL_of (L_assign rfl rfl (.int .i64 34) rfl ?_)
              refine WL_nil ?_
              refine thenN ?_
              refine WC_ret ?_
              refine thenR ?_
              obtain rfl := someE H
              have M66 : Mem W61 [(Fr, w), (one g14, W18), (one g1, W2)] := M63.front [(one g14, W18), (one g1, W2)] rfl
              have M67 : Mem W61 [(Fr, w)] := M66.sub (List.prefix_append [(Fr, w)] [(one g14, W18), (one g1, W2)]).sublist
              refine retR [.int .i64 34] ⟨rfl, trivial⟩ ?_
              exact ⟨rfl, M67⟩
            · replace H := ifN c65 H
              refine WC_skip ?_
              refine thenN ?_
              exact ⟨_, updL_same _ _ ⟨rfl, rfl, rfl, rfl, trivial⟩, M63, H⟩
          · replace H := ifN (by rw [c64]; simp) H
            obtain ⟨z68, hz69, H⟩ := bindS H
            refine WC_cut (fun ρ w_ => ∃  (ρ0 : Nat → Value), ρ = updL ρ0 [(1, .int .i64 a1), (2, .pointer (some ⟨g1, 0, none⟩)), (4, .int .i64 0), (5, .pointer (some ⟨g14, 0, none⟩)), (46, .bool z68)] ∧ Mem w_ [(one g14, W18), (one g1, W2), (Fr, w)]) ?_ ?_
            · refine WC_region ?_
              refine WL_of (L_field rfl rfl fd44_2 ⟨g14, 0, none⟩ rfl ?_)
              refine WL_of (L_load1 rfl rfl Tryd.underlying3 rfl B19.el (M63.agree 0 rfl) 2 rfl (.int .i64 q5.Tries) rfl ?_)
              refine WL_of (L_bin rfl rfl (.int .i64 q5.Tries) (.int .i64 1) rfl rfl (.bool (decide ((q5.Tries : Int) < 1))) (B_lss _ _ _ _ q5.Tries 1) ?_)
              refine WL_of (L_move rfl rfl (.bool (decide ((q5.Tries : Int) < 1))) rfl ?_)
              by_cases c70 : (q5.Tries : Int) < 1
              · replace hz69 := ifP c70 hz69
                refine WL_known 42 true (vtrue c70) ?_
                refine WL_of (WO_off rfl rfl ?_)
                refine WL_of (WO_off rfl rfl ?_)
                refine WL_of (WO_off rfl rfl ?_)
                refine WL_of (L_pick rfl rfl true rfl (.bool true) rfl ?_)
                refine WL_nil ?_
                refine thenN ?_
                obtain rfl := someE hz69
                exact ⟨_, updL_same _ _ ⟨rfl, rfl, rfl, rfl, rfl, trivial⟩, M63⟩
              · replace hz69 := ifN c70 hz69
                refine WL_known 42 false (vfalse c70) ?_
                refine WL_of (L_field rfl rfl fd44_2 ⟨g14, 0, none⟩ rfl ?_)
                refine WL_of (L_load1 rfl rfl Tryd.underlying3 rfl B19.el (M63.agree 0 rfl) 2 rfl (.int .i64 q5.Tries) rfl ?_)
                refine WL_of (L_bin rfl rfl (.int .i64 q5.Tries) (.int .i64 1000) rfl rfl (.bool (decide ((1000 : Int) < q5.Tries))) (B_gtr _ _ _ _ q5.Tries 1000) ?_)
                refine WL_of (L_pick rfl rfl false rfl (.bool (decide ((1000 : Int) < q5.Tries))) rfl ?_)
                refine WL_nil ?_
                refine thenN ?_
                obtain rfl := someE hz69
                exact ⟨_, updL_same _ _ ⟨rfl, rfl, rfl, rfl, rfl, trivial⟩, M63⟩
            · rintro _ W71 ⟨ρ73, rfl, M72⟩
              refine WC_ifb rfl (fun c74 => ?_) (fun c74 => ?_)
              · replace H := ifP c74 H
                refine WC_seq ?_
                refine WC_region ?_
                refine WL_of (L_assign rfl rfl (.int .i64 34) rfl ?_)
                refine WL_nil ?_
                refine thenN ?_
                refine WC_ret ?_
                refine thenR ?_
                obtain rfl := someE H
                have M75 : Mem W71 [(Fr, w), (one g14, W18), (one g1, W2)] := M72.front [(one g14, W18), (one g1, W2)] rfl
                have M76 : Mem W71 [(Fr, w)] := M75.sub (List.prefix_append [(Fr, w)] [(one g14, W18), (one g1, W2)]).sublist
                refine retR [.int .i64 34] ⟨rfl, trivial⟩ ?_
                exact ⟨rfl, M76⟩
              · replace H := ifN (by rw [c74]; simp) H
                refine WC_skip ?_
                refine thenN ?_
                exact ⟨_, updL_same _ _ ⟨rfl, rfl, rfl, rfl, trivial⟩, M72, H⟩
        · rintro _ W53 ⟨ρ55, rfl, M54, H57⟩
          rw [annalsref15_step.j0] at H57
          refine WC_seq ?_
          obtain ⟨z77, hz78, H57⟩ := bindS H57
          refine WC_cut (fun ρ w_ => ∃  (ρ0 : Nat → Value), ρ = updL ρ0 [(4, .int .i64 0), (65, .bool z77)] ∧ Mem w_ [(one g14, W18), (one g1, W2), (Fr, w)]) ?_ ?_
          · refine WC_region ?_
            refine WL_of (L_loadN rfl rfl Tryd.underlying24 rfl B3.el (M54.agree 1 rfl) 0 rfl 3 sz24 [.string (sv a0.Name), .int .i64 a0.Pivot, .slice Aa0_0 a0.Steps.length ca0_0] rfl rfl ?_)
            refine WL_of (L_move rfl rfl (.int .i64 a1) rfl ?_)
            refine WL_of (L_field rfl rfl fd44_0 ⟨g14, 0, none⟩ rfl ?_)
            refine WL_of (L_load1 rfl rfl Tryd.underlying9 rfl B19.el (M54.agree 0 rfl) 0 rfl (.string (sv q5.Do)) rfl ?_)
            obtain ⟨r80, hr81, hz78⟩ := bindS hz78
            refine WL_of (L_call' rfl rfl cf70 [.agg #[.string (sv a0.Name), .int .i64 a0.Pivot, .slice Aa0_0 a0.Steps.length ca0_0], .int .i64 a1, .string (sv q5.Do)] rfl (annalsref15_used_ok k a0 Aa0_0 ca0_0 a1 q5.Do r80 _ (Un [(one g14, W18), (one g1, W2), (Fr, w)]) (hG.call M54 2 rfl) M54.frame ((ha0_0.agree (M54.agree 2 rfl) (M54.agree 2 rfl)).sub (Un.at 2 rfl) (Un.at 2 rfl)) hr81) ?_)
            rintro _ W82 ⟨rfl, M83⟩
            have M84 : Mem W82 [(one g14, W18), (one g1, W2), (Fr, w)] := M54.back (New := []) M83
            refine WL_of (L_move rfl rfl (.bool r80) rfl ?_)
            by_cases c85 : r80 = true
            · replace hz78 := ifP c85 hz78
              refine WL_known 52 true (wtrue c85) ?_
              refine WL_of (WO_off rfl rfl ?_)
              refine WL_of (WO_off rfl rfl ?_)
              refine WL_of (WO_off rfl rfl ?_)
              refine WL_of (WO_off rfl rfl ?_)
              refine WL_of (WO_off rfl rfl ?_)
              refine WL_of (L_pick rfl rfl true rfl (.bool true) rfl ?_)
              refine WL_of (L_move rfl rfl (.bool true) rfl ?_)
              refine WL_of (WO_off rfl rfl ?_)
              refine WL_of (WO_off rfl rfl ?_)
              refine WL_of (WO_off rfl rfl ?_)
              refine WL_of (WO_off rfl rfl ?_)
              refine WL_of (WO_off rfl rfl ?_)
              refine WL_of (L_pick rfl rfl true rfl (.bool true) rfl ?_)
              refine WL_nil ?_
              refine thenN ?_
              obtain rfl := someE hz78
              exact ⟨_, updL_same _ _ ⟨rfl, rfl, trivial⟩, M84⟩
            · replace hz78 := ifN c85 hz78
              refine WL_known 52 false (wfalse c85) ?_
              refine WL_of (L_loadN rfl rfl Tryd.underlying24 rfl B3.el (M84.agree 1 rfl) 0 rfl 3 sz24 [.string (sv a0.Name), .int .i64 a0.Pivot, .slice Aa0_0 a0.Steps.length ca0_0] rfl rfl ?_)
              refine WL_of (L_move rfl rfl (.int .i64 a1) rfl ?_)
              refine WL_of (L_field rfl rfl fd44_1 ⟨g14, 0, none⟩ rfl ?_)
              refine WL_of (L_load1 rfl rfl Tryd.underlying9 rfl B19.el (M84.agree 0 rfl) 1 rfl (.string (sv q5.Undo)) rfl ?_)
              obtain ⟨r87, hr88, hz78⟩ := bindS hz78
              refine WL_of (L_call' rfl rfl cf70 [.agg #[.string (sv a0.Name), .int .i64 a0.Pivot, .slice Aa0_0 a0.Steps.length ca0_0], .int .i64 a1, .string (sv q5.Undo)] rfl (annalsref15_used_ok k a0 Aa0_0 ca0_0 a1 q5.Undo r87 _ (Un [(one g14, W18), (one g1, W2), (Fr, w)]) (hG.call M84 2 rfl) M84.frame ((ha0_0.agree (M84.agree 2 rfl) (M84.agree 2 rfl)).sub (Un.at 2 rfl) (Un.at 2 rfl)) hr88) ?_)
              rintro _ W89 ⟨rfl, M90⟩
              have M91 : Mem W89 [(one g14, W18), (one g1, W2), (Fr, w)] := M84.back (New := []) M90
              refine WL_of (L_pick rfl rfl false rfl (.bool r87) rfl ?_)
              refine WL_of (L_move rfl rfl (.bool r87) rfl ?_)
              by_cases c92 : r87 = true
              · replace hz78 := ifP c92 hz78
                refine WL_known 59 true (wtrue c92) ?_
                refine WL_of (WO_off rfl rfl ?_)
                refine WL_of (WO_off rfl rfl ?_)
                refine WL_of (WO_off rfl rfl ?_)
                refine WL_of (WO_off rfl rfl ?_)
                refine WL_of (WO_off rfl rfl ?_)
                refine WL_of (L_pick rfl rfl true rfl (.bool true) rfl ?_)
                refine WL_nil ?_
                refine thenN ?_
                obtain rfl := someE hz78
                exact ⟨_, updL_same _ _ ⟨rfl, rfl, trivial⟩, M91⟩
              · replace hz78 := ifN c92 hz78
                refine WL_known 59 false (wfalse c92) ?_
                refine WL_of (L_field rfl rfl fd44_0 ⟨g14, 0, none⟩ rfl ?_)
                refine WL_of (L_load1 rfl rfl Tryd.underlying9 rfl B19.el (M91.agree 0 rfl) 0 rfl (.string (sv q5.Do)) rfl ?_)
                refine WL_of (L_field rfl rfl fd44_1 ⟨g14, 0, none⟩ rfl ?_)
                refine WL_of (L_load1 rfl rfl Tryd.underlying9 rfl B19.el (M91.agree 0 rfl) 1 rfl (.string (sv q5.Undo)) rfl ?_)
                refine WL_of (L_bin rfl rfl (.string (sv q5.Do)) (.string (sv q5.Undo)) rfl rfl (.bool (decide ((q5.Do : Str) = q5.Undo))) (B_seql _ _ _ q5.Do q5.Undo) ?_)
                refine WL_of (L_pick rfl rfl false rfl (.bool (decide ((q5.Do : Str) = q5.Undo))) rfl ?_)
                refine WL_nil ?_
                refine thenN ?_
                obtain rfl := someE hz78
                exact ⟨_, updL_same _ _ ⟨rfl, rfl, trivial⟩, M91⟩
          · rintro _ W93 ⟨ρ95, rfl, M94⟩
            refine WC_ifb rfl (fun c96 => ?_) (fun c96 => ?_)
            · replace H57 := ifP c96 H57
              refine WC_seq ?_
              refine WC_region ?_
              refine WL_of (L_assign rfl rfl (.int .i64 151) rfl ?_)
              refine WL_nil ?_
              refine thenN ?_
              refine WC_ret ?_
              refine thenR ?_
              obtain rfl := someE H57
              have M97 : Mem W93 [(Fr, w), (one g14, W18), (one g1, W2)] := M94.front [(one g14, W18), (one g1, W2)] rfl
              have M98 : Mem W93 [(Fr, w)] := M97.sub (List.prefix_append [(Fr, w)] [(one g14, W18), (one g1, W2)]).sublist
              refine retR [.int .i64 151] ⟨rfl, trivial⟩ ?_
              exact ⟨rfl, M98⟩
            · replace H57 := ifN (by rw [c96]; simp) H57
              refine WC_skip ?_
              refine thenN ?_
              refine WC_seq ?_
              refine WC_region ?_
              refine WL_of (L_assign rfl rfl (.int .i64 0) rfl ?_)
              refine WL_nil ?_
              refine thenN ?_
              refine WC_ret ?_
              obtain rfl := someE H57
              have M99 : Mem W93 [(Fr, w), (one g14, W18), (one g1, W2)] := M94.front [(one g14, W18), (one g1, W2)] rfl
              have M100 : Mem W93 [(Fr, w)] := M99.sub (List.prefix_append [(Fr, w)] [(one g14, W18), (one g1, W2)]).sublist
              refine retR [.int .i64 0] ⟨rfl, trivial⟩ ?_
              exact ⟨rfl, M100⟩

/-! ### annals/annalsref15.wrong: function 39 -/
def annalsref15_wrong.l0 : Nat → api_Plan → Int → Int → Int → Option (Int × Int)
  | 0, _, _, _, _ => none
  | k + 1, a0, x38, x39, x40 => (if (x40 : Int) < (a0.Steps.length : Int) then (annalsref15_step k a0 x40).bind (fun (r49 : Int) => (if (r49 : Int) ≠ 0 then (some (r49, x40)) else (annalsref15_wrong.l0 k a0 x38 x39 (wrap64 (x40 + 1))))) else (some (0, (-1))))
def annalsref15_wrong (k : Nat) (a0 : api_Plan) : Option (Int × Int) :=
  (annalsref15_label k a0.Name).bind (fun (r6 : Bool) => (if (!r6) = true then (some (35, (-1))) else ((if ((a0.Steps.length : Int) : Int) = 0 then (some true) else (some (decide ((32 : Int) < (a0.Steps.length : Int)))))).bind (fun (z14 : Bool) => (if z14 = true then (some (153, 32)) else ((if (a0.Pivot : Int) < 0 then (some true) else (some (decide (((a0.Steps.length : Int) : Int) < a0.Pivot))))).bind (fun (z23 : Bool) => (if z23 = true then (some (34, (-1))) else (annalsref15_wrong.l0 k a0 0 0 0)))))))
set_option maxRecDepth 100000 in
set_option maxHeartbeats 4000000 in
theorem annalsref15_wrong_ok (k : Nat) (a0 : api_Plan) (Aa0_0 : Option Addr) (ca0_0 : Nat) (r : Int × Int) (w : World) (Fr : BS) (hG : Gl Fr w) (hF : ∀ b, Fr b → b < w.heap.size) (ha0_0 : SR w Fr w Fr Aa0_0 ca0_0 a0.Steps) (H : annalsref15_wrong k a0 = some r) :
    CallsR Tryd.prog 39 #[.agg #[.string (sv a0.Name), .int .i64 a0.Pivot, .slice Aa0_0 a0.Steps.length ca0_0]] w (fun v w' => v = .tuple #[.int .i64 r.1, .int .i64 r.2] ∧ Mem w' [(Fr, w)]) := by
  have M0 := Mem.start w Fr hF
  refine enterZ (args := [.agg #[.string (sv a0.Name), .int .i64 a0.Pivot, .slice Aa0_0 a0.Steps.length ca0_0]]) [.tmp 2, .tmp 3] Tryd.func39 rfl rfl rfl rfl ?_
  unfold annalsref15_wrong at H
  refine WC_seq ?_
  refine WC_region ?_
  refine WL_of (L_box M0 rfl rfl (.agg #[.string (sv a0.Name), .int .i64 a0.Pivot, .slice Aa0_0 a0.Steps.length ca0_0]) rfl [.string (sv a0.Name), .int .i64 a0.Pivot, .slice Aa0_0 a0.Steps.length ca0_0] rfl ?_)
  intro g1 W2 B3 M4
  refine WL_of (L_assign rfl rfl (.int .i64 0) rfl ?_)
  refine WL_of (L_assign rfl rfl (.int .i64 0) rfl ?_)
  refine WL_nil ?_
  refine thenN ?_
  refine WC_seq ?_
  refine WC_seq ?_
  refine WC_region ?_
  refine WL_of (L_field rfl rfl fd24_0 ⟨g1, 0, none⟩ rfl ?_)
  refine WL_of (L_load1 rfl rfl Tryd.underlying9 rfl B3.el (M4.agree 0 rfl) 0 rfl (.string (sv a0.Name)) rfl ?_)
  obtain ⟨r6, hr7, H⟩ := bindS H
  refine WL_of (L_call' rfl rfl cf51 [.string (sv a0.Name)] rfl (annalsref15_label_ok k a0.Name r6 _ (Un [(one g1, W2), (Fr, w)]) (hG.call M4 1 rfl) M4.frame  hr7) ?_)
  rintro _ W8 ⟨rfl, M9⟩
  have M10 : Mem W8 [(one g1, W2), (Fr, w)] := M4.back (New := []) M9
  refine WL_of (L_not rfl rfl r6 rfl ?_)
  refine WL_nil ?_
  refine thenN ?_
  refine WC_ifb rfl (fun c11 => ?_) (fun c11 => ?_)
  · replace H := ifP c11 H
    refine WC_seq ?_
    refine WC_region ?_
    refine WL_of (L_assign rfl rfl (.int .i64 35) rfl ?_)
    refine WL_of (L_assign rfl rfl (.int .i64 (-1)) rfl ?_)
    refine WL_nil ?_
    refine thenN ?_
    refine WC_ret ?_
    refine thenR ?_
    obtain rfl := someE H
    have M12 : Mem W8 [(Fr, w), (one g1, W2)] := M10.front [(one g1, W2)] rfl
    have M13 : Mem W8 [(Fr, w)] := M12.sub (List.prefix_append [(Fr, w)] [(one g1, W2)]).sublist
    refine retR [.int .i64 35, .int .i64 (-1)] ⟨rfl, rfl, trivial⟩ ?_
    exact ⟨rfl, M13⟩
  · replace H := ifN (by rw [c11]; simp) H
    refine WC_skip ?_
    refine thenN ?_
    refine WC_seq ?_
    obtain ⟨z14, hz15, H⟩ := bindS H
    refine WC_cut (fun ρ w_ => ∃  (ρ0 : Nat → Value), ρ = updL ρ0 [(1, .pointer (some ⟨g1, 0, none⟩)), (2, .int .i64 0), (3, .int .i64 0), (19, .bool z14)] ∧ Mem w_ [(one g1, W2), (Fr, w)]) ?_ ?_
    · refine WC_region ?_
      refine WL_of (L_field rfl rfl fd24_2 ⟨g1, 0, none⟩ rfl ?_)
      refine WL_of (L_load1 rfl rfl Tryd.underlying22 rfl B3.el (M10.agree 0 rfl) 2 rfl (.slice Aa0_0 a0.Steps.length ca0_0) rfl ?_)
      refine WL_of (L_len rfl rfl (.slice Aa0_0 a0.Steps.length ca0_0) rfl (a0.Steps.length) (N_slice Tryd.underlying22 _ _ _) ?_)
      refine WL_of (L_bin rfl rfl (.int .i64 (a0.Steps.length : Int)) (.int .i64 0) rfl rfl (.bool (decide (((a0.Steps.length : Int) : Int) = 0))) (B_eql _ _ _ _ (a0.Steps.length : Int) 0) ?_)
      refine WL_of (L_move rfl rfl (.bool (decide (((a0.Steps.length : Int) : Int) = 0))) rfl ?_)
      by_cases c16 : ((a0.Steps.length : Int) : Int) = 0
      · replace hz15 := ifP c16 hz15
        refine WL_known 14 true (vtrue c16) ?_
        refine WL_of (WO_off rfl rfl ?_)
        refine WL_of (WO_off rfl rfl ?_)
        refine WL_of (WO_off rfl rfl ?_)
        refine WL_of (WO_off rfl rfl ?_)
        refine WL_of (L_pick rfl rfl true rfl (.bool true) rfl ?_)
        refine WL_nil ?_
        refine thenN ?_
        obtain rfl := someE hz15
        exact ⟨_, updL_same _ _ ⟨rfl, rfl, rfl, rfl, trivial⟩, M10⟩
      · replace hz15 := ifN c16 hz15
        refine WL_known 14 false (vfalse c16) ?_
        refine WL_of (L_field rfl rfl fd24_2 ⟨g1, 0, none⟩ rfl ?_)
        refine WL_of (L_load1 rfl rfl Tryd.underlying22 rfl B3.el (M10.agree 0 rfl) 2 rfl (.slice Aa0_0 a0.Steps.length ca0_0) rfl ?_)
        refine WL_of (L_len rfl rfl (.slice Aa0_0 a0.Steps.length ca0_0) rfl (a0.Steps.length) (N_slice Tryd.underlying22 _ _ _) ?_)
        refine WL_of (L_bin rfl rfl (.int .i64 (a0.Steps.length : Int)) (.int .i64 32) rfl rfl (.bool (decide ((32 : Int) < (a0.Steps.length : Int)))) (B_gtr _ _ _ _ (a0.Steps.length : Int) 32) ?_)
        refine WL_of (L_pick rfl rfl false rfl (.bool (decide ((32 : Int) < (a0.Steps.length : Int)))) rfl ?_)
        refine WL_nil ?_
        refine thenN ?_
        obtain rfl := someE hz15
        exact ⟨_, updL_same _ _ ⟨rfl, rfl, rfl, rfl, trivial⟩, M10⟩
    · rintro _ W17 ⟨ρ19, rfl, M18⟩
      refine WC_ifb rfl (fun c20 => ?_) (fun c20 => ?_)
      · replace H := ifP c20 H
        refine WC_seq ?_
        refine WC_region ?_
        refine WL_of (L_assign rfl rfl (.int .i64 153) rfl ?_)
        refine WL_of (L_assign rfl rfl (.int .i64 32) rfl ?_)
        refine WL_nil ?_
        refine thenN ?_
        refine WC_ret ?_
        refine thenR ?_
        obtain rfl := someE H
        have M21 : Mem W17 [(Fr, w), (one g1, W2)] := M18.front [(one g1, W2)] rfl
        have M22 : Mem W17 [(Fr, w)] := M21.sub (List.prefix_append [(Fr, w)] [(one g1, W2)]).sublist
        refine retR [.int .i64 153, .int .i64 32] ⟨rfl, rfl, trivial⟩ ?_
        exact ⟨rfl, M22⟩
      · replace H := ifN (by rw [c20]; simp) H
        refine WC_skip ?_
        refine thenN ?_
        refine WC_seq ?_
        obtain ⟨z23, hz24, H⟩ := bindS H
        refine WC_cut (fun ρ w_ => ∃  (ρ0 : Nat → Value), ρ = updL ρ0 [(1, .pointer (some ⟨g1, 0, none⟩)), (2, .int .i64 0), (3, .int .i64 0), (30, .bool z23)] ∧ Mem w_ [(one g1, W2), (Fr, w)]) ?_ ?_
        · refine WC_region ?_
          refine WL_of (L_field rfl rfl fd24_1 ⟨g1, 0, none⟩ rfl ?_)
          refine WL_of (L_load1 rfl rfl Tryd.underlying3 rfl B3.el (M18.agree 0 rfl) 1 rfl (.int .i64 a0.Pivot) rfl ?_)
          refine WL_of (L_bin rfl rfl (.int .i64 a0.Pivot) (.int .i64 0) rfl rfl (.bool (decide ((a0.Pivot : Int) < 0))) (B_lss _ _ _ _ a0.Pivot 0) ?_)
          refine WL_of (L_move rfl rfl (.bool (decide ((a0.Pivot : Int) < 0))) rfl ?_)
          by_cases c25 : (a0.Pivot : Int) < 0
          · replace hz24 := ifP c25 hz24
            refine WL_known 23 true (vtrue c25) ?_
            refine WL_of (WO_off rfl rfl ?_)
            refine WL_of (WO_off rfl rfl ?_)
            refine WL_of (WO_off rfl rfl ?_)
            refine WL_of (WO_off rfl rfl ?_)
            refine WL_of (WO_off rfl rfl ?_)
            refine WL_of (WO_off rfl rfl ?_)
            refine WL_of (L_pick rfl rfl true rfl (.bool true) rfl ?_)
            refine WL_nil ?_
            refine thenN ?_
            obtain rfl := someE hz24
            exact ⟨_, updL_same _ _ ⟨rfl, rfl, rfl, rfl, trivial⟩, M18⟩
          · replace hz24 := ifN c25 hz24
            refine WL_known 23 false (vfalse c25) ?_
            refine WL_of (L_field rfl rfl fd24_1 ⟨g1, 0, none⟩ rfl ?_)
            refine WL_of (L_load1 rfl rfl Tryd.underlying3 rfl B3.el (M18.agree 0 rfl) 1 rfl (.int .i64 a0.Pivot) rfl ?_)
            refine WL_of (L_field rfl rfl fd24_2 ⟨g1, 0, none⟩ rfl ?_)
            refine WL_of (L_load1 rfl rfl Tryd.underlying22 rfl B3.el (M18.agree 0 rfl) 2 rfl (.slice Aa0_0 a0.Steps.length ca0_0) rfl ?_)
            refine WL_of (L_len rfl rfl (.slice Aa0_0 a0.Steps.length ca0_0) rfl (a0.Steps.length) (N_slice Tryd.underlying22 _ _ _) ?_)
            refine WL_of (L_bin rfl rfl (.int .i64 a0.Pivot) (.int .i64 (a0.Steps.length : Int)) rfl rfl (.bool (decide (((a0.Steps.length : Int) : Int) < a0.Pivot))) (B_gtr _ _ _ _ a0.Pivot (a0.Steps.length : Int)) ?_)
            refine WL_of (L_pick rfl rfl false rfl (.bool (decide (((a0.Steps.length : Int) : Int) < a0.Pivot))) rfl ?_)
            refine WL_nil ?_
            refine thenN ?_
            obtain rfl := someE hz24
            exact ⟨_, updL_same _ _ ⟨rfl, rfl, rfl, rfl, trivial⟩, M18⟩
        · rintro _ W26 ⟨ρ28, rfl, M27⟩
          refine WC_ifb rfl (fun c29 => ?_) (fun c29 => ?_)
          · replace H := ifP c29 H
            refine WC_seq ?_
            refine WC_region ?_
            refine WL_of (L_assign rfl rfl (.int .i64 34) rfl ?_)
            refine WL_of (L_assign rfl rfl (.int .i64 (-1)) rfl ?_)
            refine WL_nil ?_
            refine thenN ?_
            refine WC_ret ?_
            refine thenR ?_
            obtain rfl := someE H
            have M30 : Mem W26 [(Fr, w), (one g1, W2)] := M27.front [(one g1, W2)] rfl
            have M31 : Mem W26 [(Fr, w)] := M30.sub (List.prefix_append [(Fr, w)] [(one g1, W2)]).sublist
            refine retR [.int .i64 34, .int .i64 (-1)] ⟨rfl, rfl, trivial⟩ ?_
            exact ⟨rfl, M31⟩
          · replace H := ifN (by rw [c29]; simp) H
            refine WC_skip ?_
            refine thenN ?_
            refine WC_seq ?_
            refine WC_seq ?_
            refine WC_region ?_
            refine WL_of (L_assign rfl rfl (.int .i64 0) rfl ?_)
            refine WL_nil ?_
            refine thenN ?_
            refine WC_block ?_
            refine WC_loop (fun k45 ρ w_ => ∃ (x38 : Int) (x39 : Int) (x40 : Int) (ρ0 : Nat → Value), ρ = updL ρ0 [(1, .pointer (some ⟨g1, 0, none⟩)), (2, .int .i64 x38), (3, .int .i64 x39), (4, .int .i64 x40)] ∧ Mem w_ [(one g1, W2), (Fr, w)] ∧ k45 ≤ k ∧ annalsref15_wrong.l0 k45 a0 x38 x39 x40 = some r) k ?_ ?_
            · exact ⟨0, 0, 0, _, updL_same _ _ ⟨rfl, rfl, rfl, rfl, trivial⟩, M27, (Nat.le_refl _), H⟩
            · rintro k45 _ W41 ⟨x38, x39, x40, ρ43, rfl, M42, hk46, H44⟩
              cases k45 with
              | zero => rw [annalsref15_wrong.l0] at H44; cases H44
              | succ k45 =>
              rw [annalsref15_wrong.l0] at H44
              refine WC_seq ?_
              refine WC_seq ?_
              refine WC_region ?_
              refine WL_of (L_move rfl rfl (.int .i64 x40) rfl ?_)
              refine WL_of (L_field rfl rfl fd24_2 ⟨g1, 0, none⟩ rfl ?_)
              refine WL_of (L_load1 rfl rfl Tryd.underlying22 rfl B3.el (M42.agree 0 rfl) 2 rfl (.slice Aa0_0 a0.Steps.length ca0_0) rfl ?_)
              refine WL_of (L_len rfl rfl (.slice Aa0_0 a0.Steps.length ca0_0) rfl (a0.Steps.length) (N_slice Tryd.underlying22 _ _ _) ?_)
              refine WL_of (L_bin rfl rfl (.int .i64 x40) (.int .i64 (a0.Steps.length : Int)) rfl rfl (.bool (decide ((x40 : Int) < (a0.Steps.length : Int)))) (B_lss _ _ _ _ x40 (a0.Steps.length : Int)) ?_)
              refine WL_nil ?_
              refine thenN ?_
              refine WC_if (p := (x40 : Int) < (a0.Steps.length : Int)) rfl (fun c47 => ?_) (fun c47 => ?_)
              · replace H44 := ifP c47 H44
                refine WC_skip ?_
                refine thenN ?_
                refine WC_seq ?_
                refine WC_block ?_
                refine WC_seq ?_
                refine WC_region ?_
                refine WL_of (L_loadN rfl rfl Tryd.underlying24 rfl B3.el (M42.agree 0 rfl) 0 rfl 3 sz24 [.string (sv a0.Name), .int .i64 a0.Pivot, .slice Aa0_0 a0.Steps.length ca0_0] rfl rfl ?_)
                refine WL_of (L_move rfl rfl (.int .i64 x40) rfl ?_)
                obtain ⟨r49, hr50, H44⟩ := bindS H44
                refine WL_of (L_call' rfl rfl cf52 [.agg #[.string (sv a0.Name), .int .i64 a0.Pivot, .slice Aa0_0 a0.Steps.length ca0_0], .int .i64 x40] rfl (annalsref15_step_ok k45 a0 Aa0_0 ca0_0 x40 r49 _ (Un [(one g1, W2), (Fr, w)]) (hG.call M42 1 rfl) M42.frame ((ha0_0.agree (M42.agree 1 rfl) (M42.agree 1 rfl)).sub (Un.at 1 rfl) (Un.at 1 rfl)) hr50) ?_)
                rintro _ W51 ⟨rfl, M52⟩
                have M53 : Mem W51 [(one g1, W2), (Fr, w)] := M42.back (New := []) M52
                refine WL_of (L_assign rfl rfl (.int .i64 r49) rfl ?_)
                refine WL_nil ?_
                refine thenN ?_
                refine WC_seq ?_
                refine WC_region ?_
                refine WL_of (L_move rfl rfl (.int .i64 r49) rfl ?_)
                refine WL_of (L_bin rfl rfl (.int .i64 r49) (.int .i64 0) rfl rfl (.bool (decide ((r49 : Int) ≠ 0))) (B_neq _ _ _ _ r49 0) ?_)
                refine WL_nil ?_
                refine thenN ?_
                refine WC_if (p := (r49 : Int) ≠ 0) rfl (fun c54 => ?_) (fun c54 => ?_)
                · replace H44 := ifP c54 H44
                  refine WC_seq ?_
                  refine WC_region ?_
                  refine WL_of (L_move rfl rfl (.int .i64 r49) rfl ?_)
                  refine WL_of (L_move rfl rfl (.int .i64 x40) rfl ?_)
                  refine WL_of (L_assign rfl rfl (.int .i64 r49) rfl ?_)
                  refine WL_of (L_assign rfl rfl (.int .i64 x40) rfl ?_)
                  refine WL_nil ?_
                  refine thenN ?_
                  refine WC_ret ?_
                  refine blkR ?_
                  refine thenR ?_
                  refine thenR ?_
                  refine blkR ?_
                  refine thenR ?_
                  obtain rfl := someE H44
                  have M55 : Mem W51 [(Fr, w), (one g1, W2)] := M53.front [(one g1, W2)] rfl
                  have M56 : Mem W51 [(Fr, w)] := M55.sub (List.prefix_append [(Fr, w)] [(one g1, W2)]).sublist
                  refine retR [.int .i64 r49, .int .i64 x40] ⟨rfl, rfl, trivial⟩ ?_
                  exact ⟨rfl, M56⟩
                · replace H44 := ifN c54 H44
                  refine WC_skip ?_
                  refine blkN ?_
                  refine thenN ?_
                  refine WC_region ?_
                  refine WL_of (L_move rfl rfl (.int .i64 x40) rfl ?_)
                  refine WL_of (L_bin rfl rfl (.int .i64 x40) (.int .i64 1) rfl rfl (.int .i64 (wrap64 (x40 + 1))) (B_add _ _ _ x40 1) ?_)
                  refine WL_of (L_assign rfl rfl (.int .i64 (wrap64 (x40 + 1))) rfl ?_)
                  refine WL_nil ?_
                  refine thenN ?_
                  exact ⟨k45, by omega, x38, x39, wrap64 (x40 + 1), _, updL_same _ _ ⟨rfl, rfl, rfl, rfl, trivial⟩, M53, (by omega), H44⟩
              · replace H44 := ifN c47 H44
                refine WC_exit ?_
                refine thenE ?_
                refine thenE ?_
                refine blkX ?_
                refine thenN ?_
                refine WC_seq ?_
                refine WC_region ?_
                refine WL_of (L_assign rfl rfl (.int .i64 0) rfl ?_)
                refine WL_of (L_assign rfl rfl (.int .i64 (-1)) rfl ?_)
                refine WL_nil ?_
                refine thenN ?_
                refine WC_ret ?_
                obtain rfl := someE H44
                have M57 : Mem W41 [(Fr, w), (one g1, W2)] := M42.front [(one g1, W2)] rfl
                have M58 : Mem W41 [(Fr, w)] := M57.sub (List.prefix_append [(Fr, w)] [(one g1, W2)]).sublist
                refine retR [.int .i64 0, .int .i64 (-1)] ⟨rfl, rfl, trivial⟩ ?_
                exact ⟨rfl, M58⟩

/-! ### annals/annalsref15.Check: function 26 -/
def annalsref15_Check (k : Nat) (a0 : api_Plan) : Option Int :=
  (annalsref15_wrong k a0).bind (fun (r6 : (Int × Int)) => (some r6.1))
set_option maxRecDepth 100000 in
set_option maxHeartbeats 4000000 in
theorem annalsref15_Check_ok (k : Nat) (a0 : api_Plan) (Aa0_0 : Option Addr) (ca0_0 : Nat) (r : Int) (w : World) (Fr : BS) (hG : Gl Fr w) (hF : ∀ b, Fr b → b < w.heap.size) (ha0_0 : SR w Fr w Fr Aa0_0 ca0_0 a0.Steps) (H : annalsref15_Check k a0 = some r) :
    CallsR Tryd.prog 26 #[.agg #[.string (sv a0.Name), .int .i64 a0.Pivot, .slice Aa0_0 a0.Steps.length ca0_0]] w (fun v w' => v = .int .i64 r ∧ Mem w' [(Fr, w)]) := by
  have M0 := Mem.start w Fr hF
  refine enterZ (args := [.agg #[.string (sv a0.Name), .int .i64 a0.Pivot, .slice Aa0_0 a0.Steps.length ca0_0]]) [.tmp 2] Tryd.func26 rfl rfl rfl rfl ?_
  unfold annalsref15_Check at H
  refine WC_seq ?_
  refine WC_region ?_
  refine WL_of (L_box M0 rfl rfl (.agg #[.string (sv a0.Name), .int .i64 a0.Pivot, .slice Aa0_0 a0.Steps.length ca0_0]) rfl [.string (sv a0.Name), .int .i64 a0.Pivot, .slice Aa0_0 a0.Steps.length ca0_0] rfl ?_)
  intro g1 W2 B3 M4
  refine WL_of (L_assign rfl rfl (.int .i64 0) rfl ?_)
  refine WL_nil ?_
  refine thenN ?_
  refine WC_seq ?_
  refine WC_region ?_
  refine WL_of (L_loadN rfl rfl Tryd.underlying24 rfl B3.el (M4.agree 0 rfl) 0 rfl 3 sz24 [.string (sv a0.Name), .int .i64 a0.Pivot, .slice Aa0_0 a0.Steps.length ca0_0] rfl rfl ?_)
  obtain ⟨r6, hr7, H⟩ := bindS H
  refine WL_of (L_call' rfl rfl cf39 [.agg #[.string (sv a0.Name), .int .i64 a0.Pivot, .slice Aa0_0 a0.Steps.length ca0_0]] rfl (annalsref15_wrong_ok k a0 Aa0_0 ca0_0 r6 _ (Un [(one g1, W2), (Fr, w)]) (hG.call M4 1 rfl) M4.frame ((ha0_0.agree (M4.agree 1 rfl) (M4.agree 1 rfl)).sub (Un.at 1 rfl) (Un.at 1 rfl)) hr7) ?_)
  rintro _ W8 ⟨rfl, M9⟩
  have M10 : Mem W8 [(one g1, W2), (Fr, w)] := M4.back (New := []) M9
  refine WL_of (L_move rfl rfl (.tuple #[.int .i64 r6.1, .int .i64 r6.2]) rfl ?_)
  refine WL_of (L_extract rfl rfl [.int .i64 r6.1, .int .i64 r6.2] rfl (.int .i64 r6.1) rfl ?_)
  refine WL_of (L_extract rfl rfl [.int .i64 r6.1, .int .i64 r6.2] rfl (.int .i64 r6.2) rfl ?_)
  refine WL_of (L_assign rfl rfl (.int .i64 r6.1) rfl ?_)
  refine WL_of (L_assign rfl rfl (.int .i64 r6.2) rfl ?_)
  refine WL_nil ?_
  refine thenN ?_
  refine WC_seq ?_
  refine WC_region ?_
  refine WL_of (L_move rfl rfl (.int .i64 r6.1) rfl ?_)
  refine WL_of (L_assign rfl rfl (.int .i64 r6.1) rfl ?_)
  refine WL_nil ?_
  refine thenN ?_
  refine WC_ret ?_
  obtain rfl := someE H
  have M11 : Mem W8 [(Fr, w), (one g1, W2)] := M10.front [(one g1, W2)] rfl
  have M12 : Mem W8 [(Fr, w)] := M11.sub (List.prefix_append [(Fr, w)] [(one g1, W2)]).sublist
  refine retR [.int .i64 r6.1] ⟨rfl, trivial⟩ ?_
  exact ⟨rfl, M12⟩

/-! ### annals/annalslaw15.firsts: function 17 -/
def annalslaw15_firsts (k : Nat)  : Option Bool :=
  (plan_Check k (⟨(lit [97]), 0, ([(⟨(lit [33]), (lit []), 1⟩ : api_Step)] : List api_Step)⟩ : api_Plan)).bind (fun (r26 : Int) => (annalslaw15_num r26).bind (fun (r32 : Int) => (plan_Check k (⟨(lit [97]), 0, ([(⟨(lit [98]), (lit [99]), 1⟩ : api_Step), (⟨(lit [98]), (lit [100]), 0⟩ : api_Step)] : List api_Step)⟩ : api_Plan)).bind (fun (r40 : Int) => (annalslaw15_num r40).bind (fun (r46 : Int) => ((if (0 : Int) < r32 then (if (0 : Int) < r46 then (annalsref15_Check k (⟨(lit [97]), 0, ([(⟨(lit [33]), (lit []), 1⟩ : api_Step)] : List api_Step)⟩ : api_Plan)).bind (fun (r58 : Int) => (if (r32 : Int) = r58 then (annalsref15_Check k (⟨(lit [97]), 0, ([(⟨(lit [98]), (lit [99]), 1⟩ : api_Step), (⟨(lit [98]), (lit [100]), 0⟩ : api_Step)] : List api_Step)⟩ : api_Plan)).bind (fun (r67 : Int) => (some (decide ((r46 : Int) = r67)))) else (some false))) else (some false)) else (some false))).bind (fun (z51 : Bool) => (some z51))))))
set_option maxRecDepth 100000 in
set_option maxHeartbeats 4000000 in
theorem annalslaw15_firsts_ok (k : Nat)  (r : Bool) (w : World) (Fr : BS) (hG : Gl Fr w) (hF : ∀ b, Fr b → b < w.heap.size)  (H : annalslaw15_firsts k = some r) :
    CallsR Tryd.prog 17 #[] w (fun v w' => v = .bool r ∧ Mem w' [(Fr, w)]) := by
  have M0 := Mem.start w Fr hF
  refine enterZ (args := []) [.tmp 0] Tryd.func17 rfl rfl rfl rfl ?_
  unfold annalslaw15_firsts at H
  refine WC_seq ?_
  refine WC_region ?_
  refine WL_of (L_assign rfl rfl (.bool false) rfl ?_)
  refine WL_nil ?_
  refine thenN ?_
  refine WC_seq ?_
  refine WC_region ?_
  refine WL_of (L_build' rfl rfl [(0, .string (sv (lit [33]))), (2, .int .i64 1)] rfl Tryd.underlying44 zr44 pl44 [.string (sv (lit [33])), .string (sv (lit [])), .int .i64 1] rfl ?_)
  refine WL_of (L_buildSlice' M0 rfl rfl [(0, .agg #[.string (sv (lit [33])), .string (sv (lit [])), .int .i64 1])] rfl Tryd.underlying22 sz44 zr44 rfl rfl [.string (sv (lit [33])), .string (sv (lit [])), .int .i64 1] (by kernel_rfl) ?_)
  intro g1 W2 B3 M4
  refine WL_of (L_build' rfl rfl [(0, .string (sv (lit [97]))), (2, .slice (some ⟨g1, 0, none⟩) 1 1)] rfl Tryd.underlying24 zr24 pl24 [.string (sv (lit [97])), .int .i64 0, .slice (some ⟨g1, 0, none⟩) 1 1] rfl ?_)
  refine WL_of (L_alloc M4 rfl rfl zr24 [.string (sv (lit [])), .int .i64 0, .slice none 0 0] rfl ?_)
  intro g5 W6 B7 M8
  refine WL_of (L_store M8 rfl (.agg #[.string (sv (lit [97])), .int .i64 0, .slice (some ⟨g1, 0, none⟩) 1 1]) rfl [.string (sv (lit [97])), .int .i64 0, .slice (some ⟨g1, 0, none⟩) 1 1] rfl 3 sz24 rfl rfl rfl B7 rfl rfl [.string (sv (lit [97])), .int .i64 0, .slice (some ⟨g1, 0, none⟩) 1 1] rfl ?_)
  intro W9 B10 M11
  refine WL_nil ?_
  refine thenN ?_
  refine WC_seq ?_
  refine WC_region ?_
  refine WL_of (L_build' rfl rfl [(0, .string (sv (lit [98]))), (1, .string (sv (lit [99]))), (2, .int .i64 1)] rfl Tryd.underlying44 zr44 pl44 [.string (sv (lit [98])), .string (sv (lit [99])), .int .i64 1] rfl ?_)
  refine WL_of (L_build' rfl rfl [(0, .string (sv (lit [98]))), (1, .string (sv (lit [100])))] rfl Tryd.underlying44 zr44 pl44 [.string (sv (lit [98])), .string (sv (lit [100])), .int .i64 0] rfl ?_)
  refine WL_of (L_buildSlice' M11 rfl rfl [(0, .agg #[.string (sv (lit [98])), .string (sv (lit [99])), .int .i64 1]), (1, .agg #[.string (sv (lit [98])), .string (sv (lit [100])), .int .i64 0])] rfl Tryd.underlying22 sz44 zr44 rfl rfl [.string (sv (lit [98])), .string (sv (lit [99])), .int .i64 1, .string (sv (lit [98])), .string (sv (lit [100])), .int .i64 0] (by kernel_rfl) ?_)
  intro g12 W13 B14 M15
  refine WL_of (L_build' rfl rfl [(0, .string (sv (lit [97]))), (2, .slice (some ⟨g12, 0, none⟩) 2 2)] rfl Tryd.underlying24 zr24 pl24 [.string (sv (lit [97])), .int .i64 0, .slice (some ⟨g12, 0, none⟩) 2 2] rfl ?_)
  refine WL_of (L_alloc M15 rfl rfl zr24 [.string (sv (lit [])), .int .i64 0, .slice none 0 0] rfl ?_)
  intro g16 W17 B18 M19
  refine WL_of (L_store M19 rfl (.agg #[.string (sv (lit [97])), .int .i64 0, .slice (some ⟨g12, 0, none⟩) 2 2]) rfl [.string (sv (lit [97])), .int .i64 0, .slice (some ⟨g12, 0, none⟩) 2 2] rfl 3 sz24 rfl rfl rfl B18 rfl rfl [.string (sv (lit [97])), .int .i64 0, .slice (some ⟨g12, 0, none⟩) 2 2] rfl ?_)
  intro W20 B21 M22
  refine WL_nil ?_
  refine thenN ?_
  refine WC_seq ?_
  refine WC_region ?_
  refine WL_of (L_loadN rfl rfl Tryd.underlying24 rfl B10.el (M22.agree 2 rfl) 0 rfl 3 sz24 [.string (sv (lit [97])), .int .i64 0, .slice (some ⟨g1, 0, none⟩) 1 1] rfl rfl ?_)
  have ho23 : OR W2 (one g1) W2 none0 44 (some ⟨g1, 0, none⟩) 1 ([(⟨(lit [33]), (lit []), 1⟩ : api_Step)] : List api_Step) := OR.lit (xs := ([(⟨(lit [33]), (lit []), 1⟩ : api_Step)] : List api_Step)) (css := [[.string (sv (lit [33])), .string (sv (lit [])), .int .i64 1]]) B3 (⟨rfl, trivial⟩) rfl (Nat.le_of_ble_eq_true rfl)
  have hs24 := ho23.sr
  obtain ⟨r26, hr27, H⟩ := bindS H
  refine WL_of (L_call' rfl rfl cf9 [.agg #[.string (sv (lit [97])), .int .i64 0, .slice (some ⟨g1, 0, none⟩) 1 1]] rfl (plan_Check_ok k (⟨(lit [97]), 0, ([(⟨(lit [33]), (lit []), 1⟩ : api_Step)] : List api_Step)⟩ : api_Plan) (some ⟨g1, 0, none⟩) 1 r26 _ (Un [(one g16, W20), (one g12, W13), (one g5, W9), (one g1, W2), (Fr, w)]) (hG.call M22 4 rfl) M22.frame ((hs24.agree (M22.agree 3 rfl) (fun _ h => h.elim)).sub (Un.at 3 rfl) (fun _ h => h.elim)) hr27) ?_)
  rintro _ W28 ⟨rfl, M29⟩
  have M30 : Mem W28 [(one g16, W20), (one g12, W13), (one g5, W9), (one g1, W2), (Fr, w)] := M22.back (New := []) M29
  obtain ⟨r32, hr33, H⟩ := bindS H
  refine WL_of (L_call' rfl rfl cf8 [.int .i64 r26] rfl (annalslaw15_num_ok r26 r32 _ (Un [(one g16, W20), (one g12, W13), (one g5, W9), (one g1, W2), (Fr, w)]) (hG.call M30 4 rfl) M30.frame  hr33) ?_)
  rintro _ W34 ⟨rfl, M35⟩
  have M36 : Mem W34 [(one g16, W20), (one g12, W13), (one g5, W9), (one g1, W2), (Fr, w)] := M30.back (New := []) M35
  refine WL_of (L_assign rfl rfl (.int .i64 r32) rfl ?_)
  refine WL_nil ?_
  refine thenN ?_
  refine WC_seq ?_
  refine WC_region ?_
  refine WL_of (L_loadN rfl rfl Tryd.underlying24 rfl B21.el (M36.agree 0 rfl) 0 rfl 3 sz24 [.string (sv (lit [97])), .int .i64 0, .slice (some ⟨g12, 0, none⟩) 2 2] rfl rfl ?_)
  have ho37 : OR W13 (one g12) W13 none0 44 (some ⟨g12, 0, none⟩) 2 ([(⟨(lit [98]), (lit [99]), 1⟩ : api_Step), (⟨(lit [98]), (lit [100]), 0⟩ : api_Step)] : List api_Step) := OR.lit (xs := ([(⟨(lit [98]), (lit [99]), 1⟩ : api_Step), (⟨(lit [98]), (lit [100]), 0⟩ : api_Step)] : List api_Step)) (css := [[.string (sv (lit [98])), .string (sv (lit [99])), .int .i64 1], [.string (sv (lit [98])), .string (sv (lit [100])), .int .i64 0]]) B14 (⟨rfl, ⟨rfl, trivial⟩⟩) rfl (Nat.le_of_ble_eq_true rfl)
  have hs38 := ho37.sr
  obtain ⟨r40, hr41, H⟩ := bindS H
  refine WL_of (L_call' rfl rfl cf9 [.agg #[.string (sv (lit [97])), .int .i64 0, .slice (some ⟨g12, 0, none⟩) 2 2]] rfl (plan_Check_ok k (⟨(lit [97]), 0, ([(⟨(lit [98]), (lit [99]), 1⟩ : api_Step), (⟨(lit [98]), (lit [100]), 0⟩ : api_Step)] : List api_Step)⟩ : api_Plan) (some ⟨g12, 0, none⟩) 2 r40 _ (Un [(one g16, W20), (one g12, W13), (one g5, W9), (one g1, W2), (Fr, w)]) (hG.call M36 4 rfl) M36.frame ((hs38.agree (M36.agree 1 rfl) (fun _ h => h.elim)).sub (Un.at 1 rfl) (fun _ h => h.elim)) hr41) ?_)
  rintro _ W42 ⟨rfl, M43⟩
  have M44 : Mem W42 [(one g16, W20), (one g12, W13), (one g5, W9), (one g1, W2), (Fr, w)] := M36.back (New := []) M43
  obtain ⟨r46, hr47, H⟩ := bindS H
  refine WL_of (L_call' rfl rfl cf8 [.int .i64 r40] rfl (annalslaw15_num_ok r40 r46 _ (Un [(one g16, W20), (one g12, W13), (one g5, W9), (one g1, W2), (Fr, w)]) (hG.call M44 4 rfl) M44.frame  hr47) ?_)
  rintro _ W48 ⟨rfl, M49⟩
  have M50 : Mem W48 [(one g16, W20), (one g12, W13), (one g5, W9), (one g1, W2), (Fr, w)] := M44.back (New := []) M49
  refine WL_of (L_assign rfl rfl (.int .i64 r46) rfl ?_)
  refine WL_nil ?_
  refine thenN ?_
  obtain ⟨z51, hz52, H⟩ := bindS H
  refine WC_cut (fun ρ w_ => ∃  (ρ0 : Nat → Value), ρ = updL ρ0 [(0, .bool z51)] ∧ Mem w_ [(one g16, W20), (one g12, W13), (one g5, W9), (one g1, W2), (Fr, w)]) ?_ ?_
  · refine WC_region ?_
    refine WL_of (L_move rfl rfl (.int .i64 r32) rfl ?_)
    refine WL_of (L_bin rfl rfl (.int .i64 r32) (.int .i64 0) rfl rfl (.bool (decide ((0 : Int) < r32))) (B_gtr _ _ _ _ r32 0) ?_)
    refine WL_of (L_move rfl rfl (.bool (decide ((0 : Int) < r32))) rfl ?_)
    by_cases c53 : (0 : Int) < r32
    · replace hz52 := ifP c53 hz52
      refine WL_known 20 true (vtrue c53) ?_
      refine WL_of (L_move rfl rfl (.int .i64 r46) rfl ?_)
      refine WL_of (L_bin rfl rfl (.int .i64 r46) (.int .i64 0) rfl rfl (.bool (decide ((0 : Int) < r46))) (B_gtr _ _ _ _ r46 0) ?_)
      refine WL_of (L_pick rfl rfl true rfl (.bool (decide ((0 : Int) < r46))) rfl ?_)
      refine WL_of (L_move rfl rfl (.bool (decide ((0 : Int) < r46))) rfl ?_)
      by_cases c54 : (0 : Int) < r46
      · replace hz52 := ifP c54 hz52
        refine WL_known 24 true (vtrue c54) ?_
        refine WL_of (L_move rfl rfl (.int .i64 r32) rfl ?_)
        refine WL_of (L_loadN rfl rfl Tryd.underlying24 rfl B10.el (M50.agree 2 rfl) 0 rfl 3 sz24 [.string (sv (lit [97])), .int .i64 0, .slice (some ⟨g1, 0, none⟩) 1 1] rfl rfl ?_)
        have ho55 : OR W2 (one g1) W2 none0 44 (some ⟨g1, 0, none⟩) 1 ([(⟨(lit [33]), (lit []), 1⟩ : api_Step)] : List api_Step) := OR.lit (xs := ([(⟨(lit [33]), (lit []), 1⟩ : api_Step)] : List api_Step)) (css := [[.string (sv (lit [33])), .string (sv (lit [])), .int .i64 1]]) B3 (⟨rfl, trivial⟩) rfl (Nat.le_of_ble_eq_true rfl)
        have hs56 := ho55.sr
        obtain ⟨r58, hr59, hz52⟩ := bindS hz52
        refine WL_of (L_call' rfl rfl cf26 [.agg #[.string (sv (lit [97])), .int .i64 0, .slice (some ⟨g1, 0, none⟩) 1 1]] rfl (annalsref15_Check_ok k (⟨(lit [97]), 0, ([(⟨(lit [33]), (lit []), 1⟩ : api_Step)] : List api_Step)⟩ : api_Plan) (some ⟨g1, 0, none⟩) 1 r58 _ (Un [(one g16, W20), (one g12, W13), (one g5, W9), (one g1, W2), (Fr, w)]) (hG.call M50 4 rfl) M50.frame ((hs56.agree (M50.agree 3 rfl) (fun _ h => h.elim)).sub (Un.at 3 rfl) (fun _ h => h.elim)) hr59) ?_)
        rintro _ W60 ⟨rfl, M61⟩
        have M62 : Mem W60 [(one g16, W20), (one g12, W13), (one g5, W9), (one g1, W2), (Fr, w)] := M50.back (New := []) M61
        refine WL_of (L_bin rfl rfl (.int .i64 r32) (.int .i64 r58) rfl rfl (.bool (decide ((r32 : Int) = r58))) (B_eql _ _ _ _ r32 r58) ?_)
        refine WL_of (L_pick rfl rfl true rfl (.bool (decide ((r32 : Int) = r58))) rfl ?_)
        refine WL_of (L_move rfl rfl (.bool (decide ((r32 : Int) = r58))) rfl ?_)
        by_cases c63 : (r32 : Int) = r58
        · replace hz52 := ifP c63 hz52
          refine WL_known 30 true (vtrue c63) ?_
          refine WL_of (L_move rfl rfl (.int .i64 r46) rfl ?_)
          refine WL_of (L_loadN rfl rfl Tryd.underlying24 rfl B21.el (M62.agree 0 rfl) 0 rfl 3 sz24 [.string (sv (lit [97])), .int .i64 0, .slice (some ⟨g12, 0, none⟩) 2 2] rfl rfl ?_)
          have ho64 : OR W13 (one g12) W13 none0 44 (some ⟨g12, 0, none⟩) 2 ([(⟨(lit [98]), (lit [99]), 1⟩ : api_Step), (⟨(lit [98]), (lit [100]), 0⟩ : api_Step)] : List api_Step) := OR.lit (xs := ([(⟨(lit [98]), (lit [99]), 1⟩ : api_Step), (⟨(lit [98]), (lit [100]), 0⟩ : api_Step)] : List api_Step)) (css := [[.string (sv (lit [98])), .string (sv (lit [99])), .int .i64 1], [.string (sv (lit [98])), .string (sv (lit [100])), .int .i64 0]]) B14 (⟨rfl, ⟨rfl, trivial⟩⟩) rfl (Nat.le_of_ble_eq_true rfl)
          have hs65 := ho64.sr
          obtain ⟨r67, hr68, hz52⟩ := bindS hz52
          refine WL_of (L_call' rfl rfl cf26 [.agg #[.string (sv (lit [97])), .int .i64 0, .slice (some ⟨g12, 0, none⟩) 2 2]] rfl (annalsref15_Check_ok k (⟨(lit [97]), 0, ([(⟨(lit [98]), (lit [99]), 1⟩ : api_Step), (⟨(lit [98]), (lit [100]), 0⟩ : api_Step)] : List api_Step)⟩ : api_Plan) (some ⟨g12, 0, none⟩) 2 r67 _ (Un [(one g16, W20), (one g12, W13), (one g5, W9), (one g1, W2), (Fr, w)]) (hG.call M62 4 rfl) M62.frame ((hs65.agree (M62.agree 1 rfl) (fun _ h => h.elim)).sub (Un.at 1 rfl) (fun _ h => h.elim)) hr68) ?_)
          rintro _ W69 ⟨rfl, M70⟩
          have M71 : Mem W69 [(one g16, W20), (one g12, W13), (one g5, W9), (one g1, W2), (Fr, w)] := M62.back (New := []) M70
          refine WL_of (L_bin rfl rfl (.int .i64 r46) (.int .i64 r67) rfl rfl (.bool (decide ((r46 : Int) = r67))) (B_eql _ _ _ _ r46 r67) ?_)
          refine WL_of (L_pick rfl rfl true rfl (.bool (decide ((r46 : Int) = r67))) rfl ?_)
          refine WL_of (L_assign rfl rfl (.bool (decide ((r46 : Int) = r67))) rfl ?_)
          refine WL_nil ?_
          refine thenN ?_
          obtain rfl := someE hz52
          exact ⟨_, updL_same _ _ ⟨rfl, trivial⟩, M71⟩
        · replace hz52 := ifN c63 hz52
          refine WL_known 30 false (vfalse c63) ?_
          refine WL_of (WO_off rfl rfl ?_)
          refine WL_of (WO_off rfl rfl ?_)
          refine WL_of (WO_off rfl rfl ?_)
          refine WL_of (WO_off rfl rfl ?_)
          refine WL_of (L_pick rfl rfl false rfl (.bool false) rfl ?_)
          refine WL_of (L_assign rfl rfl (.bool false) rfl ?_)
          refine WL_nil ?_
          refine thenN ?_
          obtain rfl := someE hz52
          exact ⟨_, updL_same _ _ ⟨rfl, trivial⟩, M62⟩
      · replace hz52 := ifN c54 hz52
        refine WL_known 24 false (vfalse c54) ?_
        refine WL_of (WO_off rfl rfl ?_)
        refine WL_of (WO_off rfl rfl ?_)
        refine WL_of (WO_off rfl rfl ?_)
        refine WL_of (WO_off rfl rfl ?_)
        refine WL_of (L_pick rfl rfl false rfl (.bool false) rfl ?_)
        refine WL_of (L_move rfl rfl (.bool false) rfl ?_)
        refine WL_of (WO_off rfl rfl ?_)
        refine WL_of (WO_off rfl rfl ?_)
        refine WL_of (WO_off rfl rfl ?_)
        refine WL_of (WO_off rfl rfl ?_)
        refine WL_of (L_pick rfl rfl false rfl (.bool false) rfl ?_)
        refine WL_of (L_assign rfl rfl (.bool false) rfl ?_)
        refine WL_nil ?_
        refine thenN ?_
        obtain rfl := someE hz52
        exact ⟨_, updL_same _ _ ⟨rfl, trivial⟩, M50⟩
    · replace hz52 := ifN c53 hz52
      refine WL_known 20 false (vfalse c53) ?_
      refine WL_of (WO_off rfl rfl ?_)
      refine WL_of (WO_off rfl rfl ?_)
      refine WL_of (L_pick rfl rfl false rfl (.bool false) rfl ?_)
      refine WL_of (L_move rfl rfl (.bool false) rfl ?_)
      refine WL_of (WO_off rfl rfl ?_)
      refine WL_of (WO_off rfl rfl ?_)
      refine WL_of (WO_off rfl rfl ?_)
      refine WL_of (WO_off rfl rfl ?_)
      refine WL_of (L_pick rfl rfl false rfl (.bool false) rfl ?_)
      refine WL_of (L_move rfl rfl (.bool false) rfl ?_)
      refine WL_of (WO_off rfl rfl ?_)
      refine WL_of (WO_off rfl rfl ?_)
      refine WL_of (WO_off rfl rfl ?_)
      refine WL_of (WO_off rfl rfl ?_)
      refine WL_of (L_pick rfl rfl false rfl (.bool false) rfl ?_)
      refine WL_of (L_assign rfl rfl (.bool false) rfl ?_)
      refine WL_nil ?_
      refine thenN ?_
      obtain rfl := someE hz52
      exact ⟨_, updL_same _ _ ⟨rfl, trivial⟩, M50⟩
  · rintro _ W72 ⟨ρ74, rfl, M73⟩
    refine WC_ret ?_
    obtain rfl := someE H
    have M75 : Mem W72 [(Fr, w), (one g16, W20), (one g12, W13), (one g5, W9), (one g1, W2)] := M73.front [(one g16, W20), (one g12, W13), (one g5, W9), (one g1, W2)] rfl
    have M76 : Mem W72 [(Fr, w)] := M75.sub (List.prefix_append [(Fr, w)] [(one g16, W20), (one g12, W13), (one g5, W9), (one g1, W2)]).sublist
    refine retR [.bool z51] ⟨rfl, trivial⟩ ?_
    exact ⟨rfl, M76⟩

/-! ### annals/annalslaw15.started: function 6 -/
def annalslaw15_started (k : Nat)  : Option Bool :=
  (plan_Parse k (lit [97, 58, 32, 98, 126, 99])).bind (fun (r2 : (api_Plan × Int × Int)) => (annalslaw15_one ).bind (fun (r19 : api_Plan) => (plan_Print k r19).bind (fun (r30 : (Str × Int)) => (plan_Parse k (lit [])).bind (fun (r36 : (api_Plan × Int × Int)) => ((annalslaw15_num r2.2.1).bind (fun (r55 : Int) => (if (r55 : Int) = 0 then (annalslaw15_num r30.2).bind (fun (r62 : Int) => (if (r62 : Int) = 0 then (annalslaw15_num r36.2.1).bind (fun (r69 : Int) => (if (r69 : Int) = 150 then (if (r2.2.2 : Int) = 0 then (some (decide ((r30.1 : Str) = (lit [97, 58, 32, 98, 126, 99])))) else (some false)) else (some false))) else (some false))) else (some false)))).bind (fun (z52 : Bool) => ((if z52 = true then (annalslaw15_one ).bind (fun (r84 : api_Plan) => (annalsref15_Same k r2.1 r84).bind (fun (r96 : Bool) => (if r96 = true then (annalslaw15_one ).bind (fun (r103 : api_Plan) => (plan_Check k r103).bind (fun (r114 : Int) => (annalslaw15_num r114).bind (fun (r120 : Int) => (if (r120 : Int) = 0 then (plan_Check k (⟨(lit []), 0, ([] : List api_Step)⟩ : api_Plan)).bind (fun (r127 : Int) => (annalslaw15_num r127).bind (fun (r133 : Int) => (if (r133 : Int) = 35 then (annalslaw15_firsts k ).bind (fun (r140 : Bool) => (some r140)) else (some false)))) else (some false))))) else (some false)))) else (some false))).bind (fun (z79 : Bool) => (some z79)))))))
set_option maxRecDepth 100000 in
set_option maxHeartbeats 4000000 in
theorem annalslaw15_started_ok (k : Nat)  (r : Bool) (w : World) (Fr : BS) (hG : Gl Fr w) (hF : ∀ b, Fr b → b < w.heap.size)  (H : annalslaw15_started k = some r) :
    CallsR Tryd.prog 6 #[] w (fun v w' => v = .bool r ∧ Mem w' [(Fr, w)]) := by
  have M0 := Mem.start w Fr hF
  refine enterZ (args := []) [.tmp 0] Tryd.func6 rfl rfl rfl rfl ?_
  unfold annalslaw15_started at H
  refine WC_seq ?_
  refine WC_region ?_
  refine WL_of (L_assign rfl rfl (.bool false) rfl ?_)
  refine WL_nil ?_
  refine thenN ?_
  refine WC_seq ?_
  refine WC_region ?_
  obtain ⟨r2, hr3, H⟩ := bindS H
  refine WL_of (L_call' rfl rfl cf10 [.string (sv (lit [97, 58, 32, 98, 126, 99]))] rfl (plan_Parse_ok k (lit [97, 58, 32, 98, 126, 99]) r2 _ (Un [(Fr, w)]) (hG.call M0 0 rfl) M0.frame  hr3) ?_)
  rintro _ W4 ⟨A6, c7, S8, rfl, M5, ho9⟩
  have M10 : Mem W4 [(S8, W4), (Fr, w)] := M0.back (New := [(S8, W4)]) M5
  refine WL_of (L_move rfl rfl (.tuple #[.agg #[.string (sv r2.1.Name), .int .i64 r2.1.Pivot, .slice A6 r2.1.Steps.length c7], .int .i64 r2.2.1, .int .i64 r2.2.2]) rfl ?_)
  refine WL_of (L_extract rfl rfl [.agg #[.string (sv r2.1.Name), .int .i64 r2.1.Pivot, .slice A6 r2.1.Steps.length c7], .int .i64 r2.2.1, .int .i64 r2.2.2] rfl (.agg #[.string (sv r2.1.Name), .int .i64 r2.1.Pivot, .slice A6 r2.1.Steps.length c7]) rfl ?_)
  refine WL_of (L_extract rfl rfl [.agg #[.string (sv r2.1.Name), .int .i64 r2.1.Pivot, .slice A6 r2.1.Steps.length c7], .int .i64 r2.2.1, .int .i64 r2.2.2] rfl (.int .i64 r2.2.1) rfl ?_)
  refine WL_of (L_extract rfl rfl [.agg #[.string (sv r2.1.Name), .int .i64 r2.1.Pivot, .slice A6 r2.1.Steps.length c7], .int .i64 r2.2.1, .int .i64 r2.2.2] rfl (.int .i64 r2.2.2) rfl ?_)
  refine WL_of (L_alloc M10 rfl rfl zr24 [.string (sv (lit [])), .int .i64 0, .slice none 0 0] rfl ?_)
  intro g11 W12 B13 M14
  refine WL_of (L_store M14 rfl (.agg #[.string (sv r2.1.Name), .int .i64 r2.1.Pivot, .slice A6 r2.1.Steps.length c7]) rfl [.string (sv r2.1.Name), .int .i64 r2.1.Pivot, .slice A6 r2.1.Steps.length c7] rfl 3 sz24 rfl rfl rfl B13 rfl rfl [.string (sv r2.1.Name), .int .i64 r2.1.Pivot, .slice A6 r2.1.Steps.length c7] rfl ?_)
  intro W15 B16 M17
  refine WL_of (L_assign rfl rfl (.int .i64 r2.2.1) rfl ?_)
  refine WL_of (L_assign rfl rfl (.int .i64 r2.2.2) rfl ?_)
  refine WL_nil ?_
  refine thenN ?_
  refine WC_seq ?_
  refine WC_region ?_
  obtain ⟨r19, hr20, H⟩ := bindS H
  refine WL_of (L_call' rfl rfl cf15 [] rfl (annalslaw15_one_ok  r19 _ (Un [(one g11, W15), (S8, W4), (Fr, w)]) (hG.call M17 2 rfl) M17.frame  hr20) ?_)
  rintro _ W21 ⟨A23, c24, S25, rfl, M22, ho26⟩
  have M27 : Mem W21 [(S25, W21), (one g11, W15), (S8, W4), (Fr, w)] := M17.back (New := [(S25, W21)]) M22
  have hs28 := ho26.sr
  obtain ⟨r30, hr31, H⟩ := bindS H
  refine WL_of (L_call' rfl rfl cf7 [.agg #[.string (sv r19.Name), .int .i64 r19.Pivot, .slice A23 r19.Steps.length c24]] rfl (plan_Print_ok k r19 A23 c24 r30 _ (Un [(S25, W21), (one g11, W15), (S8, W4), (Fr, w)]) (hG.call M27 3 rfl) M27.frame ((hs28.agree (M27.agree 0 rfl) (fun _ h => h.elim)).sub (Un.at 0 rfl) (fun _ h => h.elim)) hr31) ?_)
  rintro _ W32 ⟨rfl, M33⟩
  have M34 : Mem W32 [(S25, W21), (one g11, W15), (S8, W4), (Fr, w)] := M27.back (New := []) M33
  refine WL_of (L_move rfl rfl (.tuple #[.string (sv r30.1), .int .i64 r30.2]) rfl ?_)
  refine WL_of (L_extract rfl rfl [.string (sv r30.1), .int .i64 r30.2] rfl (.string (sv r30.1)) rfl ?_)
  refine WL_of (L_extract rfl rfl [.string (sv r30.1), .int .i64 r30.2] rfl (.int .i64 r30.2) rfl ?_)
  refine WL_of (L_assign rfl rfl (.string (sv r30.1)) rfl ?_)
  refine WL_of (L_assign rfl rfl (.int .i64 r30.2) rfl ?_)
  refine WL_nil ?_
  refine thenN ?_
  refine WC_seq ?_
  refine WC_region ?_
  obtain ⟨r36, hr37, H⟩ := bindS H
  refine WL_of (L_call' rfl rfl cf10 [.string (sv (lit []))] rfl (plan_Parse_ok k (lit []) r36 _ (Un [(S25, W21), (one g11, W15), (S8, W4), (Fr, w)]) (hG.call M34 3 rfl) M34.frame  hr37) ?_)
  rintro _ W38 ⟨A40, c41, S42, rfl, M39, ho43⟩
  have M44 : Mem W38 [(S42, W38), (S25, W21), (one g11, W15), (S8, W4), (Fr, w)] := M34.back (New := [(S42, W38)]) M39
  refine WL_of (L_move rfl rfl (.tuple #[.agg #[.string (sv r36.1.Name), .int .i64 r36.1.Pivot, .slice A40 r36.1.Steps.length c41], .int .i64 r36.2.1, .int .i64 r36.2.2]) rfl ?_)
  refine WL_of (L_extract rfl rfl [.agg #[.string (sv r36.1.Name), .int .i64 r36.1.Pivot, .slice A40 r36.1.Steps.length c41], .int .i64 r36.2.1, .int .i64 r36.2.2] rfl (.agg #[.string (sv r36.1.Name), .int .i64 r36.1.Pivot, .slice A40 r36.1.Steps.length c41]) rfl ?_)
  refine WL_of (L_extract rfl rfl [.agg #[.string (sv r36.1.Name), .int .i64 r36.1.Pivot, .slice A40 r36.1.Steps.length c41], .int .i64 r36.2.1, .int .i64 r36.2.2] rfl (.int .i64 r36.2.1) rfl ?_)
  refine WL_of (L_extract rfl rfl [.agg #[.string (sv r36.1.Name), .int .i64 r36.1.Pivot, .slice A40 r36.1.Steps.length c41], .int .i64 r36.2.1, .int .i64 r36.2.2] rfl (.int .i64 r36.2.2) rfl ?_)
  refine WL_of (L_alloc M44 rfl rfl zr24 [.string (sv (lit [])), .int .i64 0, .slice none 0 0] rfl ?_)
  intro g45 W46 B47 M48
  refine WL_of (L_store M48 rfl (.agg #[.string (sv r36.1.Name), .int .i64 r36.1.Pivot, .slice A40 r36.1.Steps.length c41]) rfl [.string (sv r36.1.Name), .int .i64 r36.1.Pivot, .slice A40 r36.1.Steps.length c41] rfl 3 sz24 rfl rfl rfl B47 rfl rfl [.string (sv r36.1.Name), .int .i64 r36.1.Pivot, .slice A40 r36.1.Steps.length c41] rfl ?_)
  intro W49 B50 M51
  refine WL_of (L_assign rfl rfl (.int .i64 r36.2.1) rfl ?_)
  refine WL_of (L_assign rfl rfl (.int .i64 r36.2.2) rfl ?_)
  refine WL_nil ?_
  refine thenN ?_
  obtain ⟨z52, hz53, H⟩ := bindS H
  refine WC_cut (fun ρ w_ => ∃  (ρ0 : Nat → Value), ρ = updL ρ0 [(0, .bool false), (1, .pointer (some ⟨g11, 0, none⟩)), (9, .bool z52)] ∧ Mem w_ [(one g45, W49), (S42, W38), (S25, W21), (one g11, W15), (S8, W4), (Fr, w)]) ?_ ?_
  · refine WC_region ?_
    refine WL_of (L_move rfl rfl (.int .i64 r2.2.1) rfl ?_)
    obtain ⟨r55, hr56, hz53⟩ := bindS hz53
    refine WL_of (L_call' rfl rfl cf8 [.int .i64 r2.2.1] rfl (annalslaw15_num_ok r2.2.1 r55 _ (Un [(one g45, W49), (S42, W38), (S25, W21), (one g11, W15), (S8, W4), (Fr, w)]) (hG.call M51 5 rfl) M51.frame  hr56) ?_)
    rintro _ W57 ⟨rfl, M58⟩
    have M59 : Mem W57 [(one g45, W49), (S42, W38), (S25, W21), (one g11, W15), (S8, W4), (Fr, w)] := M51.back (New := []) M58
    refine WL_of (L_bin rfl rfl (.int .i64 r55) (.int .i64 0) rfl rfl (.bool (decide ((r55 : Int) = 0))) (B_eql _ _ _ _ r55 0) ?_)
    refine WL_of (L_move rfl rfl (.bool (decide ((r55 : Int) = 0))) rfl ?_)
    by_cases c60 : (r55 : Int) = 0
    · replace hz53 := ifP c60 hz53
      refine WL_known 28 true (vtrue c60) ?_
      refine WL_of (L_move rfl rfl (.int .i64 r30.2) rfl ?_)
      obtain ⟨r62, hr63, hz53⟩ := bindS hz53
      refine WL_of (L_call' rfl rfl cf8 [.int .i64 r30.2] rfl (annalslaw15_num_ok r30.2 r62 _ (Un [(one g45, W49), (S42, W38), (S25, W21), (one g11, W15), (S8, W4), (Fr, w)]) (hG.call M59 5 rfl) M59.frame  hr63) ?_)
      rintro _ W64 ⟨rfl, M65⟩
      have M66 : Mem W64 [(one g45, W49), (S42, W38), (S25, W21), (one g11, W15), (S8, W4), (Fr, w)] := M59.back (New := []) M65
      refine WL_of (L_bin rfl rfl (.int .i64 r62) (.int .i64 0) rfl rfl (.bool (decide ((r62 : Int) = 0))) (B_eql _ _ _ _ r62 0) ?_)
      refine WL_of (L_pick rfl rfl true rfl (.bool (decide ((r62 : Int) = 0))) rfl ?_)
      refine WL_of (L_move rfl rfl (.bool (decide ((r62 : Int) = 0))) rfl ?_)
      by_cases c67 : (r62 : Int) = 0
      · replace hz53 := ifP c67 hz53
        refine WL_known 33 true (vtrue c67) ?_
        refine WL_of (L_move rfl rfl (.int .i64 r36.2.1) rfl ?_)
        obtain ⟨r69, hr70, hz53⟩ := bindS hz53
        refine WL_of (L_call' rfl rfl cf8 [.int .i64 r36.2.1] rfl (annalslaw15_num_ok r36.2.1 r69 _ (Un [(one g45, W49), (S42, W38), (S25, W21), (one g11, W15), (S8, W4), (Fr, w)]) (hG.call M66 5 rfl) M66.frame  hr70) ?_)
        rintro _ W71 ⟨rfl, M72⟩
        have M73 : Mem W71 [(one g45, W49), (S42, W38), (S25, W21), (one g11, W15), (S8, W4), (Fr, w)] := M66.back (New := []) M72
        refine WL_of (L_bin rfl rfl (.int .i64 r69) (.int .i64 150) rfl rfl (.bool (decide ((r69 : Int) = 150))) (B_eql _ _ _ _ r69 150) ?_)
        refine WL_of (L_pick rfl rfl true rfl (.bool (decide ((r69 : Int) = 150))) rfl ?_)
        refine WL_of (L_move rfl rfl (.bool (decide ((r69 : Int) = 150))) rfl ?_)
        by_cases c74 : (r69 : Int) = 150
        · replace hz53 := ifP c74 hz53
          refine WL_known 38 true (vtrue c74) ?_
          refine WL_of (L_move rfl rfl (.int .i64 r2.2.2) rfl ?_)
          refine WL_of (L_bin rfl rfl (.int .i64 r2.2.2) (.int .i64 0) rfl rfl (.bool (decide ((r2.2.2 : Int) = 0))) (B_eql _ _ _ _ r2.2.2 0) ?_)
          refine WL_of (L_pick rfl rfl true rfl (.bool (decide ((r2.2.2 : Int) = 0))) rfl ?_)
          refine WL_of (L_move rfl rfl (.bool (decide ((r2.2.2 : Int) = 0))) rfl ?_)
          by_cases c75 : (r2.2.2 : Int) = 0
          · replace hz53 := ifP c75 hz53
            refine WL_known 42 true (vtrue c75) ?_
            refine WL_of (L_move rfl rfl (.string (sv r30.1)) rfl ?_)
            refine WL_of (L_bin rfl rfl (.string (sv r30.1)) (.string (sv (lit [97, 58, 32, 98, 126, 99]))) rfl rfl (.bool (decide ((r30.1 : Str) = (lit [97, 58, 32, 98, 126, 99])))) (B_seql _ _ _ r30.1 (lit [97, 58, 32, 98, 126, 99])) ?_)
            refine WL_of (L_pick rfl rfl true rfl (.bool (decide ((r30.1 : Str) = (lit [97, 58, 32, 98, 126, 99])))) rfl ?_)
            refine WL_of (L_assign rfl rfl (.bool (decide ((r30.1 : Str) = (lit [97, 58, 32, 98, 126, 99])))) rfl ?_)
            refine WL_nil ?_
            refine thenN ?_
            obtain rfl := someE hz53
            exact ⟨_, updL_same _ _ ⟨rfl, rfl, rfl, trivial⟩, M73⟩
          · replace hz53 := ifN c75 hz53
            refine WL_known 42 false (vfalse c75) ?_
            refine WL_of (WO_off rfl rfl ?_)
            refine WL_of (WO_off rfl rfl ?_)
            refine WL_of (L_pick rfl rfl false rfl (.bool false) rfl ?_)
            refine WL_of (L_assign rfl rfl (.bool false) rfl ?_)
            refine WL_nil ?_
            refine thenN ?_
            obtain rfl := someE hz53
            exact ⟨_, updL_same _ _ ⟨rfl, rfl, rfl, trivial⟩, M73⟩
        · replace hz53 := ifN c74 hz53
          refine WL_known 38 false (vfalse c74) ?_
          refine WL_of (WO_off rfl rfl ?_)
          refine WL_of (WO_off rfl rfl ?_)
          refine WL_of (L_pick rfl rfl false rfl (.bool false) rfl ?_)
          refine WL_of (L_move rfl rfl (.bool false) rfl ?_)
          refine WL_of (WO_off rfl rfl ?_)
          refine WL_of (WO_off rfl rfl ?_)
          refine WL_of (L_pick rfl rfl false rfl (.bool false) rfl ?_)
          refine WL_of (L_assign rfl rfl (.bool false) rfl ?_)
          refine WL_nil ?_
          refine thenN ?_
          obtain rfl := someE hz53
          exact ⟨_, updL_same _ _ ⟨rfl, rfl, rfl, trivial⟩, M73⟩
      · replace hz53 := ifN c67 hz53
        refine WL_known 33 false (vfalse c67) ?_
        refine WL_of (WO_off rfl rfl ?_)
        refine WL_of (WO_off rfl rfl ?_)
        refine WL_of (WO_off rfl rfl ?_)
        refine WL_of (L_pick rfl rfl false rfl (.bool false) rfl ?_)
        refine WL_of (L_move rfl rfl (.bool false) rfl ?_)
        refine WL_of (WO_off rfl rfl ?_)
        refine WL_of (WO_off rfl rfl ?_)
        refine WL_of (L_pick rfl rfl false rfl (.bool false) rfl ?_)
        refine WL_of (L_move rfl rfl (.bool false) rfl ?_)
        refine WL_of (WO_off rfl rfl ?_)
        refine WL_of (WO_off rfl rfl ?_)
        refine WL_of (L_pick rfl rfl false rfl (.bool false) rfl ?_)
        refine WL_of (L_assign rfl rfl (.bool false) rfl ?_)
        refine WL_nil ?_
        refine thenN ?_
        obtain rfl := someE hz53
        exact ⟨_, updL_same _ _ ⟨rfl, rfl, rfl, trivial⟩, M66⟩
    · replace hz53 := ifN c60 hz53
      refine WL_known 28 false (vfalse c60) ?_
      refine WL_of (WO_off rfl rfl ?_)
      refine WL_of (WO_off rfl rfl ?_)
      refine WL_of (WO_off rfl rfl ?_)
      refine WL_of (L_pick rfl rfl false rfl (.bool false) rfl ?_)
      refine WL_of (L_move rfl rfl (.bool false) rfl ?_)
      refine WL_of (WO_off rfl rfl ?_)
      refine WL_of (WO_off rfl rfl ?_)
      refine WL_of (WO_off rfl rfl ?_)
      refine WL_of (L_pick rfl rfl false rfl (.bool false) rfl ?_)
      refine WL_of (L_move rfl rfl (.bool false) rfl ?_)
      refine WL_of (WO_off rfl rfl ?_)
      refine WL_of (WO_off rfl rfl ?_)
      refine WL_of (L_pick rfl rfl false rfl (.bool false) rfl ?_)
      refine WL_of (L_move rfl rfl (.bool false) rfl ?_)
      refine WL_of (WO_off rfl rfl ?_)
      refine WL_of (WO_off rfl rfl ?_)
      refine WL_of (L_pick rfl rfl false rfl (.bool false) rfl ?_)
      refine WL_of (L_assign rfl rfl (.bool false) rfl ?_)
      refine WL_nil ?_
      refine thenN ?_
      obtain rfl := someE hz53
      exact ⟨_, updL_same _ _ ⟨rfl, rfl, rfl, trivial⟩, M59⟩
  · rintro _ W76 ⟨ρ78, rfl, M77⟩
    obtain ⟨z79, hz80, H⟩ := bindS H
    refine WC_cut (fun ρ w_ => ∃  (ρ0 : Nat → Value), ρ = updL ρ0 [(0, .bool z79)] ∧ Mem w_ [(one g45, W49), (S42, W38), (S25, W21), (one g11, W15), (S8, W4), (Fr, w)]) ?_ ?_
    · refine WD_start (n := 22) (fun w_ => Mem w_ [(one g45, W49), (S42, W38), (S25, W21), (one g11, W15), (S8, W4), (Fr, w)]) [] mixed rfl ?_
      have M81 := M77.drawn
      refine WD_take' 0 rfl (by kernel_rfl) (by kernel_rfl) (by kernel_rfl) (by kernel_rfl) (by kernel_rfl) rfl (fun _ _ _ h => h) rfl _ (M81.sub (.cons_cons _ (.cons_cons _ (.cons_cons _ (.cons_cons _ (.cons_cons _ (.cons_cons _ .slnil))))))) rfl (fun w_ hS => L_move rfl rfl (.bool z52) rfl  ⟨rfl, rfl⟩) ?_
      refine WD_take' 1 rfl (by kernel_rfl) (by kernel_rfl) (by kernel_rfl) (by kernel_rfl) (by kernel_rfl) rfl (fun _ _ _ h => h) rfl _ (M81.sub (.cons_cons _ (.cons_cons _ (.cons_cons _ (.cons_cons _ (.cons_cons _ (.cons_cons _ .slnil))))))) rfl (fun w_ hS => L_move rfl rfl (.bool z52) rfl  ⟨rfl, rfl⟩) ?_
      by_cases c82 : z52 = true
      · replace hz80 := ifP c82 hz80
        refine WD_known 47 true (wtrue c82) ?_
        refine WD_take' 2 rfl (by kernel_rfl) (by kernel_rfl) (by kernel_rfl) (by kernel_rfl) (by kernel_rfl) rfl (fun _ _ _ h => h) rfl _ (M81.sub (.cons_cons _ (.cons_cons _ (.cons_cons _ (.cons_cons _ (.cons_cons _ (.cons_cons _ .slnil))))))) rfl (fun w_ hS => L_loadN rfl rfl Tryd.underlying24 rfl B16.el (hS.agree 3 rfl) 0 rfl 3 sz24 [.string (sv r2.1.Name), .int .i64 r2.1.Pivot, .slice A6 r2.1.Steps.length c7] rfl rfl  ⟨rfl, rfl⟩) ?_
        obtain ⟨r84, hr85, hz80⟩ := bindS hz80
        refine WD_one 3 rfl (by kernel_rfl) (L_call' rfl rfl cf15 [] rfl (annalslaw15_one_ok  r84 _ (Un [(one g45, W49), (S42, W38), (S25, W21), (one g11, W15), (S8, W4), (Fr, w)]) (hG.call M81 5 rfl) M81.frame  hr85) ?_)
        rintro _ W86 ⟨A88, c89, S90, rfl, M87, ho91⟩
        have M92 : Mem W86 [(S90, W86), (one g45, W49), (S42, W38), (S25, W21), (one g11, W15), (S8, W4), (Fr, w)] := M81.back (New := [(S90, W86)]) M87
        refine ⟨fun _ => (M92.sub (.cons _ (.cons_cons _ (.cons_cons _ (.cons_cons _ (.cons_cons _ (.cons_cons _ (.cons_cons _ .slnil)))))))), ?_⟩
        have hs93 := ho9.sr
        have hs94 := ho91.sr
        obtain ⟨r96, hr97, hz80⟩ := bindS hz80
        refine WD_one 4 rfl (by kernel_rfl) (L_call' rfl rfl cf16 [.agg #[.string (sv r2.1.Name), .int .i64 r2.1.Pivot, .slice A6 r2.1.Steps.length c7], .agg #[.string (sv r84.Name), .int .i64 r84.Pivot, .slice A88 r84.Steps.length c89]] rfl (annalsref15_Same_ok k r2.1 A6 c7 r84 A88 c89 r96 _ (Un [(S90, W86), (one g45, W49), (S42, W38), (S25, W21), (one g11, W15), (S8, W4), (Fr, w)]) (hG.call M92 6 rfl) M92.frame ((hs93.agree (M92.agree 5 rfl) (fun _ h => h.elim)).sub (Un.at 5 rfl) (fun _ h => h.elim)) ((hs94.agree (M92.agree 0 rfl) (fun _ h => h.elim)).sub (Un.at 0 rfl) (fun _ h => h.elim)) hr97) ?_)
        rintro _ W98 ⟨rfl, M99⟩
        have M100 : Mem W98 [(S90, W86), (one g45, W49), (S42, W38), (S25, W21), (one g11, W15), (S8, W4), (Fr, w)] := M92.back (New := []) M99
        refine ⟨fun _ => (M100.sub (.cons _ (.cons_cons _ (.cons_cons _ (.cons_cons _ (.cons_cons _ (.cons_cons _ (.cons_cons _ .slnil)))))))), ?_⟩
        refine WD_take' 5 rfl (by kernel_rfl) (by kernel_rfl) (by kernel_rfl) (by kernel_rfl) (by kernel_rfl) rfl (fun _ _ _ h => h) rfl _ (M100.sub (.cons _ (.cons_cons _ (.cons_cons _ (.cons_cons _ (.cons_cons _ (.cons_cons _ (.cons_cons _ .slnil)))))))) rfl (fun w_ hS => L_pick rfl rfl true rfl (.bool r96) rfl  ⟨rfl, rfl⟩) ?_
        refine WD_take' 6 rfl (by kernel_rfl) (by kernel_rfl) (by kernel_rfl) (by kernel_rfl) (by kernel_rfl) rfl (fun _ _ _ h => h) rfl _ (M100.sub (.cons _ (.cons_cons _ (.cons_cons _ (.cons_cons _ (.cons_cons _ (.cons_cons _ (.cons_cons _ .slnil)))))))) rfl (fun w_ hS => L_move rfl rfl (.bool r96) rfl  ⟨rfl, rfl⟩) ?_
        by_cases c101 : r96 = true
        · replace hz80 := ifP c101 hz80
          refine WD_known 52 true (wtrue c101) ?_
          obtain ⟨r103, hr104, hz80⟩ := bindS hz80
          refine WD_one 7 rfl (by kernel_rfl) (L_call' rfl rfl cf15 [] rfl (annalslaw15_one_ok  r103 _ (Un [(S90, W86), (one g45, W49), (S42, W38), (S25, W21), (one g11, W15), (S8, W4), (Fr, w)]) (hG.call M100 6 rfl) M100.frame  hr104) ?_)
          rintro _ W105 ⟨A107, c108, S109, rfl, M106, ho110⟩
          have M111 : Mem W105 [(S109, W105), (S90, W86), (one g45, W49), (S42, W38), (S25, W21), (one g11, W15), (S8, W4), (Fr, w)] := M100.back (New := [(S109, W105)]) M106
          refine ⟨fun _ => (M111.sub (.cons _ (.cons _ (.cons_cons _ (.cons_cons _ (.cons_cons _ (.cons_cons _ (.cons_cons _ (.cons_cons _ .slnil))))))))), ?_⟩
          have hs112 := ho110.sr
          obtain ⟨r114, hr115, hz80⟩ := bindS hz80
          refine WD_one 8 rfl (by kernel_rfl) (L_call' rfl rfl cf9 [.agg #[.string (sv r103.Name), .int .i64 r103.Pivot, .slice A107 r103.Steps.length c108]] rfl (plan_Check_ok k r103 A107 c108 r114 _ (Un [(S109, W105), (S90, W86), (one g45, W49), (S42, W38), (S25, W21), (one g11, W15), (S8, W4), (Fr, w)]) (hG.call M111 7 rfl) M111.frame ((hs112.agree (M111.agree 0 rfl) (fun _ h => h.elim)).sub (Un.at 0 rfl) (fun _ h => h.elim)) hr115) ?_)
          rintro _ W116 ⟨rfl, M117⟩
          have M118 : Mem W116 [(S109, W105), (S90, W86), (one g45, W49), (S42, W38), (S25, W21), (one g11, W15), (S8, W4), (Fr, w)] := M111.back (New := []) M117
          refine ⟨fun _ => (M118.sub (.cons _ (.cons _ (.cons_cons _ (.cons_cons _ (.cons_cons _ (.cons_cons _ (.cons_cons _ (.cons_cons _ .slnil))))))))), ?_⟩
          obtain ⟨r120, hr121, hz80⟩ := bindS hz80
          refine WD_one 9 rfl (by kernel_rfl) (L_call' rfl rfl cf8 [.int .i64 r114] rfl (annalslaw15_num_ok r114 r120 _ (Un [(S109, W105), (S90, W86), (one g45, W49), (S42, W38), (S25, W21), (one g11, W15), (S8, W4), (Fr, w)]) (hG.call M118 7 rfl) M118.frame  hr121) ?_)
          rintro _ W122 ⟨rfl, M123⟩
          have M124 : Mem W122 [(S109, W105), (S90, W86), (one g45, W49), (S42, W38), (S25, W21), (one g11, W15), (S8, W4), (Fr, w)] := M118.back (New := []) M123
          refine ⟨fun _ => (M124.sub (.cons _ (.cons _ (.cons_cons _ (.cons_cons _ (.cons_cons _ (.cons_cons _ (.cons_cons _ (.cons_cons _ .slnil))))))))), ?_⟩
          refine WD_take' 10 rfl (by kernel_rfl) (by kernel_rfl) (by kernel_rfl) (by kernel_rfl) (by kernel_rfl) rfl (fun _ _ _ h => h) rfl _ (M124.sub (.cons _ (.cons _ (.cons_cons _ (.cons_cons _ (.cons_cons _ (.cons_cons _ (.cons_cons _ (.cons_cons _ .slnil))))))))) rfl (fun w_ hS => L_bin rfl rfl (.int .i64 r120) (.int .i64 0) rfl rfl (.bool (decide ((r120 : Int) = 0))) (B_eql _ _ _ _ r120 0)  ⟨rfl, rfl⟩) ?_
          refine WD_take' 11 rfl (by kernel_rfl) (by kernel_rfl) (by kernel_rfl) (by kernel_rfl) (by kernel_rfl) rfl (fun _ _ _ h => h) rfl _ (M124.sub (.cons _ (.cons _ (.cons_cons _ (.cons_cons _ (.cons_cons _ (.cons_cons _ (.cons_cons _ (.cons_cons _ .slnil))))))))) rfl (fun w_ hS => L_pick rfl rfl true rfl (.bool (decide ((r120 : Int) = 0))) rfl  ⟨rfl, rfl⟩) ?_
          refine WD_take' 12 rfl (by kernel_rfl) (by kernel_rfl) (by kernel_rfl) (by kernel_rfl) (by kernel_rfl) rfl (fun _ _ _ h => h) rfl _ (M124.sub (.cons _ (.cons _ (.cons_cons _ (.cons_cons _ (.cons_cons _ (.cons_cons _ (.cons_cons _ (.cons_cons _ .slnil))))))))) rfl (fun w_ hS => L_move rfl rfl (.bool (decide ((r120 : Int) = 0))) rfl  ⟨rfl, rfl⟩) ?_
          by_cases c125 : (r120 : Int) = 0
          · replace hz80 := ifP c125 hz80
            refine WD_known 58 true (vtrue c125) ?_
            refine WD_take' 13 rfl (by kernel_rfl) (by kernel_rfl) (by kernel_rfl) (by kernel_rfl) (by kernel_rfl) rfl (fun _ _ _ h => h) rfl _ (M124.sub (.cons _ (.cons _ (.cons_cons _ (.cons_cons _ (.cons_cons _ (.cons_cons _ (.cons_cons _ (.cons_cons _ .slnil))))))))) rfl (fun w_ hS => L_build' rfl rfl [] rfl Tryd.underlying24 zr24 pl24 [.string (sv (lit [])), .int .i64 0, .slice none 0 0] rfl  ⟨rfl, rfl⟩) ?_
            obtain ⟨r127, hr128, hz80⟩ := bindS hz80
            refine WD_one 14 rfl (by kernel_rfl) (L_call' rfl rfl cf9 [.agg #[.string (sv (lit [])), .int .i64 0, .slice none 0 0]] rfl (plan_Check_ok k (⟨(lit []), 0, ([] : List api_Step)⟩ : api_Plan) none 0 r127 _ (Un [(S109, W105), (S90, W86), (one g45, W49), (S42, W38), (S25, W21), (one g11, W15), (S8, W4), (Fr, w)]) (hG.call M124 7 rfl) M124.frame (SR.nil _ _ _ _ _ _) hr128) ?_)
            rintro _ W129 ⟨rfl, M130⟩
            have M131 : Mem W129 [(S109, W105), (S90, W86), (one g45, W49), (S42, W38), (S25, W21), (one g11, W15), (S8, W4), (Fr, w)] := M124.back (New := []) M130
            refine ⟨fun _ => (M131.sub (.cons _ (.cons _ (.cons_cons _ (.cons_cons _ (.cons_cons _ (.cons_cons _ (.cons_cons _ (.cons_cons _ .slnil))))))))), ?_⟩
            obtain ⟨r133, hr134, hz80⟩ := bindS hz80
            refine WD_one 15 rfl (by kernel_rfl) (L_call' rfl rfl cf8 [.int .i64 r127] rfl (annalslaw15_num_ok r127 r133 _ (Un [(S109, W105), (S90, W86), (one g45, W49), (S42, W38), (S25, W21), (one g11, W15), (S8, W4), (Fr, w)]) (hG.call M131 7 rfl) M131.frame  hr134) ?_)
            rintro _ W135 ⟨rfl, M136⟩
            have M137 : Mem W135 [(S109, W105), (S90, W86), (one g45, W49), (S42, W38), (S25, W21), (one g11, W15), (S8, W4), (Fr, w)] := M131.back (New := []) M136
            refine ⟨fun _ => (M137.sub (.cons _ (.cons _ (.cons_cons _ (.cons_cons _ (.cons_cons _ (.cons_cons _ (.cons_cons _ (.cons_cons _ .slnil))))))))), ?_⟩
            refine WD_take' 16 rfl (by kernel_rfl) (by kernel_rfl) (by kernel_rfl) (by kernel_rfl) (by kernel_rfl) rfl (fun _ _ _ h => h) rfl _ (M137.sub (.cons _ (.cons _ (.cons_cons _ (.cons_cons _ (.cons_cons _ (.cons_cons _ (.cons_cons _ (.cons_cons _ .slnil))))))))) rfl (fun w_ hS => L_bin rfl rfl (.int .i64 r133) (.int .i64 35) rfl rfl (.bool (decide ((r133 : Int) = 35))) (B_eql _ _ _ _ r133 35)  ⟨rfl, rfl⟩) ?_
            refine WD_take' 17 rfl (by kernel_rfl) (by kernel_rfl) (by kernel_rfl) (by kernel_rfl) (by kernel_rfl) rfl (fun _ _ _ h => h) rfl _ (M137.sub (.cons _ (.cons _ (.cons_cons _ (.cons_cons _ (.cons_cons _ (.cons_cons _ (.cons_cons _ (.cons_cons _ .slnil))))))))) rfl (fun w_ hS => L_pick rfl rfl true rfl (.bool (decide ((r133 : Int) = 35))) rfl  ⟨rfl, rfl⟩) ?_
            refine WD_take' 18 rfl (by kernel_rfl) (by kernel_rfl) (by kernel_rfl) (by kernel_rfl) (by kernel_rfl) rfl (fun _ _ _ h => h) rfl _ (M137.sub (.cons _ (.cons _ (.cons_cons _ (.cons_cons _ (.cons_cons _ (.cons_cons _ (.cons_cons _ (.cons_cons _ .slnil))))))))) rfl (fun w_ hS => L_move rfl rfl (.bool (decide ((r133 : Int) = 35))) rfl  ⟨rfl, rfl⟩) ?_
            by_cases c138 : (r133 : Int) = 35
            · replace hz80 := ifP c138 hz80
              refine WD_known 64 true (vtrue c138) ?_
              obtain ⟨r140, hr141, hz80⟩ := bindS hz80
              refine WD_one 19 rfl (by kernel_rfl) (L_call' rfl rfl cf17 [] rfl (annalslaw15_firsts_ok k  r140 _ (Un [(S109, W105), (S90, W86), (one g45, W49), (S42, W38), (S25, W21), (one g11, W15), (S8, W4), (Fr, w)]) (hG.call M137 7 rfl) M137.frame  hr141) ?_)
              rintro _ W142 ⟨rfl, M143⟩
              have M144 : Mem W142 [(S109, W105), (S90, W86), (one g45, W49), (S42, W38), (S25, W21), (one g11, W15), (S8, W4), (Fr, w)] := M137.back (New := []) M143
              refine ⟨fun _ => (M144.sub (.cons _ (.cons _ (.cons_cons _ (.cons_cons _ (.cons_cons _ (.cons_cons _ (.cons_cons _ (.cons_cons _ .slnil))))))))), ?_⟩
              refine WD_take' 20 rfl (by kernel_rfl) (by kernel_rfl) (by kernel_rfl) (by kernel_rfl) (by kernel_rfl) rfl (fun _ _ _ h => h) rfl _ (M144.sub (.cons _ (.cons _ (.cons_cons _ (.cons_cons _ (.cons_cons _ (.cons_cons _ (.cons_cons _ (.cons_cons _ .slnil))))))))) rfl (fun w_ hS => L_pick rfl rfl true rfl (.bool r140) rfl  ⟨rfl, rfl⟩) ?_
              refine WD_take' 21 rfl (by kernel_rfl) (by kernel_rfl) (by kernel_rfl) (by kernel_rfl) (by kernel_rfl) rfl (fun _ _ _ h => h) rfl _ (M144.sub (.cons _ (.cons _ (.cons_cons _ (.cons_cons _ (.cons_cons _ (.cons_cons _ (.cons_cons _ (.cons_cons _ .slnil))))))))) rfl (fun w_ hS => L_assign rfl rfl (.bool r140) rfl  ⟨rfl, rfl⟩) ?_
              refine WD_done (by kernel_rfl) ?_
              refine thenN ?_
              obtain rfl := someE hz80
              have M145 : Mem W142 [(Fr, w), (S109, W105), (S90, W86), (one g45, W49), (S42, W38), (S25, W21), (one g11, W15), (S8, W4)] := M144.front [(S109, W105), (S90, W86), (one g45, W49), (S42, W38), (S25, W21), (one g11, W15), (S8, W4)] rfl
              have M146 : Mem W142 [(S8, W4), (Fr, w), (S109, W105), (S90, W86), (one g45, W49), (S42, W38), (S25, W21), (one g11, W15)] := M145.front [(Fr, w), (S109, W105), (S90, W86), (one g45, W49), (S42, W38), (S25, W21), (one g11, W15)] rfl
              have M147 : Mem W142 [(one g11, W15), (S8, W4), (Fr, w), (S109, W105), (S90, W86), (one g45, W49), (S42, W38), (S25, W21)] := M146.front [(S8, W4), (Fr, w), (S109, W105), (S90, W86), (one g45, W49), (S42, W38), (S25, W21)] rfl
              have M148 : Mem W142 [(S25, W21), (one g11, W15), (S8, W4), (Fr, w), (S109, W105), (S90, W86), (one g45, W49), (S42, W38)] := M147.front [(one g11, W15), (S8, W4), (Fr, w), (S109, W105), (S90, W86), (one g45, W49), (S42, W38)] rfl
              have M149 : Mem W142 [(S42, W38), (S25, W21), (one g11, W15), (S8, W4), (Fr, w), (S109, W105), (S90, W86), (one g45, W49)] := M148.front [(S25, W21), (one g11, W15), (S8, W4), (Fr, w), (S109, W105), (S90, W86), (one g45, W49)] rfl
              have M150 : Mem W142 [(one g45, W49), (S42, W38), (S25, W21), (one g11, W15), (S8, W4), (Fr, w), (S109, W105), (S90, W86)] := M149.front [(S42, W38), (S25, W21), (one g11, W15), (S8, W4), (Fr, w), (S109, W105), (S90, W86)] rfl
              have M151 : Mem W142 [(one g45, W49), (S42, W38), (S25, W21), (one g11, W15), (S8, W4), (Fr, w)] := M150.sub (List.prefix_append [(one g45, W49), (S42, W38), (S25, W21), (one g11, W15), (S8, W4), (Fr, w)] [(S109, W105), (S90, W86)]).sublist
              exact ⟨_, updL_same _ _ ⟨rfl, trivial⟩, M151⟩
            · replace hz80 := ifN c138 hz80
              refine WD_known 64 false (vfalse c138) ?_
              refine WD_take 19 rfl (by kernel_rfl) (by kernel_rfl) (by kernel_rfl) (by kernel_rfl) (by kernel_rfl) (fun _ _ _ h => h) rfl undef (M137.sub (.cons _ (.cons _ (.cons_cons _ (.cons_cons _ (.cons_cons _ (.cons_cons _ (.cons_cons _ (.cons_cons _ .slnil))))))))) (.inr ⟨rfl, rfl⟩) ?_
              refine WD_take' 20 rfl (by kernel_rfl) (by kernel_rfl) (by kernel_rfl) (by kernel_rfl) (by kernel_rfl) rfl (fun _ _ _ h => h) rfl _ (M137.sub (.cons _ (.cons _ (.cons_cons _ (.cons_cons _ (.cons_cons _ (.cons_cons _ (.cons_cons _ (.cons_cons _ .slnil))))))))) rfl (fun w_ hS => L_pick rfl rfl false rfl (.bool false) rfl  ⟨rfl, rfl⟩) ?_
              refine WD_take' 21 rfl (by kernel_rfl) (by kernel_rfl) (by kernel_rfl) (by kernel_rfl) (by kernel_rfl) rfl (fun _ _ _ h => h) rfl _ (M137.sub (.cons _ (.cons _ (.cons_cons _ (.cons_cons _ (.cons_cons _ (.cons_cons _ (.cons_cons _ (.cons_cons _ .slnil))))))))) rfl (fun w_ hS => L_assign rfl rfl (.bool false) rfl  ⟨rfl, rfl⟩) ?_
              refine WD_done (by kernel_rfl) ?_
              refine thenN ?_
              obtain rfl := someE hz80
              have M152 : Mem W135 [(Fr, w), (S109, W105), (S90, W86), (one g45, W49), (S42, W38), (S25, W21), (one g11, W15), (S8, W4)] := M137.front [(S109, W105), (S90, W86), (one g45, W49), (S42, W38), (S25, W21), (one g11, W15), (S8, W4)] rfl
              have M153 : Mem W135 [(S8, W4), (Fr, w), (S109, W105), (S90, W86), (one g45, W49), (S42, W38), (S25, W21), (one g11, W15)] := M152.front [(Fr, w), (S109, W105), (S90, W86), (one g45, W49), (S42, W38), (S25, W21), (one g11, W15)] rfl
              have M154 : Mem W135 [(one g11, W15), (S8, W4), (Fr, w), (S109, W105), (S90, W86), (one g45, W49), (S42, W38), (S25, W21)] := M153.front [(S8, W4), (Fr, w), (S109, W105), (S90, W86), (one g45, W49), (S42, W38), (S25, W21)] rfl
              have M155 : Mem W135 [(S25, W21), (one g11, W15), (S8, W4), (Fr, w), (S109, W105), (S90, W86), (one g45, W49), (S42, W38)] := M154.front [(one g11, W15), (S8, W4), (Fr, w), (S109, W105), (S90, W86), (one g45, W49), (S42, W38)] rfl
              have M156 : Mem W135 [(S42, W38), (S25, W21), (one g11, W15), (S8, W4), (Fr, w), (S109, W105), (S90, W86), (one g45, W49)] := M155.front [(S25, W21), (one g11, W15), (S8, W4), (Fr, w), (S109, W105), (S90, W86), (one g45, W49)] rfl
              have M157 : Mem W135 [(one g45, W49), (S42, W38), (S25, W21), (one g11, W15), (S8, W4), (Fr, w), (S109, W105), (S90, W86)] := M156.front [(S42, W38), (S25, W21), (one g11, W15), (S8, W4), (Fr, w), (S109, W105), (S90, W86)] rfl
              have M158 : Mem W135 [(one g45, W49), (S42, W38), (S25, W21), (one g11, W15), (S8, W4), (Fr, w)] := M157.sub (List.prefix_append [(one g45, W49), (S42, W38), (S25, W21), (one g11, W15), (S8, W4), (Fr, w)] [(S109, W105), (S90, W86)]).sublist
              exact ⟨_, updL_same _ _ ⟨rfl, trivial⟩, M158⟩
          · replace hz80 := ifN c125 hz80
            refine WD_known 58 false (vfalse c125) ?_
            refine WD_take 13 rfl (by kernel_rfl) (by kernel_rfl) (by kernel_rfl) (by kernel_rfl) (by kernel_rfl) (fun _ _ _ h => h) rfl undef (M124.sub (.cons _ (.cons _ (.cons_cons _ (.cons_cons _ (.cons_cons _ (.cons_cons _ (.cons_cons _ (.cons_cons _ .slnil))))))))) (.inr ⟨rfl, rfl⟩) ?_
            refine WD_take 14 rfl (by kernel_rfl) (by kernel_rfl) (by kernel_rfl) (by kernel_rfl) (by kernel_rfl) (fun _ _ _ h => h) rfl undef (M124.sub (.cons _ (.cons _ (.cons_cons _ (.cons_cons _ (.cons_cons _ (.cons_cons _ (.cons_cons _ (.cons_cons _ .slnil))))))))) (.inr ⟨rfl, rfl⟩) ?_
            refine WD_take 15 rfl (by kernel_rfl) (by kernel_rfl) (by kernel_rfl) (by kernel_rfl) (by kernel_rfl) (fun _ _ _ h => h) rfl undef (M124.sub (.cons _ (.cons _ (.cons_cons _ (.cons_cons _ (.cons_cons _ (.cons_cons _ (.cons_cons _ (.cons_cons _ .slnil))))))))) (.inr ⟨rfl, rfl⟩) ?_
            refine WD_take 16 rfl (by kernel_rfl) (by kernel_rfl) (by kernel_rfl) (by kernel_rfl) (by kernel_rfl) (fun _ _ _ h => h) rfl undef (M124.sub (.cons _ (.cons _ (.cons_cons _ (.cons_cons _ (.cons_cons _ (.cons_cons _ (.cons_cons _ (.cons_cons _ .slnil))))))))) (.inr ⟨rfl, rfl⟩) ?_
            refine WD_take' 17 rfl (by kernel_rfl) (by kernel_rfl) (by kernel_rfl) (by kernel_rfl) (by kernel_rfl) rfl (fun _ _ _ h => h) rfl _ (M124.sub (.cons _ (.cons _ (.cons_cons _ (.cons_cons _ (.cons_cons _ (.cons_cons _ (.cons_cons _ (.cons_cons _ .slnil))))))))) rfl (fun w_ hS => L_pick rfl rfl false rfl (.bool false) rfl  ⟨rfl, rfl⟩) ?_
            refine WD_take' 18 rfl (by kernel_rfl) (by kernel_rfl) (by kernel_rfl) (by kernel_rfl) (by kernel_rfl) rfl (fun _ _ _ h => h) rfl _ (M124.sub (.cons _ (.cons _ (.cons_cons _ (.cons_cons _ (.cons_cons _ (.cons_cons _ (.cons_cons _ (.cons_cons _ .slnil))))))))) rfl (fun w_ hS => L_move rfl rfl (.bool false) rfl  ⟨rfl, rfl⟩) ?_
            refine WD_take 19 rfl (by kernel_rfl) (by kernel_rfl) (by kernel_rfl) (by kernel_rfl) (by kernel_rfl) (fun _ _ _ h => h) rfl undef (M124.sub (.cons _ (.cons _ (.cons_cons _ (.cons_cons _ (.cons_cons _ (.cons_cons _ (.cons_cons _ (.cons_cons _ .slnil))))))))) (.inr ⟨rfl, rfl⟩) ?_
            refine WD_take' 20 rfl (by kernel_rfl) (by kernel_rfl) (by kernel_rfl) (by kernel_rfl) (by kernel_rfl) rfl (fun _ _ _ h => h) rfl _ (M124.sub (.cons _ (.cons _ (.cons_cons _ (.cons_cons _ (.cons_cons _ (.cons_cons _ (.cons_cons _ (.cons_cons _ .slnil))))))))) rfl (fun w_ hS => L_pick rfl rfl false rfl (.bool false) rfl  ⟨rfl, rfl⟩) ?_
            refine WD_take' 21 rfl (by kernel_rfl) (by kernel_rfl) (by kernel_rfl) (by kernel_rfl) (by kernel_rfl) rfl (fun _ _ _ h => h) rfl _ (M124.sub (.cons _ (.cons _ (.cons_cons _ (.cons_cons _ (.cons_cons _ (.cons_cons _ (.cons_cons _ (.cons_cons _ .slnil))))))))) rfl (fun w_ hS => L_assign rfl rfl (.bool false) rfl  ⟨rfl, rfl⟩) ?_
            refine WD_done (by kernel_rfl) ?_
            refine thenN ?_
            obtain rfl := someE hz80
            have M159 : Mem W122 [(Fr, w), (S109, W105), (S90, W86), (one g45, W49), (S42, W38), (S25, W21), (one g11, W15), (S8, W4)] := M124.front [(S109, W105), (S90, W86), (one g45, W49), (S42, W38), (S25, W21), (one g11, W15), (S8, W4)] rfl
            have M160 : Mem W122 [(S8, W4), (Fr, w), (S109, W105), (S90, W86), (one g45, W49), (S42, W38), (S25, W21), (one g11, W15)] := M159.front [(Fr, w), (S109, W105), (S90, W86), (one g45, W49), (S42, W38), (S25, W21), (one g11, W15)] rfl
            have M161 : Mem W122 [(one g11, W15), (S8, W4), (Fr, w), (S109, W105), (S90, W86), (one g45, W49), (S42, W38), (S25, W21)] := M160.front [(S8, W4), (Fr, w), (S109, W105), (S90, W86), (one g45, W49), (S42, W38), (S25, W21)] rfl
            have M162 : Mem W122 [(S25, W21), (one g11, W15), (S8, W4), (Fr, w), (S109, W105), (S90, W86), (one g45, W49), (S42, W38)] := M161.front [(one g11, W15), (S8, W4), (Fr, w), (S109, W105), (S90, W86), (one g45, W49), (S42, W38)] rfl
            have M163 : Mem W122 [(S42, W38), (S25, W21), (one g11, W15), (S8, W4), (Fr, w), (S109, W105), (S90, W86), (one g45, W49)] := M162.front [(S25, W21), (one g11, W15), (S8, W4), (Fr, w), (S109, W105), (S90, W86), (one g45, W49)] rfl
            have M164 : Mem W122 [(one g45, W49), (S42, W38), (S25, W21), (one g11, W15), (S8, W4), (Fr, w), (S109, W105), (S90, W86)] := M163.front [(S42, W38), (S25, W21), (one g11, W15), (S8, W4), (Fr, w), (S109, W105), (S90, W86)] rfl
            have M165 : Mem W122 [(one g45, W49), (S42, W38), (S25, W21), (one g11, W15), (S8, W4), (Fr, w)] := M164.sub (List.prefix_append [(one g45, W49), (S42, W38), (S25, W21), (one g11, W15), (S8, W4), (Fr, w)] [(S109, W105), (S90, W86)]).sublist
            exact ⟨_, updL_same _ _ ⟨rfl, trivial⟩, M165⟩
        · replace hz80 := ifN c101 hz80
          refine WD_known 52 false (wfalse c101) ?_
          refine WD_take 7 rfl (by kernel_rfl) (by kernel_rfl) (by kernel_rfl) (by kernel_rfl) (by kernel_rfl) (fun _ _ _ h => h) rfl undef (M100.sub (.cons _ (.cons_cons _ (.cons_cons _ (.cons_cons _ (.cons_cons _ (.cons_cons _ (.cons_cons _ .slnil)))))))) (.inr ⟨rfl, rfl⟩) ?_
          refine WD_take 8 rfl (by kernel_rfl) (by kernel_rfl) (by kernel_rfl) (by kernel_rfl) (by kernel_rfl) (fun _ _ _ h => h) rfl undef (M100.sub (.cons _ (.cons_cons _ (.cons_cons _ (.cons_cons _ (.cons_cons _ (.cons_cons _ (.cons_cons _ .slnil)))))))) (.inr ⟨rfl, rfl⟩) ?_
          refine WD_take 9 rfl (by kernel_rfl) (by kernel_rfl) (by kernel_rfl) (by kernel_rfl) (by kernel_rfl) (fun _ _ _ h => h) rfl undef (M100.sub (.cons _ (.cons_cons _ (.cons_cons _ (.cons_cons _ (.cons_cons _ (.cons_cons _ (.cons_cons _ .slnil)))))))) (.inr ⟨rfl, rfl⟩) ?_
          refine WD_take 10 rfl (by kernel_rfl) (by kernel_rfl) (by kernel_rfl) (by kernel_rfl) (by kernel_rfl) (fun _ _ _ h => h) rfl undef (M100.sub (.cons _ (.cons_cons _ (.cons_cons _ (.cons_cons _ (.cons_cons _ (.cons_cons _ (.cons_cons _ .slnil)))))))) (.inr ⟨rfl, rfl⟩) ?_
          refine WD_take' 11 rfl (by kernel_rfl) (by kernel_rfl) (by kernel_rfl) (by kernel_rfl) (by kernel_rfl) rfl (fun _ _ _ h => h) rfl _ (M100.sub (.cons _ (.cons_cons _ (.cons_cons _ (.cons_cons _ (.cons_cons _ (.cons_cons _ (.cons_cons _ .slnil)))))))) rfl (fun w_ hS => L_pick rfl rfl false rfl (.bool false) rfl  ⟨rfl, rfl⟩) ?_
          refine WD_take' 12 rfl (by kernel_rfl) (by kernel_rfl) (by kernel_rfl) (by kernel_rfl) (by kernel_rfl) rfl (fun _ _ _ h => h) rfl _ (M100.sub (.cons _ (.cons_cons _ (.cons_cons _ (.cons_cons _ (.cons_cons _ (.cons_cons _ (.cons_cons _ .slnil)))))))) rfl (fun w_ hS => L_move rfl rfl (.bool false) rfl  ⟨rfl, rfl⟩) ?_
          refine WD_take 13 rfl (by kernel_rfl) (by kernel_rfl) (by kernel_rfl) (by kernel_rfl) (by kernel_rfl) (fun _ _ _ h => h) rfl undef (M100.sub (.cons _ (.cons_cons _ (.cons_cons _ (.cons_cons _ (.cons_cons _ (.cons_cons _ (.cons_cons _ .slnil)))))))) (.inr ⟨rfl, rfl⟩) ?_
          refine WD_take 14 rfl (by kernel_rfl) (by kernel_rfl) (by kernel_rfl) (by kernel_rfl) (by kernel_rfl) (fun _ _ _ h => h) rfl undef (M100.sub (.cons _ (.cons_cons _ (.cons_cons _ (.cons_cons _ (.cons_cons _ (.cons_cons _ (.cons_cons _ .slnil)))))))) (.inr ⟨rfl, rfl⟩) ?_
          refine WD_take 15 rfl (by kernel_rfl) (by kernel_rfl) (by kernel_rfl) (by kernel_rfl) (by kernel_rfl) (fun _ _ _ h => h) rfl undef (M100.sub (.cons _ (.cons_cons _ (.cons_cons _ (.cons_cons _ (.cons_cons _ (.cons_cons _ (.cons_cons _ .slnil)))))))) (.inr ⟨rfl, rfl⟩) ?_
          refine WD_take 16 rfl (by kernel_rfl) (by kernel_rfl) (by kernel_rfl) (by kernel_rfl) (by kernel_rfl) (fun _ _ _ h => h) rfl undef (M100.sub (.cons _ (.cons_cons _ (.cons_cons _ (.cons_cons _ (.cons_cons _ (.cons_cons _ (.cons_cons _ .slnil)))))))) (.inr ⟨rfl, rfl⟩) ?_
          refine WD_take' 17 rfl (by kernel_rfl) (by kernel_rfl) (by kernel_rfl) (by kernel_rfl) (by kernel_rfl) rfl (fun _ _ _ h => h) rfl _ (M100.sub (.cons _ (.cons_cons _ (.cons_cons _ (.cons_cons _ (.cons_cons _ (.cons_cons _ (.cons_cons _ .slnil)))))))) rfl (fun w_ hS => L_pick rfl rfl false rfl (.bool false) rfl  ⟨rfl, rfl⟩) ?_
          refine WD_take' 18 rfl (by kernel_rfl) (by kernel_rfl) (by kernel_rfl) (by kernel_rfl) (by kernel_rfl) rfl (fun _ _ _ h => h) rfl _ (M100.sub (.cons _ (.cons_cons _ (.cons_cons _ (.cons_cons _ (.cons_cons _ (.cons_cons _ (.cons_cons _ .slnil)))))))) rfl (fun w_ hS => L_move rfl rfl (.bool false) rfl  ⟨rfl, rfl⟩) ?_
          refine WD_take 19 rfl (by kernel_rfl) (by kernel_rfl) (by kernel_rfl) (by kernel_rfl) (by kernel_rfl) (fun _ _ _ h => h) rfl undef (M100.sub (.cons _ (.cons_cons _ (.cons_cons _ (.cons_cons _ (.cons_cons _ (.cons_cons _ (.cons_cons _ .slnil)))))))) (.inr ⟨rfl, rfl⟩) ?_
          refine WD_take' 20 rfl (by kernel_rfl) (by kernel_rfl) (by kernel_rfl) (by kernel_rfl) (by kernel_rfl) rfl (fun _ _ _ h => h) rfl _ (M100.sub (.cons _ (.cons_cons _ (.cons_cons _ (.cons_cons _ (.cons_cons _ (.cons_cons _ (.cons_cons _ .slnil)))))))) rfl (fun w_ hS => L_pick rfl rfl false rfl (.bool false) rfl  ⟨rfl, rfl⟩) ?_
          refine WD_take' 21 rfl (by kernel_rfl) (by kernel_rfl) (by kernel_rfl) (by kernel_rfl) (by kernel_rfl) rfl (fun _ _ _ h => h) rfl _ (M100.sub (.cons _ (.cons_cons _ (.cons_cons _ (.cons_cons _ (.cons_cons _ (.cons_cons _ (.cons_cons _ .slnil)))))))) rfl (fun w_ hS => L_assign rfl rfl (.bool false) rfl  ⟨rfl, rfl⟩) ?_
          refine WD_done (by kernel_rfl) ?_
          refine thenN ?_
          obtain rfl := someE hz80
          have M166 : Mem W98 [(Fr, w), (S90, W86), (one g45, W49), (S42, W38), (S25, W21), (one g11, W15), (S8, W4)] := M100.front [(S90, W86), (one g45, W49), (S42, W38), (S25, W21), (one g11, W15), (S8, W4)] rfl
          have M167 : Mem W98 [(S8, W4), (Fr, w), (S90, W86), (one g45, W49), (S42, W38), (S25, W21), (one g11, W15)] := M166.front [(Fr, w), (S90, W86), (one g45, W49), (S42, W38), (S25, W21), (one g11, W15)] rfl
          have M168 : Mem W98 [(one g11, W15), (S8, W4), (Fr, w), (S90, W86), (one g45, W49), (S42, W38), (S25, W21)] := M167.front [(S8, W4), (Fr, w), (S90, W86), (one g45, W49), (S42, W38), (S25, W21)] rfl
          have M169 : Mem W98 [(S25, W21), (one g11, W15), (S8, W4), (Fr, w), (S90, W86), (one g45, W49), (S42, W38)] := M168.front [(one g11, W15), (S8, W4), (Fr, w), (S90, W86), (one g45, W49), (S42, W38)] rfl
          have M170 : Mem W98 [(S42, W38), (S25, W21), (one g11, W15), (S8, W4), (Fr, w), (S90, W86), (one g45, W49)] := M169.front [(S25, W21), (one g11, W15), (S8, W4), (Fr, w), (S90, W86), (one g45, W49)] rfl
          have M171 : Mem W98 [(one g45, W49), (S42, W38), (S25, W21), (one g11, W15), (S8, W4), (Fr, w), (S90, W86)] := M170.front [(S42, W38), (S25, W21), (one g11, W15), (S8, W4), (Fr, w), (S90, W86)] rfl
          have M172 : Mem W98 [(one g45, W49), (S42, W38), (S25, W21), (one g11, W15), (S8, W4), (Fr, w)] := M171.sub (List.prefix_append [(one g45, W49), (S42, W38), (S25, W21), (one g11, W15), (S8, W4), (Fr, w)] [(S90, W86)]).sublist
          exact ⟨_, updL_same _ _ ⟨rfl, trivial⟩, M172⟩
      · replace hz80 := ifN c82 hz80
        refine WD_known 47 false (wfalse c82) ?_
        refine WD_take 2 rfl (by kernel_rfl) (by kernel_rfl) (by kernel_rfl) (by kernel_rfl) (by kernel_rfl) (fun _ _ _ h => h) rfl undef (M81.sub (.cons_cons _ (.cons_cons _ (.cons_cons _ (.cons_cons _ (.cons_cons _ (.cons_cons _ .slnil))))))) (.inr ⟨rfl, rfl⟩) ?_
        refine WD_take 3 rfl (by kernel_rfl) (by kernel_rfl) (by kernel_rfl) (by kernel_rfl) (by kernel_rfl) (fun _ _ _ h => h) rfl undef (M81.sub (.cons_cons _ (.cons_cons _ (.cons_cons _ (.cons_cons _ (.cons_cons _ (.cons_cons _ .slnil))))))) (.inr ⟨rfl, rfl⟩) ?_
        refine WD_take 4 rfl (by kernel_rfl) (by kernel_rfl) (by kernel_rfl) (by kernel_rfl) (by kernel_rfl) (fun _ _ _ h => h) rfl undef (M81.sub (.cons_cons _ (.cons_cons _ (.cons_cons _ (.cons_cons _ (.cons_cons _ (.cons_cons _ .slnil))))))) (.inr ⟨rfl, rfl⟩) ?_
        refine WD_take' 5 rfl (by kernel_rfl) (by kernel_rfl) (by kernel_rfl) (by kernel_rfl) (by kernel_rfl) rfl (fun _ _ _ h => h) rfl _ (M81.sub (.cons_cons _ (.cons_cons _ (.cons_cons _ (.cons_cons _ (.cons_cons _ (.cons_cons _ .slnil))))))) rfl (fun w_ hS => L_pick rfl rfl false rfl (.bool false) rfl  ⟨rfl, rfl⟩) ?_
        refine WD_take' 6 rfl (by kernel_rfl) (by kernel_rfl) (by kernel_rfl) (by kernel_rfl) (by kernel_rfl) rfl (fun _ _ _ h => h) rfl _ (M81.sub (.cons_cons _ (.cons_cons _ (.cons_cons _ (.cons_cons _ (.cons_cons _ (.cons_cons _ .slnil))))))) rfl (fun w_ hS => L_move rfl rfl (.bool false) rfl  ⟨rfl, rfl⟩) ?_
        refine WD_take 7 rfl (by kernel_rfl) (by kernel_rfl) (by kernel_rfl) (by kernel_rfl) (by kernel_rfl) (fun _ _ _ h => h) rfl undef (M81.sub (.cons_cons _ (.cons_cons _ (.cons_cons _ (.cons_cons _ (.cons_cons _ (.cons_cons _ .slnil))))))) (.inr ⟨rfl, rfl⟩) ?_
        refine WD_take 8 rfl (by kernel_rfl) (by kernel_rfl) (by kernel_rfl) (by kernel_rfl) (by kernel_rfl) (fun _ _ _ h => h) rfl undef (M81.sub (.cons_cons _ (.cons_cons _ (.cons_cons _ (.cons_cons _ (.cons_cons _ (.cons_cons _ .slnil))))))) (.inr ⟨rfl, rfl⟩) ?_
        refine WD_take 9 rfl (by kernel_rfl) (by kernel_rfl) (by kernel_rfl) (by kernel_rfl) (by kernel_rfl) (fun _ _ _ h => h) rfl undef (M81.sub (.cons_cons _ (.cons_cons _ (.cons_cons _ (.cons_cons _ (.cons_cons _ (.cons_cons _ .slnil))))))) (.inr ⟨rfl, rfl⟩) ?_
        refine WD_take 10 rfl (by kernel_rfl) (by kernel_rfl) (by kernel_rfl) (by kernel_rfl) (by kernel_rfl) (fun _ _ _ h => h) rfl undef (M81.sub (.cons_cons _ (.cons_cons _ (.cons_cons _ (.cons_cons _ (.cons_cons _ (.cons_cons _ .slnil))))))) (.inr ⟨rfl, rfl⟩) ?_
        refine WD_take' 11 rfl (by kernel_rfl) (by kernel_rfl) (by kernel_rfl) (by kernel_rfl) (by kernel_rfl) rfl (fun _ _ _ h => h) rfl _ (M81.sub (.cons_cons _ (.cons_cons _ (.cons_cons _ (.cons_cons _ (.cons_cons _ (.cons_cons _ .slnil))))))) rfl (fun w_ hS => L_pick rfl rfl false rfl (.bool false) rfl  ⟨rfl, rfl⟩) ?_
        refine WD_take' 12 rfl (by kernel_rfl) (by kernel_rfl) (by kernel_rfl) (by kernel_rfl) (by kernel_rfl) rfl (fun _ _ _ h => h) rfl _ (M81.sub (.cons_cons _ (.cons_cons _ (.cons_cons _ (.cons_cons _ (.cons_cons _ (.cons_cons _ .slnil))))))) rfl (fun w_ hS => L_move rfl rfl (.bool false) rfl  ⟨rfl, rfl⟩) ?_
        refine WD_take 13 rfl (by kernel_rfl) (by kernel_rfl) (by kernel_rfl) (by kernel_rfl) (by kernel_rfl) (fun _ _ _ h => h) rfl undef (M81.sub (.cons_cons _ (.cons_cons _ (.cons_cons _ (.cons_cons _ (.cons_cons _ (.cons_cons _ .slnil))))))) (.inr ⟨rfl, rfl⟩) ?_
        refine WD_take 14 rfl (by kernel_rfl) (by kernel_rfl) (by kernel_rfl) (by kernel_rfl) (by kernel_rfl) (fun _ _ _ h => h) rfl undef (M81.sub (.cons_cons _ (.cons_cons _ (.cons_cons _ (.cons_cons _ (.cons_cons _ (.cons_cons _ .slnil))))))) (.inr ⟨rfl, rfl⟩) ?_
        refine WD_take 15 rfl (by kernel_rfl) (by kernel_rfl) (by kernel_rfl) (by kernel_rfl) (by kernel_rfl) (fun _ _ _ h => h) rfl undef (M81.sub (.cons_cons _ (.cons_cons _ (.cons_cons _ (.cons_cons _ (.cons_cons _ (.cons_cons _ .slnil))))))) (.inr ⟨rfl, rfl⟩) ?_
        refine WD_take 16 rfl (by kernel_rfl) (by kernel_rfl) (by kernel_rfl) (by kernel_rfl) (by kernel_rfl) (fun _ _ _ h => h) rfl undef (M81.sub (.cons_cons _ (.cons_cons _ (.cons_cons _ (.cons_cons _ (.cons_cons _ (.cons_cons _ .slnil))))))) (.inr ⟨rfl, rfl⟩) ?_
        refine WD_take' 17 rfl (by kernel_rfl) (by kernel_rfl) (by kernel_rfl) (by kernel_rfl) (by kernel_rfl) rfl (fun _ _ _ h => h) rfl _ (M81.sub (.cons_cons _ (.cons_cons _ (.cons_cons _ (.cons_cons _ (.cons_cons _ (.cons_cons _ .slnil))))))) rfl (fun w_ hS => L_pick rfl rfl false rfl (.bool false) rfl  ⟨rfl, rfl⟩) ?_
        refine WD_take' 18 rfl (by kernel_rfl) (by kernel_rfl) (by kernel_rfl) (by kernel_rfl) (by kernel_rfl) rfl (fun _ _ _ h => h) rfl _ (M81.sub (.cons_cons _ (.cons_cons _ (.cons_cons _ (.cons_cons _ (.cons_cons _ (.cons_cons _ .slnil))))))) rfl (fun w_ hS => L_move rfl rfl (.bool false) rfl  ⟨rfl, rfl⟩) ?_
        refine WD_take 19 rfl (by kernel_rfl) (by kernel_rfl) (by kernel_rfl) (by kernel_rfl) (by kernel_rfl) (fun _ _ _ h => h) rfl undef (M81.sub (.cons_cons _ (.cons_cons _ (.cons_cons _ (.cons_cons _ (.cons_cons _ (.cons_cons _ .slnil))))))) (.inr ⟨rfl, rfl⟩) ?_
        refine WD_take' 20 rfl (by kernel_rfl) (by kernel_rfl) (by kernel_rfl) (by kernel_rfl) (by kernel_rfl) rfl (fun _ _ _ h => h) rfl _ (M81.sub (.cons_cons _ (.cons_cons _ (.cons_cons _ (.cons_cons _ (.cons_cons _ (.cons_cons _ .slnil))))))) rfl (fun w_ hS => L_pick rfl rfl false rfl (.bool false) rfl  ⟨rfl, rfl⟩) ?_
        refine WD_take' 21 rfl (by kernel_rfl) (by kernel_rfl) (by kernel_rfl) (by kernel_rfl) (by kernel_rfl) rfl (fun _ _ _ h => h) rfl _ (M81.sub (.cons_cons _ (.cons_cons _ (.cons_cons _ (.cons_cons _ (.cons_cons _ (.cons_cons _ .slnil))))))) rfl (fun w_ hS => L_assign rfl rfl (.bool false) rfl  ⟨rfl, rfl⟩) ?_
        refine WD_done (by kernel_rfl) ?_
        refine thenN ?_
        obtain rfl := someE hz80
        exact ⟨_, updL_same _ _ ⟨rfl, trivial⟩, M81⟩
    · rintro _ W173 ⟨ρ175, rfl, M174⟩
      refine WC_ret ?_
      obtain rfl := someE H
      have M176 : Mem W173 [(Fr, w), (one g45, W49), (S42, W38), (S25, W21), (one g11, W15), (S8, W4)] := M174.front [(one g45, W49), (S42, W38), (S25, W21), (one g11, W15), (S8, W4)] rfl
      have M177 : Mem W173 [(Fr, w)] := M176.sub (List.prefix_append [(Fr, w)] [(one g45, W49), (S42, W38), (S25, W21), (one g11, W15), (S8, W4)]).sublist
      refine retR [.bool z79] ⟨rfl, trivial⟩ ?_
      exact ⟨rfl, M177⟩

/-! ### annals/annalslaw15.equal: function 11 -/
def annalslaw15_equal.l0 : Nat → api_Plan → api_Plan → Bool → Int → Option Bool
  | 0, _, _, _, _ => none
  | k + 1, a0, a1, x23, x24 => (if (x24 : Int) < (a0.Steps.length : Int) then (atL a0.Steps x24).bind (fun q33 => (atL a1.Steps x24).bind (fun q42 => (if q33 ≠ q42 then (some false) else (annalslaw15_equal.l0 k a0 a1 x23 (wrap64 (x24 + 1)))))) else (some true))
def annalslaw15_equal (k : Nat) (a0 : api_Plan) (a1 : api_Plan) : Option Bool :=
  ((if (a0.Name : Str) ≠ a1.Name then (some true) else (if (a0.Pivot : Int) ≠ a1.Pivot then (some true) else (some (decide (((a0.Steps.length : Int) : Int) ≠ (a1.Steps.length : Int))))))).bind (fun (z9 : Bool) => (if z9 = true then (some false) else (annalslaw15_equal.l0 k a0 a1 false 0)))
set_option maxRecDepth 100000 in
set_option maxHeartbeats 4000000 in
theorem annalslaw15_equal_ok (k : Nat) (a0 : api_Plan) (Aa0_0 : Option Addr) (ca0_0 : Nat) (a1 : api_Plan) (Aa1_0 : Option Addr) (ca1_0 : Nat) (r : Bool) (w : World) (Fr : BS) (hG : Gl Fr w) (hF : ∀ b, Fr b → b < w.heap.size) (ha0_0 : SR w Fr w Fr Aa0_0 ca0_0 a0.Steps) (ha1_0 : SR w Fr w Fr Aa1_0 ca1_0 a1.Steps) (H : annalslaw15_equal k a0 a1 = some r) :
    CallsR Tryd.prog 11 #[.agg #[.string (sv a0.Name), .int .i64 a0.Pivot, .slice Aa0_0 a0.Steps.length ca0_0], .agg #[.string (sv a1.Name), .int .i64 a1.Pivot, .slice Aa1_0 a1.Steps.length ca1_0]] w (fun v w' => v = .bool r ∧ Mem w' [(Fr, w)]) := by
  have M0 := Mem.start w Fr hF
  refine enterZ (args := [.agg #[.string (sv a0.Name), .int .i64 a0.Pivot, .slice Aa0_0 a0.Steps.length ca0_0], .agg #[.string (sv a1.Name), .int .i64 a1.Pivot, .slice Aa1_0 a1.Steps.length ca1_0]]) [.tmp 4] Tryd.func11 rfl rfl rfl rfl ?_
  unfold annalslaw15_equal at H
  refine WC_seq ?_
  refine WC_region ?_
  refine WL_of (L_box M0 rfl rfl (.agg #[.string (sv a0.Name), .int .i64 a0.Pivot, .slice Aa0_0 a0.Steps.length ca0_0]) rfl [.string (sv a0.Name), .int .i64 a0.Pivot, .slice Aa0_0 a0.Steps.length ca0_0] rfl ?_)
  intro g1 W2 B3 M4
  refine WL_of (L_box M4 rfl rfl (.agg #[.string (sv a1.Name), .int .i64 a1.Pivot, .slice Aa1_0 a1.Steps.length ca1_0]) rfl [.string (sv a1.Name), .int .i64 a1.Pivot, .slice Aa1_0 a1.Steps.length ca1_0] rfl ?_)
  intro g5 W6 B7 M8
  refine WL_of (L_assign rfl rfl (.bool false) rfl ?_)
  refine WL_nil ?_
  refine thenN ?_
  refine WC_seq ?_
  obtain ⟨z9, hz10, H⟩ := bindS H
  refine WC_cut (fun ρ w_ => ∃  (ρ0 : Nat → Value), ρ = updL ρ0 [(2, .pointer (some ⟨g1, 0, none⟩)), (3, .pointer (some ⟨g5, 0, none⟩)), (4, .bool false), (26, .bool z9)] ∧ Mem w_ [(one g5, W6), (one g1, W2), (Fr, w)]) ?_ ?_
  · refine WC_region ?_
    refine WL_of (L_field rfl rfl fd24_0 ⟨g1, 0, none⟩ rfl ?_)
    refine WL_of (L_load1 rfl rfl Tryd.underlying9 rfl B3.el (M8.agree 1 rfl) 0 rfl (.string (sv a0.Name)) rfl ?_)
    refine WL_of (L_field rfl rfl fd24_0 ⟨g5, 0, none⟩ rfl ?_)
    refine WL_of (L_load1 rfl rfl Tryd.underlying9 rfl B7.el (M8.agree 0 rfl) 0 rfl (.string (sv a1.Name)) rfl ?_)
    refine WL_of (L_bin rfl rfl (.string (sv a0.Name)) (.string (sv a1.Name)) rfl rfl (.bool (decide ((a0.Name : Str) ≠ a1.Name))) (B_sneq _ _ _ a0.Name a1.Name) ?_)
    refine WL_of (L_move rfl rfl (.bool (decide ((a0.Name : Str) ≠ a1.Name))) rfl ?_)
    by_cases c11 : (a0.Name : Str) ≠ a1.Name
    · replace hz10 := ifP c11 hz10
      refine WL_known 11 true (vtrue c11) ?_
      refine WL_of (WO_off rfl rfl ?_)
      refine WL_of (WO_off rfl rfl ?_)
      refine WL_of (WO_off rfl rfl ?_)
      refine WL_of (WO_off rfl rfl ?_)
      refine WL_of (WO_off rfl rfl ?_)
      refine WL_of (L_pick rfl rfl true rfl (.bool true) rfl ?_)
      refine WL_of (L_move rfl rfl (.bool true) rfl ?_)
      refine WL_of (WO_off rfl rfl ?_)
      refine WL_of (WO_off rfl rfl ?_)
      refine WL_of (WO_off rfl rfl ?_)
      refine WL_of (WO_off rfl rfl ?_)
      refine WL_of (WO_off rfl rfl ?_)
      refine WL_of (WO_off rfl rfl ?_)
      refine WL_of (WO_off rfl rfl ?_)
      refine WL_of (L_pick rfl rfl true rfl (.bool true) rfl ?_)
      refine WL_nil ?_
      refine thenN ?_
      obtain rfl := someE hz10
      exact ⟨_, updL_same _ _ ⟨rfl, rfl, rfl, rfl, trivial⟩, M8⟩
    · replace hz10 := ifN c11 hz10
      refine WL_known 11 false (vfalse c11) ?_
      refine WL_of (L_field rfl rfl fd24_1 ⟨g1, 0, none⟩ rfl ?_)
      refine WL_of (L_load1 rfl rfl Tryd.underlying3 rfl B3.el (M8.agree 1 rfl) 1 rfl (.int .i64 a0.Pivot) rfl ?_)
      refine WL_of (L_field rfl rfl fd24_1 ⟨g5, 0, none⟩ rfl ?_)
      refine WL_of (L_load1 rfl rfl Tryd.underlying3 rfl B7.el (M8.agree 0 rfl) 1 rfl (.int .i64 a1.Pivot) rfl ?_)
      refine WL_of (L_bin rfl rfl (.int .i64 a0.Pivot) (.int .i64 a1.Pivot) rfl rfl (.bool (decide ((a0.Pivot : Int) ≠ a1.Pivot))) (B_neq _ _ _ _ a0.Pivot a1.Pivot) ?_)
      refine WL_of (L_pick rfl rfl false rfl (.bool (decide ((a0.Pivot : Int) ≠ a1.Pivot))) rfl ?_)
      refine WL_of (L_move rfl rfl (.bool (decide ((a0.Pivot : Int) ≠ a1.Pivot))) rfl ?_)
      by_cases c12 : (a0.Pivot : Int) ≠ a1.Pivot
      · replace hz10 := ifP c12 hz10
        refine WL_known 18 true (vtrue c12) ?_
        refine WL_of (WO_off rfl rfl ?_)
        refine WL_of (WO_off rfl rfl ?_)
        refine WL_of (WO_off rfl rfl ?_)
        refine WL_of (WO_off rfl rfl ?_)
        refine WL_of (WO_off rfl rfl ?_)
        refine WL_of (WO_off rfl rfl ?_)
        refine WL_of (WO_off rfl rfl ?_)
        refine WL_of (L_pick rfl rfl true rfl (.bool true) rfl ?_)
        refine WL_nil ?_
        refine thenN ?_
        obtain rfl := someE hz10
        exact ⟨_, updL_same _ _ ⟨rfl, rfl, rfl, rfl, trivial⟩, M8⟩
      · replace hz10 := ifN c12 hz10
        refine WL_known 18 false (vfalse c12) ?_
        refine WL_of (L_field rfl rfl fd24_2 ⟨g1, 0, none⟩ rfl ?_)
        refine WL_of (L_load1 rfl rfl Tryd.underlying22 rfl B3.el (M8.agree 1 rfl) 2 rfl (.slice Aa0_0 a0.Steps.length ca0_0) rfl ?_)
        refine WL_of (L_len rfl rfl (.slice Aa0_0 a0.Steps.length ca0_0) rfl (a0.Steps.length) (N_slice Tryd.underlying22 _ _ _) ?_)
        refine WL_of (L_field rfl rfl fd24_2 ⟨g5, 0, none⟩ rfl ?_)
        refine WL_of (L_load1 rfl rfl Tryd.underlying22 rfl B7.el (M8.agree 0 rfl) 2 rfl (.slice Aa1_0 a1.Steps.length ca1_0) rfl ?_)
        refine WL_of (L_len rfl rfl (.slice Aa1_0 a1.Steps.length ca1_0) rfl (a1.Steps.length) (N_slice Tryd.underlying22 _ _ _) ?_)
        refine WL_of (L_bin rfl rfl (.int .i64 (a0.Steps.length : Int)) (.int .i64 (a1.Steps.length : Int)) rfl rfl (.bool (decide (((a0.Steps.length : Int) : Int) ≠ (a1.Steps.length : Int)))) (B_neq _ _ _ _ (a0.Steps.length : Int) (a1.Steps.length : Int)) ?_)
        refine WL_of (L_pick rfl rfl false rfl (.bool (decide (((a0.Steps.length : Int) : Int) ≠ (a1.Steps.length : Int)))) rfl ?_)
        refine WL_nil ?_
        refine thenN ?_
        obtain rfl := someE hz10
        exact ⟨_, updL_same _ _ ⟨rfl, rfl, rfl, rfl, trivial⟩, M8⟩
  · rintro _ W13 ⟨ρ15, rfl, M14⟩
    refine WC_ifb rfl (fun c16 => ?_) (fun c16 => ?_)
    · replace H := ifP c16 H
      refine WC_seq ?_
      refine WC_region ?_
      refine WL_of (L_assign rfl rfl (.bool false) rfl ?_)
      refine WL_nil ?_
      refine thenN ?_
      refine WC_ret ?_
      refine thenR ?_
      obtain rfl := someE H
      have M17 : Mem W13 [(Fr, w), (one g5, W6), (one g1, W2)] := M14.front [(one g5, W6), (one g1, W2)] rfl
      have M18 : Mem W13 [(Fr, w)] := M17.sub (List.prefix_append [(Fr, w)] [(one g5, W6), (one g1, W2)]).sublist
      refine retR [.bool false] ⟨rfl, trivial⟩ ?_
      exact ⟨rfl, M18⟩
    · replace H := ifN (by rw [c16]; simp) H
      refine WC_skip ?_
      refine thenN ?_
      refine WC_seq ?_
      refine WC_seq ?_
      refine WC_region ?_
      refine WL_of (L_assign rfl rfl (.int .i64 0) rfl ?_)
      refine WL_nil ?_
      refine thenN ?_
      refine WC_block ?_
      refine WC_loop (fun k29 ρ w_ => ∃ (x23 : Bool) (x24 : Int) (ρ0 : Nat → Value), ρ = updL ρ0 [(2, .pointer (some ⟨g1, 0, none⟩)), (3, .pointer (some ⟨g5, 0, none⟩)), (4, .bool x23), (5, .int .i64 x24)] ∧ Mem w_ [(one g5, W6), (one g1, W2), (Fr, w)] ∧ k29 ≤ k ∧ annalslaw15_equal.l0 k29 a0 a1 x23 x24 = some r) k ?_ ?_
      · exact ⟨false, 0, _, updL_same _ _ ⟨rfl, rfl, rfl, rfl, trivial⟩, M14, (Nat.le_refl _), H⟩
      · rintro k29 _ W25 ⟨x23, x24, ρ27, rfl, M26, hk30, H28⟩
        cases k29 with
        | zero => rw [annalslaw15_equal.l0] at H28; cases H28
        | succ k29 =>
        rw [annalslaw15_equal.l0] at H28
        refine WC_seq ?_
        refine WC_seq ?_
        refine WC_region ?_
        refine WL_of (L_move rfl rfl (.int .i64 x24) rfl ?_)
        refine WL_of (L_field rfl rfl fd24_2 ⟨g1, 0, none⟩ rfl ?_)
        refine WL_of (L_load1 rfl rfl Tryd.underlying22 rfl B3.el (M26.agree 1 rfl) 2 rfl (.slice Aa0_0 a0.Steps.length ca0_0) rfl ?_)
        refine WL_of (L_len rfl rfl (.slice Aa0_0 a0.Steps.length ca0_0) rfl (a0.Steps.length) (N_slice Tryd.underlying22 _ _ _) ?_)
        refine WL_of (L_bin rfl rfl (.int .i64 x24) (.int .i64 (a0.Steps.length : Int)) rfl rfl (.bool (decide ((x24 : Int) < (a0.Steps.length : Int)))) (B_lss _ _ _ _ x24 (a0.Steps.length : Int)) ?_)
        refine WL_nil ?_
        refine thenN ?_
        refine WC_if (p := (x24 : Int) < (a0.Steps.length : Int)) rfl (fun c31 => ?_) (fun c31 => ?_)
        · replace H28 := ifP c31 H28
          refine WC_skip ?_
          refine thenN ?_
          refine WC_seq ?_
          refine WC_block ?_
          refine WC_seq ?_
          refine WD_start (n := 11) (fun w_ => Mem w_ [(one g5, W6), (one g1, W2), (Fr, w)]) [] mixed rfl ?_
          have M32 := M26.drawn
          refine WD_take' 0 rfl (by kernel_rfl) (by kernel_rfl) (by kernel_rfl) (by kernel_rfl) (by kernel_rfl) rfl (fun _ _ _ h => h) rfl _ (M32.sub (.cons_cons _ (.cons_cons _ (.cons_cons _ .slnil)))) rfl (fun w_ hS => L_field rfl rfl fd24_2 ⟨g1, 0, none⟩ rfl  ⟨rfl, rfl⟩) ?_
          refine WD_take' 1 rfl (by kernel_rfl) (by kernel_rfl) (by kernel_rfl) (by kernel_rfl) (by kernel_rfl) rfl (fun _ _ _ h => h) rfl _ (M32.sub (.cons_cons _ (.cons_cons _ (.cons_cons _ .slnil)))) rfl (fun w_ hS => L_load1 rfl rfl Tryd.underlying22 rfl B3.el (hS.agree 1 rfl) 2 rfl (.slice Aa0_0 a0.Steps.length ca0_0) rfl  ⟨rfl, rfl⟩) ?_
          refine WD_take' 2 rfl (by kernel_rfl) (by kernel_rfl) (by kernel_rfl) (by kernel_rfl) (by kernel_rfl) rfl (fun _ _ _ h => h) rfl _ (M32.sub (.cons_cons _ (.cons_cons _ (.cons_cons _ .slnil)))) rfl (fun w_ hS => L_move rfl rfl (.int .i64 x24) rfl  ⟨rfl, rfl⟩) ?_
          obtain ⟨q33, hq34, H28⟩ := bindS H28
          obtain ⟨ad35, cs36, hA37, E38, R39⟩ := ha0_0.at hq34
          have hl40 := atL_spec hq34
          refine WD_take' 3 rfl (by kernel_rfl) (by kernel_rfl) (by kernel_rfl) (by kernel_rfl) (by kernel_rfl) rfl (fun _ _ _ h => h) rfl _ (M32.sub (.cons_cons _ (.cons_cons _ (.cons_cons _ .slnil)))) rfl (fun w_ hS => L_index rfl rfl Tryd.underlying22 sz44 rfl rfl hA37 hl40.1 hl40.2.1  ⟨rfl, rfl⟩) ?_
          obtain rfl := R39
          have E41 : El w Fr (Addr.add ad35 (Int.toNat x24 * 3)) [.string (sv q33.Do), .string (sv q33.Undo), .int .i64 q33.Tries] := E38
          refine WD_take' 4 rfl (by kernel_rfl) (by kernel_rfl) (by kernel_rfl) (by kernel_rfl) (by kernel_rfl) rfl (fun _ _ _ h => h) rfl _ (M32.sub (.cons_cons _ (.cons_cons _ (.cons_cons _ .slnil)))) rfl (fun w_ hS => L_loadN rfl rfl Tryd.underlying44 rfl E41 (hS.agree 2 rfl) 0 rfl 3 sz44 [.string (sv q33.Do), .string (sv q33.Undo), .int .i64 q33.Tries] rfl rfl  ⟨rfl, rfl⟩) ?_
          refine WD_take' 5 rfl (by kernel_rfl) (by kernel_rfl) (by kernel_rfl) (by kernel_rfl) (by kernel_rfl) rfl (fun _ _ _ h => h) rfl _ (M32.sub (.cons_cons _ (.cons_cons _ (.cons_cons _ .slnil)))) rfl (fun w_ hS => L_field rfl rfl fd24_2 ⟨g5, 0, none⟩ rfl  ⟨rfl, rfl⟩) ?_
          refine WD_take' 6 rfl (by kernel_rfl) (by kernel_rfl) (by kernel_rfl) (by kernel_rfl) (by kernel_rfl) rfl (fun _ _ _ h => h) rfl _ (M32.sub (.cons_cons _ (.cons_cons _ (.cons_cons _ .slnil)))) rfl (fun w_ hS => L_load1 rfl rfl Tryd.underlying22 rfl B7.el (hS.agree 0 rfl) 2 rfl (.slice Aa1_0 a1.Steps.length ca1_0) rfl  ⟨rfl, rfl⟩) ?_
          refine WD_take' 7 rfl (by kernel_rfl) (by kernel_rfl) (by kernel_rfl) (by kernel_rfl) (by kernel_rfl) rfl (fun _ _ _ h => h) rfl _ (M32.sub (.cons_cons _ (.cons_cons _ (.cons_cons _ .slnil)))) rfl (fun w_ hS => L_move rfl rfl (.int .i64 x24) rfl  ⟨rfl, rfl⟩) ?_
          obtain ⟨q42, hq43, H28⟩ := bindS H28
          obtain ⟨ad44, cs45, hA46, E47, R48⟩ := ha1_0.at hq43
          have hl49 := atL_spec hq43
          refine WD_take' 8 rfl (by kernel_rfl) (by kernel_rfl) (by kernel_rfl) (by kernel_rfl) (by kernel_rfl) rfl (fun _ _ _ h => h) rfl _ (M32.sub (.cons_cons _ (.cons_cons _ (.cons_cons _ .slnil)))) rfl (fun w_ hS => L_index rfl rfl Tryd.underlying22 sz44 rfl rfl hA46 hl49.1 hl49.2.1  ⟨rfl, rfl⟩) ?_
          obtain rfl := R48
          have E50 : El w Fr (Addr.add ad44 (Int.toNat x24 * 3)) [.string (sv q42.Do), .string (sv q42.Undo), .int .i64 q42.Tries] := E47
          refine WD_take' 9 rfl (by kernel_rfl) (by kernel_rfl) (by kernel_rfl) (by kernel_rfl) (by kernel_rfl) rfl (fun _ _ _ h => h) rfl _ (M32.sub (.cons_cons _ (.cons_cons _ (.cons_cons _ .slnil)))) rfl (fun w_ hS => L_loadN rfl rfl Tryd.underlying44 rfl E50 (hS.agree 2 rfl) 0 rfl 3 sz44 [.string (sv q42.Do), .string (sv q42.Undo), .int .i64 q42.Tries] rfl rfl  ⟨rfl, rfl⟩) ?_
          refine WD_take' 10 rfl (by kernel_rfl) (by kernel_rfl) (by kernel_rfl) (by kernel_rfl) (by kernel_rfl) rfl (fun _ _ _ h => h) rfl _ (M32.sub (.cons_cons _ (.cons_cons _ (.cons_cons _ .slnil)))) rfl (fun w_ hS => L_bin rfl rfl (.agg #[.string (sv q33.Do), .string (sv q33.Undo), .int .i64 q33.Tries]) (.agg #[.string (sv q42.Do), .string (sv q42.Undo), .int .i64 q42.Tries]) rfl rfl (.bool (decide (q33 ≠ q42))) (eq44_neq _ _ q33 q42)  ⟨rfl, rfl⟩) ?_
          refine WD_done (by kernel_rfl) ?_
          refine thenN ?_
          refine WC_if (p := q33 ≠ q42) rfl (fun c51 => ?_) (fun c51 => ?_)
          · replace H28 := ifP c51 H28
            refine WC_seq ?_
            refine WC_region ?_
            refine WL_of (L_assign rfl rfl (.bool false) rfl ?_)
            refine WL_nil ?_
            refine thenN ?_
            refine WC_ret ?_
            refine blkR ?_
            refine thenR ?_
            refine thenR ?_
            refine blkR ?_
            refine thenR ?_
            obtain rfl := someE H28
            have M52 : Mem (drawnZ W25) [(Fr, w), (one g5, W6), (one g1, W2)] := M32.front [(one g5, W6), (one g1, W2)] rfl
            have M53 : Mem (drawnZ W25) [(Fr, w)] := M52.sub (List.prefix_append [(Fr, w)] [(one g5, W6), (one g1, W2)]).sublist
            refine retR [.bool false] ⟨rfl, trivial⟩ ?_
            exact ⟨rfl, M53⟩
          · replace H28 := ifN c51 H28
            refine WC_skip ?_
            refine blkN ?_
            refine thenN ?_
            refine WC_region ?_
            refine WL_of (L_move rfl rfl (.int .i64 x24) rfl ?_)
            refine WL_of (L_bin rfl rfl (.int .i64 x24) (.int .i64 1) rfl rfl (.int .i64 (wrap64 (x24 + 1))) (B_add _ _ _ x24 1) ?_)
            refine WL_of (L_assign rfl rfl (.int .i64 (wrap64 (x24 + 1))) rfl ?_)
            refine WL_nil ?_
            refine thenN ?_
            exact ⟨k29, by omega, x23, wrap64 (x24 + 1), _, updL_same _ _ ⟨rfl, rfl, rfl, rfl, trivial⟩, M32, (by omega), H28⟩
        · replace H28 := ifN c31 H28
          refine WC_exit ?_
          refine thenE ?_
          refine thenE ?_
          refine blkX ?_
          refine thenN ?_
          refine WC_seq ?_
          refine WC_region ?_
          refine WL_of (L_assign rfl rfl (.bool true) rfl ?_)
          refine WL_nil ?_
          refine thenN ?_
          refine WC_ret ?_
          obtain rfl := someE H28
          have M54 : Mem W25 [(Fr, w), (one g5, W6), (one g1, W2)] := M26.front [(one g5, W6), (one g1, W2)] rfl
          have M55 : Mem W25 [(Fr, w)] := M54.sub (List.prefix_append [(Fr, w)] [(one g5, W6), (one g1, W2)]).sublist
          refine retR [.bool true] ⟨rfl, trivial⟩ ?_
          exact ⟨rfl, M55⟩

/-! ### annals/annalslaw15.PlanBack: function 3 -/
def annalslaw15_PlanBack (k : Nat) (a0 : api_Plan) : Option Bool :=
  (annalslaw15_started k ).bind (fun (r6 : Bool) => (plan_Print k a0).bind (fun (r12 : (Str × Int)) => ((if (!r6) = true then (some true) else (annalslaw15_num r12.2).bind (fun (r22 : Int) => (plan_Check k a0).bind (fun (r28 : Int) => (annalslaw15_num r28).bind (fun (r34 : Int) => (some (decide ((r22 : Int) ≠ r34)))))))).bind (fun (z17 : Bool) => (if z17 = true then (some false) else (annalslaw15_num r12.2).bind (fun (r46 : Int) => (if (r46 : Int) ≠ 0 then (some (decide ((r12.1 : Str) = (lit [])))) else (plan_Parse k r12.1).bind (fun (r55 : (api_Plan × Int × Int)) => ((annalslaw15_num r55.2.1).bind (fun (r74 : Int) => (if (r74 : Int) = 0 then (if (r55.2.2 : Int) = 0 then (annalslaw15_equal k a0 r55.1).bind (fun (r83 : Bool) => (some r83)) else (some false)) else (some false)))).bind (fun (z71 : Bool) => (some z71)))))))))
set_option maxRecDepth 100000 in
set_option maxHeartbeats 4000000 in
theorem annalslaw15_PlanBack_ok (k : Nat) (a0 : api_Plan) (Aa0_0 : Option Addr) (ca0_0 : Nat) (r : Bool) (w : World) (Fr : BS) (hG : Gl Fr w) (hF : ∀ b, Fr b → b < w.heap.size) (ha0_0 : SR w Fr w Fr Aa0_0 ca0_0 a0.Steps) (H : annalslaw15_PlanBack k a0 = some r) :
    CallsR Tryd.prog 3 #[.agg #[.string (sv a0.Name), .int .i64 a0.Pivot, .slice Aa0_0 a0.Steps.length ca0_0]] w (fun v w' => v = .bool r ∧ Mem w' [(Fr, w)]) := by
  have M0 := Mem.start w Fr hF
  refine enterZ (args := [.agg #[.string (sv a0.Name), .int .i64 a0.Pivot, .slice Aa0_0 a0.Steps.length ca0_0]]) [.tmp 2] Tryd.func3 rfl rfl rfl rfl ?_
  unfold annalslaw15_PlanBack at H
  refine WC_seq ?_
  refine WC_region ?_
  refine WL_of (L_box M0 rfl rfl (.agg #[.string (sv a0.Name), .int .i64 a0.Pivot, .slice Aa0_0 a0.Steps.length ca0_0]) rfl [.string (sv a0.Name), .int .i64 a0.Pivot, .slice Aa0_0 a0.Steps.length ca0_0] rfl ?_)
  intro g1 W2 B3 M4
  refine WL_of (L_assign rfl rfl (.bool false) rfl ?_)
  refine WL_nil ?_
  refine thenN ?_
  refine WC_seq ?_
  refine WC_region ?_
  obtain ⟨r6, hr7, H⟩ := bindS H
  refine WL_of (L_call' rfl rfl cf6 [] rfl (annalslaw15_started_ok k  r6 _ (Un [(one g1, W2), (Fr, w)]) (hG.call M4 1 rfl) M4.frame  hr7) ?_)
  rintro _ W8 ⟨rfl, M9⟩
  have M10 : Mem W8 [(one g1, W2), (Fr, w)] := M4.back (New := []) M9
  refine WL_of (L_assign rfl rfl (.bool r6) rfl ?_)
  refine WL_nil ?_
  refine thenN ?_
  refine WC_seq ?_
  refine WC_region ?_
  refine WL_of (L_loadN rfl rfl Tryd.underlying24 rfl B3.el (M10.agree 0 rfl) 0 rfl 3 sz24 [.string (sv a0.Name), .int .i64 a0.Pivot, .slice Aa0_0 a0.Steps.length ca0_0] rfl rfl ?_)
  obtain ⟨r12, hr13, H⟩ := bindS H
  refine WL_of (L_call' rfl rfl cf7 [.agg #[.string (sv a0.Name), .int .i64 a0.Pivot, .slice Aa0_0 a0.Steps.length ca0_0]] rfl (plan_Print_ok k a0 Aa0_0 ca0_0 r12 _ (Un [(one g1, W2), (Fr, w)]) (hG.call M10 1 rfl) M10.frame ((ha0_0.agree (M10.agree 1 rfl) (M10.agree 1 rfl)).sub (Un.at 1 rfl) (Un.at 1 rfl)) hr13) ?_)
  rintro _ W14 ⟨rfl, M15⟩
  have M16 : Mem W14 [(one g1, W2), (Fr, w)] := M10.back (New := []) M15
  refine WL_of (L_move rfl rfl (.tuple #[.string (sv r12.1), .int .i64 r12.2]) rfl ?_)
  refine WL_of (L_extract rfl rfl [.string (sv r12.1), .int .i64 r12.2] rfl (.string (sv r12.1)) rfl ?_)
  refine WL_of (L_extract rfl rfl [.string (sv r12.1), .int .i64 r12.2] rfl (.int .i64 r12.2) rfl ?_)
  refine WL_of (L_assign rfl rfl (.string (sv r12.1)) rfl ?_)
  refine WL_of (L_assign rfl rfl (.int .i64 r12.2) rfl ?_)
  refine WL_nil ?_
  refine thenN ?_
  refine WC_seq ?_
  obtain ⟨z17, hz18, H⟩ := bindS H
  refine WC_cut (fun ρ w_ => ∃  (ρ0 : Nat → Value), ρ = updL ρ0 [(1, .pointer (some ⟨g1, 0, none⟩)), (2, .bool false), (4, .string (sv r12.1)), (5, .int .i64 r12.2), (24, .bool z17)] ∧ Mem w_ [(one g1, W2), (Fr, w)]) ?_ ?_
  · refine WD_start (n := 10) (fun w_ => Mem w_ [(one g1, W2), (Fr, w)]) [] mixed rfl ?_
    have M19 := M16.drawn
    refine WD_take' 0 rfl (by kernel_rfl) (by kernel_rfl) (by kernel_rfl) (by kernel_rfl) (by kernel_rfl) rfl (fun _ _ _ h => h) rfl _ (M19.sub (.cons_cons _ (.cons_cons _ .slnil))) rfl (fun w_ hS => L_move rfl rfl (.bool r6) rfl  ⟨rfl, rfl⟩) ?_
    refine WD_take' 1 rfl (by kernel_rfl) (by kernel_rfl) (by kernel_rfl) (by kernel_rfl) (by kernel_rfl) rfl (fun _ _ _ h => h) rfl _ (M19.sub (.cons_cons _ (.cons_cons _ .slnil))) rfl (fun w_ hS => L_not rfl rfl r6 rfl  ⟨rfl, rfl⟩) ?_
    refine WD_take' 2 rfl (by kernel_rfl) (by kernel_rfl) (by kernel_rfl) (by kernel_rfl) (by kernel_rfl) rfl (fun _ _ _ h => h) rfl _ (M19.sub (.cons_cons _ (.cons_cons _ .slnil))) rfl (fun w_ hS => L_move rfl rfl (.bool (!r6)) rfl  ⟨rfl, rfl⟩) ?_
    by_cases c20 : (!r6) = true
    · replace hz18 := ifP c20 hz18
      refine WD_known 17 true (wtrue c20) ?_
      refine WD_take 3 rfl (by kernel_rfl) (by kernel_rfl) (by kernel_rfl) (by kernel_rfl) (by kernel_rfl) (fun _ _ _ h => h) rfl undef (M19.sub (.cons_cons _ (.cons_cons _ .slnil))) (.inr ⟨rfl, rfl⟩) ?_
      refine WD_take 4 rfl (by kernel_rfl) (by kernel_rfl) (by kernel_rfl) (by kernel_rfl) (by kernel_rfl) (fun _ _ _ h => h) rfl undef (M19.sub (.cons_cons _ (.cons_cons _ .slnil))) (.inr ⟨rfl, rfl⟩) ?_
      refine WD_take 5 rfl (by kernel_rfl) (by kernel_rfl) (by kernel_rfl) (by kernel_rfl) (by kernel_rfl) (fun _ _ _ h => h) rfl undef (M19.sub (.cons_cons _ (.cons_cons _ .slnil))) (.inr ⟨rfl, rfl⟩) ?_
      refine WD_take 6 rfl (by kernel_rfl) (by kernel_rfl) (by kernel_rfl) (by kernel_rfl) (by kernel_rfl) (fun _ _ _ h => h) rfl undef (M19.sub (.cons_cons _ (.cons_cons _ .slnil))) (.inr ⟨rfl, rfl⟩) ?_
      refine WD_take 7 rfl (by kernel_rfl) (by kernel_rfl) (by kernel_rfl) (by kernel_rfl) (by kernel_rfl) (fun _ _ _ h => h) rfl undef (M19.sub (.cons_cons _ (.cons_cons _ .slnil))) (.inr ⟨rfl, rfl⟩) ?_
      refine WD_take 8 rfl (by kernel_rfl) (by kernel_rfl) (by kernel_rfl) (by kernel_rfl) (by kernel_rfl) (fun _ _ _ h => h) rfl undef (M19.sub (.cons_cons _ (.cons_cons _ .slnil))) (.inr ⟨rfl, rfl⟩) ?_
      refine WD_take' 9 rfl (by kernel_rfl) (by kernel_rfl) (by kernel_rfl) (by kernel_rfl) (by kernel_rfl) rfl (fun _ _ _ h => h) rfl _ (M19.sub (.cons_cons _ (.cons_cons _ .slnil))) rfl (fun w_ hS => L_pick rfl rfl true rfl (.bool true) rfl  ⟨rfl, rfl⟩) ?_
      refine WD_done (by kernel_rfl) ?_
      refine thenN ?_
      obtain rfl := someE hz18
      exact ⟨_, updL_same _ _ ⟨rfl, rfl, rfl, rfl, rfl, trivial⟩, M19⟩
    · replace hz18 := ifN c20 hz18
      refine WD_known 17 false (wfalse c20) ?_
      refine WD_take' 3 rfl (by kernel_rfl) (by kernel_rfl) (by kernel_rfl) (by kernel_rfl) (by kernel_rfl) rfl (fun _ _ _ h => h) rfl _ (M19.sub (.cons_cons _ (.cons_cons _ .slnil))) rfl (fun w_ hS => L_move rfl rfl (.int .i64 r12.2) rfl  ⟨rfl, rfl⟩) ?_
      refine WD_take' 5 rfl (by kernel_rfl) (by kernel_rfl) (by kernel_rfl) (by kernel_rfl) (by kernel_rfl) rfl (fun _ _ _ h => h) rfl _ (M19.sub (.cons_cons _ (.cons_cons _ .slnil))) rfl (fun w_ hS => L_loadN rfl rfl Tryd.underlying24 rfl B3.el (hS.agree 0 rfl) 0 rfl 3 sz24 [.string (sv a0.Name), .int .i64 a0.Pivot, .slice Aa0_0 a0.Steps.length ca0_0] rfl rfl  ⟨rfl, rfl⟩) ?_
      obtain ⟨r22, hr23, hz18⟩ := bindS hz18
      refine WD_one 4 rfl (by kernel_rfl) (L_call' rfl rfl cf8 [.int .i64 r12.2] rfl (annalslaw15_num_ok r12.2 r22 _ (Un [(one g1, W2), (Fr, w)]) (hG.call M19 1 rfl) M19.frame  hr23) ?_)
      rintro _ W24 ⟨rfl, M25⟩
      have M26 : Mem W24 [(one g1, W2), (Fr, w)] := M19.back (New := []) M25
      refine ⟨fun _ => (M26.sub (.cons_cons _ (.cons_cons _ .slnil))), ?_⟩
      obtain ⟨r28, hr29, hz18⟩ := bindS hz18
      refine WD_one 6 rfl (by kernel_rfl) (L_call' rfl rfl cf9 [.agg #[.string (sv a0.Name), .int .i64 a0.Pivot, .slice Aa0_0 a0.Steps.length ca0_0]] rfl (plan_Check_ok k a0 Aa0_0 ca0_0 r28 _ (Un [(one g1, W2), (Fr, w)]) (hG.call M26 1 rfl) M26.frame ((ha0_0.agree (M26.agree 1 rfl) (M26.agree 1 rfl)).sub (Un.at 1 rfl) (Un.at 1 rfl)) hr29) ?_)
      rintro _ W30 ⟨rfl, M31⟩
      have M32 : Mem W30 [(one g1, W2), (Fr, w)] := M26.back (New := []) M31
      refine ⟨fun _ => (M32.sub (.cons_cons _ (.cons_cons _ .slnil))), ?_⟩
      obtain ⟨r34, hr35, hz18⟩ := bindS hz18
      refine WD_one 7 rfl (by kernel_rfl) (L_call' rfl rfl cf8 [.int .i64 r28] rfl (annalslaw15_num_ok r28 r34 _ (Un [(one g1, W2), (Fr, w)]) (hG.call M32 1 rfl) M32.frame  hr35) ?_)
      rintro _ W36 ⟨rfl, M37⟩
      have M38 : Mem W36 [(one g1, W2), (Fr, w)] := M32.back (New := []) M37
      refine ⟨fun _ => (M38.sub (.cons_cons _ (.cons_cons _ .slnil))), ?_⟩
      refine WD_take' 8 rfl (by kernel_rfl) (by kernel_rfl) (by kernel_rfl) (by kernel_rfl) (by kernel_rfl) rfl (fun _ _ _ h => h) rfl _ (M38.sub (.cons_cons _ (.cons_cons _ .slnil))) rfl (fun w_ hS => L_bin rfl rfl (.int .i64 r22) (.int .i64 r34) rfl rfl (.bool (decide ((r22 : Int) ≠ r34))) (B_neq _ _ _ _ r22 r34)  ⟨rfl, rfl⟩) ?_
      refine WD_take' 9 rfl (by kernel_rfl) (by kernel_rfl) (by kernel_rfl) (by kernel_rfl) (by kernel_rfl) rfl (fun _ _ _ h => h) rfl _ (M38.sub (.cons_cons _ (.cons_cons _ .slnil))) rfl (fun w_ hS => L_pick rfl rfl false rfl (.bool (decide ((r22 : Int) ≠ r34))) rfl  ⟨rfl, rfl⟩) ?_
      refine WD_done (by kernel_rfl) ?_
      refine thenN ?_
      obtain rfl := someE hz18
      exact ⟨_, updL_same _ _ ⟨rfl, rfl, rfl, rfl, rfl, trivial⟩, M38⟩
  · rintro _ W39 ⟨ρ41, rfl, M40⟩
    refine WC_ifb rfl (fun c42 => ?_) (fun c42 => ?_)
    · replace H := ifP c42 H
      refine WC_seq ?_
      refine WC_region ?_
      refine WL_of (L_assign rfl rfl (.bool false) rfl ?_)
      refine WL_nil ?_
      refine thenN ?_
      refine WC_ret ?_
      refine thenR ?_
      obtain rfl := someE H
      have M43 : Mem W39 [(Fr, w), (one g1, W2)] := M40.front [(one g1, W2)] rfl
      have M44 : Mem W39 [(Fr, w)] := M43.sub (List.prefix_append [(Fr, w)] [(one g1, W2)]).sublist
      refine retR [.bool false] ⟨rfl, trivial⟩ ?_
      exact ⟨rfl, M44⟩
    · replace H := ifN (by rw [c42]; simp) H
      refine WC_skip ?_
      refine thenN ?_
      refine WC_seq ?_
      refine WC_seq ?_
      refine WC_region ?_
      refine WL_of (L_move rfl rfl (.int .i64 r12.2) rfl ?_)
      obtain ⟨r46, hr47, H⟩ := bindS H
      refine WL_of (L_call' rfl rfl cf8 [.int .i64 r12.2] rfl (annalslaw15_num_ok r12.2 r46 _ (Un [(one g1, W2), (Fr, w)]) (hG.call M40 1 rfl) M40.frame  hr47) ?_)
      rintro _ W48 ⟨rfl, M49⟩
      have M50 : Mem W48 [(one g1, W2), (Fr, w)] := M40.back (New := []) M49
      refine WL_of (L_bin rfl rfl (.int .i64 r46) (.int .i64 0) rfl rfl (.bool (decide ((r46 : Int) ≠ 0))) (B_neq _ _ _ _ r46 0) ?_)
      refine WL_nil ?_
      refine thenN ?_
      refine WC_if (p := (r46 : Int) ≠ 0) rfl (fun c51 => ?_) (fun c51 => ?_)
      · replace H := ifP c51 H
        refine WC_seq ?_
        refine WC_region ?_
        refine WL_of (L_move rfl rfl (.string (sv r12.1)) rfl ?_)
        refine WL_of (L_bin rfl rfl (.string (sv r12.1)) (.string (sv (lit []))) rfl rfl (.bool (decide ((r12.1 : Str) = (lit [])))) (B_seql _ _ _ r12.1 (lit [])) ?_)
        refine WL_of (L_assign rfl rfl (.bool (decide ((r12.1 : Str) = (lit [])))) rfl ?_)
        refine WL_nil ?_
        refine thenN ?_
        refine WC_ret ?_
        refine thenR ?_
        obtain rfl := someE H
        have M52 : Mem W48 [(Fr, w), (one g1, W2)] := M50.front [(one g1, W2)] rfl
        have M53 : Mem W48 [(Fr, w)] := M52.sub (List.prefix_append [(Fr, w)] [(one g1, W2)]).sublist
        refine retR [.bool (decide ((r12.1 : Str) = (lit [])))] ⟨rfl, trivial⟩ ?_
        exact ⟨rfl, M53⟩
      · replace H := ifN c51 H
        refine WC_skip ?_
        refine thenN ?_
        refine WC_seq ?_
        refine WC_region ?_
        refine WL_of (L_move rfl rfl (.string (sv r12.1)) rfl ?_)
        obtain ⟨r55, hr56, H⟩ := bindS H
        refine WL_of (L_call' rfl rfl cf10 [.string (sv r12.1)] rfl (plan_Parse_ok k r12.1 r55 _ (Un [(one g1, W2), (Fr, w)]) (hG.call M50 1 rfl) M50.frame  hr56) ?_)
        rintro _ W57 ⟨A59, c60, S61, rfl, M58, ho62⟩
        have M63 : Mem W57 [(S61, W57), (one g1, W2), (Fr, w)] := M50.back (New := [(S61, W57)]) M58
        refine WL_of (L_move rfl rfl (.tuple #[.agg #[.string (sv r55.1.Name), .int .i64 r55.1.Pivot, .slice A59 r55.1.Steps.length c60], .int .i64 r55.2.1, .int .i64 r55.2.2]) rfl ?_)
        refine WL_of (L_extract rfl rfl [.agg #[.string (sv r55.1.Name), .int .i64 r55.1.Pivot, .slice A59 r55.1.Steps.length c60], .int .i64 r55.2.1, .int .i64 r55.2.2] rfl (.agg #[.string (sv r55.1.Name), .int .i64 r55.1.Pivot, .slice A59 r55.1.Steps.length c60]) rfl ?_)
        refine WL_of (L_extract rfl rfl [.agg #[.string (sv r55.1.Name), .int .i64 r55.1.Pivot, .slice A59 r55.1.Steps.length c60], .int .i64 r55.2.1, .int .i64 r55.2.2] rfl (.int .i64 r55.2.1) rfl ?_)
        refine WL_of (L_extract rfl rfl [.agg #[.string (sv r55.1.Name), .int .i64 r55.1.Pivot, .slice A59 r55.1.Steps.length c60], .int .i64 r55.2.1, .int .i64 r55.2.2] rfl (.int .i64 r55.2.2) rfl ?_)
        refine WL_of (L_alloc M63 rfl rfl zr24 [.string (sv (lit [])), .int .i64 0, .slice none 0 0] rfl ?_)
        intro g64 W65 B66 M67
        refine WL_of (L_store M67 rfl (.agg #[.string (sv r55.1.Name), .int .i64 r55.1.Pivot, .slice A59 r55.1.Steps.length c60]) rfl [.string (sv r55.1.Name), .int .i64 r55.1.Pivot, .slice A59 r55.1.Steps.length c60] rfl 3 sz24 rfl rfl rfl B66 rfl rfl [.string (sv r55.1.Name), .int .i64 r55.1.Pivot, .slice A59 r55.1.Steps.length c60] rfl ?_)
        intro W68 B69 M70
        refine WL_of (L_assign rfl rfl (.int .i64 r55.2.1) rfl ?_)
        refine WL_of (L_assign rfl rfl (.int .i64 r55.2.2) rfl ?_)
        refine WL_nil ?_
        refine thenN ?_
        obtain ⟨z71, hz72, H⟩ := bindS H
        refine WC_cut (fun ρ w_ => ∃  (ρ0 : Nat → Value), ρ = updL ρ0 [(2, .bool z71)] ∧ Mem w_ [(one g64, W68), (S61, W57), (one g1, W2), (Fr, w)]) ?_ ?_
        · refine WC_region ?_
          refine WL_of (L_move rfl rfl (.int .i64 r55.2.1) rfl ?_)
          obtain ⟨r74, hr75, hz72⟩ := bindS hz72
          refine WL_of (L_call' rfl rfl cf8 [.int .i64 r55.2.1] rfl (annalslaw15_num_ok r55.2.1 r74 _ (Un [(one g64, W68), (S61, W57), (one g1, W2), (Fr, w)]) (hG.call M70 3 rfl) M70.frame  hr75) ?_)
          rintro _ W76 ⟨rfl, M77⟩
          have M78 : Mem W76 [(one g64, W68), (S61, W57), (one g1, W2), (Fr, w)] := M70.back (New := []) M77
          refine WL_of (L_bin rfl rfl (.int .i64 r74) (.int .i64 0) rfl rfl (.bool (decide ((r74 : Int) = 0))) (B_eql _ _ _ _ r74 0) ?_)
          refine WL_of (L_move rfl rfl (.bool (decide ((r74 : Int) = 0))) rfl ?_)
          by_cases c79 : (r74 : Int) = 0
          · replace hz72 := ifP c79 hz72
            refine WL_known 39 true (vtrue c79) ?_
            refine WL_of (L_move rfl rfl (.int .i64 r55.2.2) rfl ?_)
            refine WL_of (L_bin rfl rfl (.int .i64 r55.2.2) (.int .i64 0) rfl rfl (.bool (decide ((r55.2.2 : Int) = 0))) (B_eql _ _ _ _ r55.2.2 0) ?_)
            refine WL_of (L_pick rfl rfl true rfl (.bool (decide ((r55.2.2 : Int) = 0))) rfl ?_)
            refine WL_of (L_move rfl rfl (.bool (decide ((r55.2.2 : Int) = 0))) rfl ?_)
            by_cases c80 : (r55.2.2 : Int) = 0
            · replace hz72 := ifP c80 hz72
              refine WL_known 43 true (vtrue c80) ?_
              refine WL_of (L_loadN rfl rfl Tryd.underlying24 rfl B3.el (M78.agree 2 rfl) 0 rfl 3 sz24 [.string (sv a0.Name), .int .i64 a0.Pivot, .slice Aa0_0 a0.Steps.length ca0_0] rfl rfl ?_)
              refine WL_of (L_loadN rfl rfl Tryd.underlying24 rfl B69.el (M78.agree 0 rfl) 0 rfl 3 sz24 [.string (sv r55.1.Name), .int .i64 r55.1.Pivot, .slice A59 r55.1.Steps.length c60] rfl rfl ?_)
              have hs81 := ho62.sr
              obtain ⟨r83, hr84, hz72⟩ := bindS hz72
              refine WL_of (L_call' rfl rfl cf11 [.agg #[.string (sv a0.Name), .int .i64 a0.Pivot, .slice Aa0_0 a0.Steps.length ca0_0], .agg #[.string (sv r55.1.Name), .int .i64 r55.1.Pivot, .slice A59 r55.1.Steps.length c60]] rfl (annalslaw15_equal_ok k a0 Aa0_0 ca0_0 r55.1 A59 c60 r83 _ (Un [(one g64, W68), (S61, W57), (one g1, W2), (Fr, w)]) (hG.call M78 3 rfl) M78.frame ((ha0_0.agree (M78.agree 3 rfl) (M78.agree 3 rfl)).sub (Un.at 3 rfl) (Un.at 3 rfl)) ((hs81.agree (M78.agree 1 rfl) (fun _ h => h.elim)).sub (Un.at 1 rfl) (fun _ h => h.elim)) hr84) ?_)
              rintro _ W85 ⟨rfl, M86⟩
              have M87 : Mem W85 [(one g64, W68), (S61, W57), (one g1, W2), (Fr, w)] := M78.back (New := []) M86
              refine WL_of (L_pick rfl rfl true rfl (.bool r83) rfl ?_)
              refine WL_of (L_assign rfl rfl (.bool r83) rfl ?_)
              refine WL_nil ?_
              refine thenN ?_
              obtain rfl := someE hz72
              exact ⟨_, updL_same _ _ ⟨rfl, trivial⟩, M87⟩
            · replace hz72 := ifN c80 hz72
              refine WL_known 43 false (vfalse c80) ?_
              refine WL_of (WO_off rfl rfl ?_)
              refine WL_of (WO_off rfl rfl ?_)
              refine WL_of (WO_off rfl rfl ?_)
              refine WL_of (L_pick rfl rfl false rfl (.bool false) rfl ?_)
              refine WL_of (L_assign rfl rfl (.bool false) rfl ?_)
              refine WL_nil ?_
              refine thenN ?_
              obtain rfl := someE hz72
              exact ⟨_, updL_same _ _ ⟨rfl, trivial⟩, M78⟩
          · replace hz72 := ifN c79 hz72
            refine WL_known 39 false (vfalse c79) ?_
            refine WL_of (WO_off rfl rfl ?_)
            refine WL_of (WO_off rfl rfl ?_)
            refine WL_of (L_pick rfl rfl false rfl (.bool false) rfl ?_)
            refine WL_of (L_move rfl rfl (.bool false) rfl ?_)
            refine WL_of (WO_off rfl rfl ?_)
            refine WL_of (WO_off rfl rfl ?_)
            refine WL_of (WO_off rfl rfl ?_)
            refine WL_of (L_pick rfl rfl false rfl (.bool false) rfl ?_)
            refine WL_of (L_assign rfl rfl (.bool false) rfl ?_)
            refine WL_nil ?_
            refine thenN ?_
            obtain rfl := someE hz72
            exact ⟨_, updL_same _ _ ⟨rfl, trivial⟩, M78⟩
        · rintro _ W88 ⟨ρ90, rfl, M89⟩
          refine WC_ret ?_
          obtain rfl := someE H
          have M91 : Mem W88 [(Fr, w), (one g64, W68), (S61, W57), (one g1, W2)] := M89.front [(one g64, W68), (S61, W57), (one g1, W2)] rfl
          have M92 : Mem W88 [(Fr, w)] := M91.sub (List.prefix_append [(Fr, w)] [(one g64, W68), (S61, W57), (one g1, W2)]).sublist
          refine retR [.bool z71] ⟨rfl, trivial⟩ ?_
          exact ⟨rfl, M92⟩


end Go.Z
