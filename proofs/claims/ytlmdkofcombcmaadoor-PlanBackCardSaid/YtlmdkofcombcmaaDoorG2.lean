/- The walks: for each Go function a function of values that it computes, and the proof that it does (printed by wip/tools/zgen.py). -/
import Derived.Test.YtlmdkofcombcmaaDoorG1
set_option linter.unusedVariables false
set_option linter.unusedSimpArgs false
namespace Go.Z
open Go
open Go.Proofs
open Go.RowKit (wrap32 wrap64)

/-! ### annals/text.Letter: function 57 -/
def text_Letter.l0 : Nat → Int → Bool → Int → Option Bool
  | 0, _, _, _ => none
  | k + 1, a0, x5, x6 => (if (x6 : Int) < 22 then (atL text_letters x6).bind (fun q15 => (atL text_letters x6).bind (fun q24 => (text_from a0 q15.lo_ q24.hi_).bind (fun (r34 : Bool) => (if r34 = true then (some true) else (text_Letter.l0 k a0 x5 (wrap64 (x6 + 1))))))) else (some false))
def text_Letter (k : Nat) (a0 : Int) : Option Bool :=
  (text_Letter.l0 k a0 false 0)
set_option maxRecDepth 100000 in
set_option maxHeartbeats 4000000 in
theorem text_Letter_ok (k : Nat) (a0 : Int) (r : Bool) (w : World) (Fr : BS) (hG : Gl Fr w) (hF : ∀ b, Fr b → b < w.heap.size)  (H : text_Letter k a0 = some r) :
    CallsR Tryd.prog 57 #[.int .i32 a0] w (fun v w' => v = .bool r ∧ Mem w' [(Fr, w)]) := by
  have M0 := Mem.start w Fr hF
  refine enterZ (args := [.int .i32 a0]) [.tmp 2] Tryd.func57 rfl rfl rfl rfl ?_
  unfold text_Letter at H
  refine WC_seq ?_
  refine WC_region ?_
  refine WL_of (L_assign rfl rfl (.bool false) rfl ?_)
  refine WL_nil ?_
  refine thenN ?_
  refine WC_seq ?_
  refine WC_seq ?_
  refine WC_region ?_
  refine WL_of (L_move rfl rfl (.int .i64 0) rfl ?_)
  refine WL_nil ?_
  refine thenN ?_
  refine WC_block ?_
  refine WC_loop (fun k11 ρ w_ => ∃ (x5 : Bool) (x6 : Int) (ρ0 : Nat → Value), ρ = updL ρ0 [(0, .int .i32 a0), (2, .bool x5), (4, .int .i64 x6)] ∧ Mem w_ [(Fr, w)] ∧ k11 ≤ k ∧ text_Letter.l0 k11 a0 x5 x6 = some r) k ?_ ?_
  · exact ⟨false, 0, _, updL_same _ _ ⟨rfl, rfl, rfl, trivial⟩, M0, (Nat.le_refl _), H⟩
  · rintro k11 _ W7 ⟨x5, x6, ρ9, rfl, M8, hk12, H10⟩
    cases k11 with
    | zero => rw [text_Letter.l0] at H10; cases H10
    | succ k11 =>
    rw [text_Letter.l0] at H10
    refine WC_seq ?_
    refine WC_region ?_
    refine WL_of (L_bin rfl rfl (.int .i64 x6) (.int .i64 22) rfl rfl (.bool (decide ((x6 : Int) < 22))) (B_lss _ _ _ _ x6 22) ?_)
    refine WL_nil ?_
    refine thenN ?_
    refine WC_seq ?_
    refine WC_if (p := (x6 : Int) < 22) rfl (fun c13 => ?_) (fun c13 => ?_)
    · replace H10 := ifP c13 H10
      refine WC_skip ?_
      refine thenN ?_
      refine WC_seq ?_
      refine WC_block ?_
      refine WC_seq ?_
      refine WC_region ?_
      refine WL_of (L_move rfl rfl (.int .i64 x6) rfl ?_)
      refine WL_of (L_assign rfl rfl (.int .i64 x6) rfl ?_)
      refine WL_nil ?_
      refine thenN ?_
      refine WC_seq ?_
      refine WD_start (n := 10) (fun w_ => Mem w_ [(Fr, w)]) [] mixed rfl ?_
      have M14 := M8.drawn
      refine WD_take' 0 rfl (by kernel_rfl) (by kernel_rfl) (by kernel_rfl) (by kernel_rfl) (by kernel_rfl) rfl (fun _ _ _ h => h) rfl _ (M14.sub (.cons_cons _ .slnil)) rfl (fun w_ hS => L_move rfl rfl (.int .i32 a0) rfl  ⟨rfl, rfl⟩) ?_
      refine WD_take' 1 rfl (by kernel_rfl) (by kernel_rfl) (by kernel_rfl) (by kernel_rfl) (by kernel_rfl) rfl (fun _ _ _ h => h) rfl _ (M14.sub (.cons_cons _ .slnil)) rfl (fun w_ hS => L_move rfl rfl (.int .i64 x6) rfl  ⟨rfl, rfl⟩) ?_
      obtain ⟨q15, hq16, H10⟩ := bindS H10
      obtain ⟨ad17, cs18, hA19, E20, R21⟩ := hG.t_text_letters.at hq16
      cases hA19
      have hl22 := atL_spec hq16
      refine WD_take' 2 rfl (by kernel_rfl) (by kernel_rfl) (by kernel_rfl) (by kernel_rfl) (by kernel_rfl) rfl (fun _ _ _ h => h) rfl _ (M14.sub (.cons_cons _ .slnil)) rfl (fun w_ hS => L_indexArr rfl rfl Tryd.underlying133 sz132 rfl rfl hl22.1 hl22.2.1  ⟨rfl, rfl⟩) ?_
      obtain rfl := R21
      have E23 : El w Fr (Addr.add ⟨0, 0, none⟩ (Int.toNat x6 * 2)) [.int .i32 q15.lo_, .int .i32 q15.hi_] := E20
      refine WD_take' 3 rfl (by kernel_rfl) (by kernel_rfl) (by kernel_rfl) (by kernel_rfl) (by kernel_rfl) rfl (fun _ _ _ h => h) rfl _ (M14.sub (.cons_cons _ .slnil)) rfl (fun w_ hS => L_field rfl rfl fd132_0 (Addr.add ⟨0, 0, none⟩ (Int.toNat x6 * 2)) rfl  ⟨rfl, rfl⟩) ?_
      refine WD_take' 4 rfl (by kernel_rfl) (by kernel_rfl) (by kernel_rfl) (by kernel_rfl) (by kernel_rfl) rfl (fun _ _ _ h => h) rfl _ (M14.sub (.cons_cons _ .slnil)) rfl (fun w_ hS => L_load1 rfl rfl Tryd.underlying21 rfl E23 (hS.agree 0 rfl) 0 rfl (.int .i32 q15.lo_) rfl  ⟨rfl, rfl⟩) ?_
      refine WD_take' 5 rfl (by kernel_rfl) (by kernel_rfl) (by kernel_rfl) (by kernel_rfl) (by kernel_rfl) rfl (fun _ _ _ h => h) rfl _ (M14.sub (.cons_cons _ .slnil)) rfl (fun w_ hS => L_move rfl rfl (.int .i64 x6) rfl  ⟨rfl, rfl⟩) ?_
      obtain ⟨q24, hq25, H10⟩ := bindS H10
      obtain ⟨ad26, cs27, hA28, E29, R30⟩ := hG.t_text_letters.at hq25
      cases hA28
      have hl31 := atL_spec hq25
      refine WD_take' 6 rfl (by kernel_rfl) (by kernel_rfl) (by kernel_rfl) (by kernel_rfl) (by kernel_rfl) rfl (fun _ _ _ h => h) rfl _ (M14.sub (.cons_cons _ .slnil)) rfl (fun w_ hS => L_indexArr rfl rfl Tryd.underlying133 sz132 rfl rfl hl31.1 hl31.2.1  ⟨rfl, rfl⟩) ?_
      obtain rfl := R30
      have E32 : El w Fr (Addr.add ⟨0, 0, none⟩ (Int.toNat x6 * 2)) [.int .i32 q24.lo_, .int .i32 q24.hi_] := E29
      refine WD_take' 7 rfl (by kernel_rfl) (by kernel_rfl) (by kernel_rfl) (by kernel_rfl) (by kernel_rfl) rfl (fun _ _ _ h => h) rfl _ (M14.sub (.cons_cons _ .slnil)) rfl (fun w_ hS => L_field rfl rfl fd132_1 (Addr.add ⟨0, 0, none⟩ (Int.toNat x6 * 2)) rfl  ⟨rfl, rfl⟩) ?_
      refine WD_take' 8 rfl (by kernel_rfl) (by kernel_rfl) (by kernel_rfl) (by kernel_rfl) (by kernel_rfl) rfl (fun _ _ _ h => h) rfl _ (M14.sub (.cons_cons _ .slnil)) rfl (fun w_ hS => L_load1 rfl rfl Tryd.underlying21 rfl E32 (hS.agree 0 rfl) 1 rfl (.int .i32 q24.hi_) rfl  ⟨rfl, rfl⟩) ?_
      obtain ⟨r34, hr35, H10⟩ := bindS H10
      refine WD_one 9 rfl (by kernel_rfl) (L_call' rfl rfl cf75 [.int .i32 a0, .int .i32 q15.lo_, .int .i32 q24.hi_] rfl (text_from_ok a0 q15.lo_ q24.hi_ r34 _ (Un [(Fr, w)]) (hG.call M14 0 rfl) M14.frame  hr35) ?_)
      rintro _ W36 ⟨rfl, M37⟩
      have M38 : Mem W36 [(Fr, w)] := M14.back (New := []) M37
      refine ⟨fun _ => (M38.sub (.cons_cons _ .slnil)), ?_⟩
      refine WD_done (by kernel_rfl) ?_
      refine thenN ?_
      refine WC_ifb rfl (fun c39 => ?_) (fun c39 => ?_)
      · replace H10 := ifP c39 H10
        refine WC_seq ?_
        refine WC_region ?_
        refine WL_of (L_assign rfl rfl (.bool true) rfl ?_)
        refine WL_nil ?_
        refine thenN ?_
        refine WC_ret ?_
        refine blkR ?_
        refine thenR ?_
        refine thenR ?_
        refine blkR ?_
        refine thenR ?_
        obtain rfl := someE H10
        refine retR [.bool true] ⟨rfl, trivial⟩ ?_
        exact ⟨rfl, M38⟩
      · replace H10 := ifN (by rw [c39]; simp) H10
        refine WC_skip ?_
        refine blkN ?_
        refine thenN ?_
        refine WC_region ?_
        refine WL_of (L_bin rfl rfl (.int .i64 x6) (.int .i64 1) rfl rfl (.int .i64 (wrap64 (x6 + 1))) (B_add _ _ _ x6 1) ?_)
        refine WL_of (L_move rfl rfl (.int .i64 (wrap64 (x6 + 1))) rfl ?_)
        refine WL_nil ?_
        refine thenN ?_
        exact ⟨k11, by omega, x5, wrap64 (x6 + 1), _, updL_same _ _ ⟨rfl, rfl, rfl, trivial⟩, M38, (by omega), H10⟩
    · replace H10 := ifN c13 H10
      refine WC_exit ?_
      refine thenE ?_
      refine thenE ?_
      refine blkX ?_
      refine thenN ?_
      refine WC_seq ?_
      refine WC_region ?_
      refine WL_of (L_assign rfl rfl (.bool false) rfl ?_)
      refine WL_nil ?_
      refine thenN ?_
      refine WC_ret ?_
      obtain rfl := someE H10
      refine retR [.bool false] ⟨rfl, trivial⟩ ?_
      exact ⟨rfl, M8⟩

/-! ### annals/text.inName: function 56 -/
def text_inName (k : Nat) (a0 : Int) : Option Bool :=
  ((if (48 : Int) ≤ a0 then (if (a0 : Int) ≤ 57 then (some true) else (if (a0 : Int) = 45 then (some true) else (if (a0 : Int) = 95 then (some true) else (if (a0 : Int) = 46 then (some true) else (text_Letter k a0).bind (fun (r9 : Bool) => (some r9)))))) else (if (a0 : Int) = 45 then (some true) else (if (a0 : Int) = 95 then (some true) else (if (a0 : Int) = 46 then (some true) else (text_Letter k a0).bind (fun (r18 : Bool) => (some r18))))))).bind (fun (z1 : Bool) => (some z1))
set_option maxRecDepth 100000 in
set_option maxHeartbeats 4000000 in
theorem text_inName_ok (k : Nat) (a0 : Int) (r : Bool) (w : World) (Fr : BS) (hG : Gl Fr w) (hF : ∀ b, Fr b → b < w.heap.size)  (H : text_inName k a0 = some r) :
    CallsR Tryd.prog 56 #[.int .i32 a0] w (fun v w' => v = .bool r ∧ Mem w' [(Fr, w)]) := by
  have M0 := Mem.start w Fr hF
  refine enterZ (args := [.int .i32 a0]) [.tmp 2] Tryd.func56 rfl rfl rfl rfl ?_
  unfold text_inName at H
  refine WC_seq ?_
  refine WC_region ?_
  refine WL_of (L_assign rfl rfl (.bool false) rfl ?_)
  refine WL_nil ?_
  refine thenN ?_
  obtain ⟨z1, hz2, H⟩ := bindS H
  refine WC_cut (fun ρ w_ => ∃  (ρ0 : Nat → Value), ρ = updL ρ0 [(2, .bool z1)] ∧ Mem w_ [(Fr, w)]) ?_ ?_
  · refine WC_region ?_
    refine WL_of (L_move rfl rfl (.int .i32 a0) rfl ?_)
    refine WL_of (L_bin rfl rfl (.int .i32 a0) (.int .i32 48) rfl rfl (.bool (decide ((48 : Int) ≤ a0))) (B_geq _ _ _ _ a0 48) ?_)
    refine WL_of (L_move rfl rfl (.bool (decide ((48 : Int) ≤ a0))) rfl ?_)
    by_cases c3 : (48 : Int) ≤ a0
    · replace hz2 := ifP c3 hz2
      refine WL_known 5 true (vtrue c3) ?_
      refine WL_of (L_move rfl rfl (.int .i32 a0) rfl ?_)
      refine WL_of (L_bin rfl rfl (.int .i32 a0) (.int .i32 57) rfl rfl (.bool (decide ((a0 : Int) ≤ 57))) (B_leq _ _ _ _ a0 57) ?_)
      refine WL_of (L_pick rfl rfl true rfl (.bool (decide ((a0 : Int) ≤ 57))) rfl ?_)
      refine WL_of (L_move rfl rfl (.bool (decide ((a0 : Int) ≤ 57))) rfl ?_)
      by_cases c4 : (a0 : Int) ≤ 57
      · replace hz2 := ifP c4 hz2
        refine WL_known 9 true (vtrue c4) ?_
        refine WL_of (WO_off rfl rfl ?_)
        refine WL_of (WO_off rfl rfl ?_)
        refine WL_of (L_pick rfl rfl true rfl (.bool true) rfl ?_)
        refine WL_of (L_move rfl rfl (.bool true) rfl ?_)
        refine WL_of (WO_off rfl rfl ?_)
        refine WL_of (WO_off rfl rfl ?_)
        refine WL_of (L_pick rfl rfl true rfl (.bool true) rfl ?_)
        refine WL_of (L_move rfl rfl (.bool true) rfl ?_)
        refine WL_of (WO_off rfl rfl ?_)
        refine WL_of (WO_off rfl rfl ?_)
        refine WL_of (L_pick rfl rfl true rfl (.bool true) rfl ?_)
        refine WL_of (L_move rfl rfl (.bool true) rfl ?_)
        refine WL_of (WO_off rfl rfl ?_)
        refine WL_of (WO_off rfl rfl ?_)
        refine WL_of (L_pick rfl rfl true rfl (.bool true) rfl ?_)
        refine WL_of (L_assign rfl rfl (.bool true) rfl ?_)
        refine WL_nil ?_
        refine thenN ?_
        obtain rfl := someE hz2
        exact ⟨_, updL_same _ _ ⟨rfl, trivial⟩, M0⟩
      · replace hz2 := ifN c4 hz2
        refine WL_known 9 false (vfalse c4) ?_
        refine WL_of (L_move rfl rfl (.int .i32 a0) rfl ?_)
        refine WL_of (L_bin rfl rfl (.int .i32 a0) (.int .i32 45) rfl rfl (.bool (decide ((a0 : Int) = 45))) (B_eql _ _ _ _ a0 45) ?_)
        refine WL_of (L_pick rfl rfl false rfl (.bool (decide ((a0 : Int) = 45))) rfl ?_)
        refine WL_of (L_move rfl rfl (.bool (decide ((a0 : Int) = 45))) rfl ?_)
        by_cases c5 : (a0 : Int) = 45
        · replace hz2 := ifP c5 hz2
          refine WL_known 13 true (vtrue c5) ?_
          refine WL_of (WO_off rfl rfl ?_)
          refine WL_of (WO_off rfl rfl ?_)
          refine WL_of (L_pick rfl rfl true rfl (.bool true) rfl ?_)
          refine WL_of (L_move rfl rfl (.bool true) rfl ?_)
          refine WL_of (WO_off rfl rfl ?_)
          refine WL_of (WO_off rfl rfl ?_)
          refine WL_of (L_pick rfl rfl true rfl (.bool true) rfl ?_)
          refine WL_of (L_move rfl rfl (.bool true) rfl ?_)
          refine WL_of (WO_off rfl rfl ?_)
          refine WL_of (WO_off rfl rfl ?_)
          refine WL_of (L_pick rfl rfl true rfl (.bool true) rfl ?_)
          refine WL_of (L_assign rfl rfl (.bool true) rfl ?_)
          refine WL_nil ?_
          refine thenN ?_
          obtain rfl := someE hz2
          exact ⟨_, updL_same _ _ ⟨rfl, trivial⟩, M0⟩
        · replace hz2 := ifN c5 hz2
          refine WL_known 13 false (vfalse c5) ?_
          refine WL_of (L_move rfl rfl (.int .i32 a0) rfl ?_)
          refine WL_of (L_bin rfl rfl (.int .i32 a0) (.int .i32 95) rfl rfl (.bool (decide ((a0 : Int) = 95))) (B_eql _ _ _ _ a0 95) ?_)
          refine WL_of (L_pick rfl rfl false rfl (.bool (decide ((a0 : Int) = 95))) rfl ?_)
          refine WL_of (L_move rfl rfl (.bool (decide ((a0 : Int) = 95))) rfl ?_)
          by_cases c6 : (a0 : Int) = 95
          · replace hz2 := ifP c6 hz2
            refine WL_known 17 true (vtrue c6) ?_
            refine WL_of (WO_off rfl rfl ?_)
            refine WL_of (WO_off rfl rfl ?_)
            refine WL_of (L_pick rfl rfl true rfl (.bool true) rfl ?_)
            refine WL_of (L_move rfl rfl (.bool true) rfl ?_)
            refine WL_of (WO_off rfl rfl ?_)
            refine WL_of (WO_off rfl rfl ?_)
            refine WL_of (L_pick rfl rfl true rfl (.bool true) rfl ?_)
            refine WL_of (L_assign rfl rfl (.bool true) rfl ?_)
            refine WL_nil ?_
            refine thenN ?_
            obtain rfl := someE hz2
            exact ⟨_, updL_same _ _ ⟨rfl, trivial⟩, M0⟩
          · replace hz2 := ifN c6 hz2
            refine WL_known 17 false (vfalse c6) ?_
            refine WL_of (L_move rfl rfl (.int .i32 a0) rfl ?_)
            refine WL_of (L_bin rfl rfl (.int .i32 a0) (.int .i32 46) rfl rfl (.bool (decide ((a0 : Int) = 46))) (B_eql _ _ _ _ a0 46) ?_)
            refine WL_of (L_pick rfl rfl false rfl (.bool (decide ((a0 : Int) = 46))) rfl ?_)
            refine WL_of (L_move rfl rfl (.bool (decide ((a0 : Int) = 46))) rfl ?_)
            by_cases c7 : (a0 : Int) = 46
            · replace hz2 := ifP c7 hz2
              refine WL_known 21 true (vtrue c7) ?_
              refine WL_of (WO_off rfl rfl ?_)
              refine WL_of (WO_off rfl rfl ?_)
              refine WL_of (L_pick rfl rfl true rfl (.bool true) rfl ?_)
              refine WL_of (L_assign rfl rfl (.bool true) rfl ?_)
              refine WL_nil ?_
              refine thenN ?_
              obtain rfl := someE hz2
              exact ⟨_, updL_same _ _ ⟨rfl, trivial⟩, M0⟩
            · replace hz2 := ifN c7 hz2
              refine WL_known 21 false (vfalse c7) ?_
              refine WL_of (L_move rfl rfl (.int .i32 a0) rfl ?_)
              obtain ⟨r9, hr10, hz2⟩ := bindS hz2
              refine WL_of (L_call' rfl rfl cf57 [.int .i32 a0] rfl (text_Letter_ok k a0 r9 _ (Un [(Fr, w)]) (hG.call M0 0 rfl) M0.frame  hr10) ?_)
              rintro _ W11 ⟨rfl, M12⟩
              have M13 : Mem W11 [(Fr, w)] := M0.back (New := []) M12
              refine WL_of (L_pick rfl rfl false rfl (.bool r9) rfl ?_)
              refine WL_of (L_assign rfl rfl (.bool r9) rfl ?_)
              refine WL_nil ?_
              refine thenN ?_
              obtain rfl := someE hz2
              exact ⟨_, updL_same _ _ ⟨rfl, trivial⟩, M13⟩
    · replace hz2 := ifN c3 hz2
      refine WL_known 5 false (vfalse c3) ?_
      refine WL_of (WO_off rfl rfl ?_)
      refine WL_of (WO_off rfl rfl ?_)
      refine WL_of (L_pick rfl rfl false rfl (.bool false) rfl ?_)
      refine WL_of (L_move rfl rfl (.bool false) rfl ?_)
      refine WL_of (L_move rfl rfl (.int .i32 a0) rfl ?_)
      refine WL_of (L_bin rfl rfl (.int .i32 a0) (.int .i32 45) rfl rfl (.bool (decide ((a0 : Int) = 45))) (B_eql _ _ _ _ a0 45) ?_)
      refine WL_of (L_pick rfl rfl false rfl (.bool (decide ((a0 : Int) = 45))) rfl ?_)
      refine WL_of (L_move rfl rfl (.bool (decide ((a0 : Int) = 45))) rfl ?_)
      by_cases c14 : (a0 : Int) = 45
      · replace hz2 := ifP c14 hz2
        refine WL_known 13 true (vtrue c14) ?_
        refine WL_of (WO_off rfl rfl ?_)
        refine WL_of (WO_off rfl rfl ?_)
        refine WL_of (L_pick rfl rfl true rfl (.bool true) rfl ?_)
        refine WL_of (L_move rfl rfl (.bool true) rfl ?_)
        refine WL_of (WO_off rfl rfl ?_)
        refine WL_of (WO_off rfl rfl ?_)
        refine WL_of (L_pick rfl rfl true rfl (.bool true) rfl ?_)
        refine WL_of (L_move rfl rfl (.bool true) rfl ?_)
        refine WL_of (WO_off rfl rfl ?_)
        refine WL_of (WO_off rfl rfl ?_)
        refine WL_of (L_pick rfl rfl true rfl (.bool true) rfl ?_)
        refine WL_of (L_assign rfl rfl (.bool true) rfl ?_)
        refine WL_nil ?_
        refine thenN ?_
        obtain rfl := someE hz2
        exact ⟨_, updL_same _ _ ⟨rfl, trivial⟩, M0⟩
      · replace hz2 := ifN c14 hz2
        refine WL_known 13 false (vfalse c14) ?_
        refine WL_of (L_move rfl rfl (.int .i32 a0) rfl ?_)
        refine WL_of (L_bin rfl rfl (.int .i32 a0) (.int .i32 95) rfl rfl (.bool (decide ((a0 : Int) = 95))) (B_eql _ _ _ _ a0 95) ?_)
        refine WL_of (L_pick rfl rfl false rfl (.bool (decide ((a0 : Int) = 95))) rfl ?_)
        refine WL_of (L_move rfl rfl (.bool (decide ((a0 : Int) = 95))) rfl ?_)
        by_cases c15 : (a0 : Int) = 95
        · replace hz2 := ifP c15 hz2
          refine WL_known 17 true (vtrue c15) ?_
          refine WL_of (WO_off rfl rfl ?_)
          refine WL_of (WO_off rfl rfl ?_)
          refine WL_of (L_pick rfl rfl true rfl (.bool true) rfl ?_)
          refine WL_of (L_move rfl rfl (.bool true) rfl ?_)
          refine WL_of (WO_off rfl rfl ?_)
          refine WL_of (WO_off rfl rfl ?_)
          refine WL_of (L_pick rfl rfl true rfl (.bool true) rfl ?_)
          refine WL_of (L_assign rfl rfl (.bool true) rfl ?_)
          refine WL_nil ?_
          refine thenN ?_
          obtain rfl := someE hz2
          exact ⟨_, updL_same _ _ ⟨rfl, trivial⟩, M0⟩
        · replace hz2 := ifN c15 hz2
          refine WL_known 17 false (vfalse c15) ?_
          refine WL_of (L_move rfl rfl (.int .i32 a0) rfl ?_)
          refine WL_of (L_bin rfl rfl (.int .i32 a0) (.int .i32 46) rfl rfl (.bool (decide ((a0 : Int) = 46))) (B_eql _ _ _ _ a0 46) ?_)
          refine WL_of (L_pick rfl rfl false rfl (.bool (decide ((a0 : Int) = 46))) rfl ?_)
          refine WL_of (L_move rfl rfl (.bool (decide ((a0 : Int) = 46))) rfl ?_)
          by_cases c16 : (a0 : Int) = 46
          · replace hz2 := ifP c16 hz2
            refine WL_known 21 true (vtrue c16) ?_
            refine WL_of (WO_off rfl rfl ?_)
            refine WL_of (WO_off rfl rfl ?_)
            refine WL_of (L_pick rfl rfl true rfl (.bool true) rfl ?_)
            refine WL_of (L_assign rfl rfl (.bool true) rfl ?_)
            refine WL_nil ?_
            refine thenN ?_
            obtain rfl := someE hz2
            exact ⟨_, updL_same _ _ ⟨rfl, trivial⟩, M0⟩
          · replace hz2 := ifN c16 hz2
            refine WL_known 21 false (vfalse c16) ?_
            refine WL_of (L_move rfl rfl (.int .i32 a0) rfl ?_)
            obtain ⟨r18, hr19, hz2⟩ := bindS hz2
            refine WL_of (L_call' rfl rfl cf57 [.int .i32 a0] rfl (text_Letter_ok k a0 r18 _ (Un [(Fr, w)]) (hG.call M0 0 rfl) M0.frame  hr19) ?_)
            rintro _ W20 ⟨rfl, M21⟩
            have M22 : Mem W20 [(Fr, w)] := M0.back (New := []) M21
            refine WL_of (L_pick rfl rfl false rfl (.bool r18) rfl ?_)
            refine WL_of (L_assign rfl rfl (.bool r18) rfl ?_)
            refine WL_nil ?_
            refine thenN ?_
            obtain rfl := someE hz2
            exact ⟨_, updL_same _ _ ⟨rfl, trivial⟩, M22⟩
  · rintro _ W23 ⟨ρ25, rfl, M24⟩
    refine WC_ret ?_
    obtain rfl := someE H
    refine retR [.bool z1] ⟨rfl, trivial⟩ ?_
    exact ⟨rfl, M24⟩

/-! ### annals/text.other: function 35 -/
def text_other (a0 : Str) : Option Int :=
  (unicode_utf8_DecodeRuneInString a0).bind (fun (r2 : (Int × Int)) => ((if (r2.1 : Int) = 65533 then (some (decide ((r2.2 : Int) = 1))) else (some false))).bind (fun (z7 : Bool) => (if z7 = true then (some 21) else (some 22))))
set_option maxRecDepth 100000 in
set_option maxHeartbeats 4000000 in
theorem text_other_ok (a0 : Str) (r : Int) (w : World) (Fr : BS) (hG : Gl Fr w) (hF : ∀ b, Fr b → b < w.heap.size)  (H : text_other a0 = some r) :
    CallsR Tryd.prog 35 #[.string (sv a0)] w (fun v w' => v = .int .i64 r ∧ Mem w' [(Fr, w)]) := by
  have M0 := Mem.start w Fr hF
  refine enterZ (args := [.string (sv a0)]) [.tmp 2] Tryd.func35 rfl rfl rfl rfl ?_
  unfold text_other at H
  refine WC_seq ?_
  refine WC_region ?_
  refine WL_of (L_assign rfl rfl (.int .i64 0) rfl ?_)
  refine WL_nil ?_
  refine thenN ?_
  refine WC_seq ?_
  refine WC_seq ?_
  refine WC_region ?_
  refine WL_of (L_move rfl rfl (.string (sv a0)) rfl ?_)
  obtain ⟨r2, hr3, H⟩ := bindS H
  refine WL_of (L_call' rfl rfl cf48 [.string (sv a0)] rfl (unicode_utf8_DecodeRuneInString_ok a0 r2 _ (Un [(Fr, w)]) (hG.call M0 0 rfl) M0.frame  hr3) ?_)
  rintro _ W4 ⟨rfl, M5⟩
  have M6 : Mem W4 [(Fr, w)] := M0.back (New := []) M5
  refine WL_of (L_move rfl rfl (.tuple #[.int .i32 r2.1, .int .i64 r2.2]) rfl ?_)
  refine WL_of (L_extract rfl rfl [.int .i32 r2.1, .int .i64 r2.2] rfl (.int .i32 r2.1) rfl ?_)
  refine WL_of (L_extract rfl rfl [.int .i32 r2.1, .int .i64 r2.2] rfl (.int .i64 r2.2) rfl ?_)
  refine WL_of (L_assign rfl rfl (.int .i32 r2.1) rfl ?_)
  refine WL_of (L_assign rfl rfl (.int .i64 r2.2) rfl ?_)
  refine WL_nil ?_
  refine thenN ?_
  obtain ⟨z7, hz8, H⟩ := bindS H
  refine WC_cut (fun ρ w_ => ∃  (ρ0 : Nat → Value), ρ = updL ρ0 [(2, .int .i64 0), (15, .bool z7)] ∧ Mem w_ [(Fr, w)]) ?_ ?_
  · refine WC_region ?_
    refine WL_of (L_move rfl rfl (.int .i32 r2.1) rfl ?_)
    refine WL_of (L_bin rfl rfl (.int .i32 r2.1) (.int .i32 65533) rfl rfl (.bool (decide ((r2.1 : Int) = 65533))) (B_eql _ _ _ _ r2.1 65533) ?_)
    refine WL_of (L_move rfl rfl (.bool (decide ((r2.1 : Int) = 65533))) rfl ?_)
    by_cases c9 : (r2.1 : Int) = 65533
    · replace hz8 := ifP c9 hz8
      refine WL_known 12 true (vtrue c9) ?_
      refine WL_of (L_move rfl rfl (.int .i64 r2.2) rfl ?_)
      refine WL_of (L_bin rfl rfl (.int .i64 r2.2) (.int .i64 1) rfl rfl (.bool (decide ((r2.2 : Int) = 1))) (B_eql _ _ _ _ r2.2 1) ?_)
      refine WL_of (L_pick rfl rfl true rfl (.bool (decide ((r2.2 : Int) = 1))) rfl ?_)
      refine WL_nil ?_
      refine thenN ?_
      obtain rfl := someE hz8
      exact ⟨_, updL_same _ _ ⟨rfl, rfl, trivial⟩, M6⟩
    · replace hz8 := ifN c9 hz8
      refine WL_known 12 false (vfalse c9) ?_
      refine WL_of (WO_off rfl rfl ?_)
      refine WL_of (WO_off rfl rfl ?_)
      refine WL_of (L_pick rfl rfl false rfl (.bool false) rfl ?_)
      refine WL_nil ?_
      refine thenN ?_
      obtain rfl := someE hz8
      exact ⟨_, updL_same _ _ ⟨rfl, rfl, trivial⟩, M6⟩
  · rintro _ W10 ⟨ρ12, rfl, M11⟩
    refine WC_ifb rfl (fun c13 => ?_) (fun c13 => ?_)
    · replace H := ifP c13 H
      refine WC_seq ?_
      refine WC_region ?_
      refine WL_of (L_assign rfl rfl (.int .i64 21) rfl ?_)
      refine WL_nil ?_
      refine thenN ?_
      refine WC_ret ?_
      refine thenR ?_
      obtain rfl := someE H
      refine retR [.int .i64 21] ⟨rfl, trivial⟩ ?_
      exact ⟨rfl, M11⟩
    · replace H := ifN (by rw [c13]; simp) H
      refine WC_skip ?_
      refine thenN ?_
      refine WC_seq ?_
      refine WC_region ?_
      refine WL_of (L_assign rfl rfl (.int .i64 22) rfl ?_)
      refine WL_nil ?_
      refine thenN ?_
      refine WC_ret ?_
      obtain rfl := someE H
      refine retR [.int .i64 22] ⟨rfl, trivial⟩ ?_
      exact ⟨rfl, M11⟩

/-! ### annals/text.name: function 46 -/
mutual
def text_name.l1 : Nat → Str → Int → Int → Int → Int → Int → Nat → Option (api_Word × Int × Int × Int)
  | 0, _, _, _, _, _, _, _ => none
  | k + 1, a0, x34, x35, x36, x37, x38, i39 => (if i39 < List.length a0 then ((text_stray a0 (i39 : Nat) ((dec a0 i39).1)).bind (fun (r54 : Bool) => (if r54 = true then (some true) else (text_inName k ((dec a0 i39).1)).bind (fun (r61 : Bool) => (if (!r61) = true then (some true) else (if ((i39 : Nat) : Int) = 0 then (text_Letter k ((dec a0 i39).1)).bind (fun (r69 : Bool) => (some (!r69))) else (some false))))))).bind (fun (z51 : Bool) => (if z51 = true then (text_name.j0 k a0 x34 x35 x36 x37 (i39 : Nat)) else (if (x37 : Int) = 48 then (some ((⟨0, 0, (lit []), 0⟩ : api_Word), 0, 23, (i39 : Nat))) else (text_name.l1 k a0 x34 x35 x36 (wrap64 (x37 + 1)) x38 (i39 + (dec a0 i39).2))))) else (text_name.j0 k a0 x34 x35 x36 x37 x38))
def text_name.j0 : Nat → Str → Int → Int → Int → Int → Int → Option (api_Word × Int × Int × Int)
  | 0, _, _, _, _, _, _ => none
  | k + 1, a0, x5, x6, x7, x8, x9 => (if (x8 : Int) = 0 then (text_other a0).bind (fun (r94 : Int) => (some ((⟨0, 0, (lit []), 0⟩ : api_Word), 0, r94, 0))) else (subS a0 0 x9).bind (fun q104 => (some ((⟨1, 0, q104, 0⟩ : api_Word), x9, 0, 0))))
end
def text_name (k : Nat) (a0 : Str) : Option (api_Word × Int × Int × Int) :=
  (text_name.l1 k a0 0 0 0 0 (List.length a0 : Int) 0)
set_option maxRecDepth 100000 in
set_option maxHeartbeats 4000000 in
theorem text_name_ok (k : Nat) (a0 : Str) (r : api_Word × Int × Int × Int) (w : World) (Fr : BS) (hG : Gl Fr w) (hF : ∀ b, Fr b → b < w.heap.size)  (H : text_name k a0 = some r) :
    CallsR Tryd.prog 46 #[.string (sv a0)] w (fun v w' => v = .tuple #[.agg #[.int .i64 r.1.Kind, .int .i64 r.1.At, .string (sv r.1.Text), .int .i64 r.1.Num], .int .i64 r.2.1, .int .i64 r.2.2.1, .int .i64 r.2.2.2] ∧ Mem w' [(Fr, w)]) := by
  have M0 := Mem.start w Fr hF
  refine enterZ (args := [.string (sv a0)]) [.cell 2 88, .tmp 3, .tmp 4, .tmp 5] Tryd.func46 rfl rfl rfl rfl ?_
  unfold text_name at H
  refine WC_seq ?_
  refine WC_region ?_
  refine WL_of (L_alloc M0 rfl rfl zr88 [.int .i64 0, .int .i64 0, .string (sv (lit [])), .int .i64 0] rfl ?_)
  intro g1 W2 B3 M4
  refine WL_of (L_assign rfl rfl (.int .i64 0) rfl ?_)
  refine WL_of (L_assign rfl rfl (.int .i64 0) rfl ?_)
  refine WL_of (L_assign rfl rfl (.int .i64 0) rfl ?_)
  refine WL_nil ?_
  refine thenN ?_
  refine WC_seq ?_
  refine WC_region ?_
  refine WL_of (L_move rfl rfl (.string (sv a0)) rfl ?_)
  refine WL_of (L_len rfl rfl (.string (sv a0)) rfl (List.length a0) (N_str Tryd.underlying9 a0) ?_)
  refine WL_of (L_assign rfl rfl (.int .i64 0) rfl ?_)
  refine WL_of (L_assign rfl rfl (.int .i64 (List.length a0 : Int)) rfl ?_)
  refine WL_nil ?_
  refine thenN ?_
  refine WC_cut (fun ρ w_ => ∃ (k13 : Nat), ∃ (x5 : Int) (x6 : Int) (x7 : Int) (x8 : Int) (x9 : Int) (ρ0 : Nat → Value), ρ = updL ρ0 [(0, .string (sv a0)), (2, .pointer (some ⟨g1, 0, none⟩)), (3, .int .i64 x5), (4, .int .i64 x6), (5, .int .i64 x7), (6, .int .i64 x8), (7, .int .i64 x9)] ∧ Mem w_ [(one g1, W2), (Fr, w)] ∧ k13 ≤ k ∧ text_name.j0 k13 a0 x5 x6 x7 x8 x9 = some r) ?_ ?_
  · refine WC_seq ?_
    refine WC_region ?_
    refine WL_of (L_move rfl rfl (.string (sv a0)) rfl ?_)
    refine WL_of (L_range M4 rfl rfl Tryd.underlying9 a0 rfl ?_)
    intro g16 W17 hi18 M19
    refine WL_nil ?_
    refine thenN ?_
    refine WC_block ?_
    refine WC_loop (fun k45 ρ w_ => ∃ (x34 : Int) (x35 : Int) (x36 : Int) (x37 : Int) (x38 : Int) (i39 : Nat) (ρ0 : Nat → Value), ρ = updL ρ0 [(0, .string (sv a0)), (2, .pointer (some ⟨g1, 0, none⟩)), (3, .int .i64 x34), (4, .int .i64 x35), (5, .int .i64 x36), (6, .int .i64 x37), (7, .int .i64 x38), (13, .pointer (some ⟨g16, 0, none⟩))] ∧ Mem w_ [(one g16, w_), (one g1, W2), (Fr, w)] ∧ w_.heap[g16]? = some (.stringIter (sv a0) i39) ∧ k45 ≤ k ∧ text_name.l1 k45 a0 x34 x35 x36 x37 x38 i39 = some r) k ?_ ?_
    · exact ⟨0, 0, 0, 0, (List.length a0 : Int), 0, _, updL_same _ _ ⟨rfl, rfl, rfl, rfl, rfl, rfl, rfl, rfl, trivial⟩, M19, hi18, (Nat.le_refl _), H⟩
    · rintro k45 _ W41 ⟨x34, x35, x36, x37, x38, i39, ρ43, rfl, M42, hi40, hk46, H44⟩
      cases k45 with
      | zero => rw [text_name.l1] at H44; cases H44
      | succ k45 =>
      rw [text_name.l1] at H44
      refine WC_seq ?_
      refine WC_region ?_
      refine WL_of (L_next M42 rfl rfl hi40 rfl (fun c47 => ?_) (fun c47 => ?_))
      · replace H44 := ifP c47 H44
        intro W48 hi49 M50
        refine WL_of (L_extract rfl rfl [.bool true, .int .i64 (i39 : Nat), .int .i32 ((dec a0 i39).1)] rfl (.bool true) rfl ?_)
        refine WL_nil ?_
        refine thenN ?_
        refine WC_seq ?_
        refine WC_yes rfl ?_
        refine WC_skip ?_
        refine thenN ?_
        refine WC_block ?_
        refine WC_seq ?_
        refine WC_region ?_
        refine WL_of (L_extract rfl rfl [.bool true, .int .i64 (i39 : Nat), .int .i32 ((dec a0 i39).1)] rfl (.int .i64 (i39 : Nat)) rfl ?_)
        refine WL_of (L_extract rfl rfl [.bool true, .int .i64 (i39 : Nat), .int .i32 ((dec a0 i39).1)] rfl (.int .i32 ((dec a0 i39).1)) rfl ?_)
        refine WL_of (L_assign rfl rfl (.int .i64 (i39 : Nat)) rfl ?_)
        refine WL_of (L_assign rfl rfl (.int .i32 ((dec a0 i39).1)) rfl ?_)
        refine WL_nil ?_
        refine thenN ?_
        refine WC_seq ?_
        obtain ⟨z51, hz52, H44⟩ := bindS H44
        refine WC_cut (fun ρ w_ => ∃  (ρ0 : Nat → Value), ρ = updL ρ0 [(0, .string (sv a0)), (2, .pointer (some ⟨g1, 0, none⟩)), (3, .int .i64 x34), (4, .int .i64 x35), (5, .int .i64 x36), (6, .int .i64 x37), (7, .int .i64 x38), (8, .int .i64 (i39 : Nat)), (13, .pointer (some ⟨g16, 0, none⟩)), (35, .bool z51)] ∧ Mem w_ [(one g16, W48), (one g1, W2), (Fr, w)]) ?_ ?_
        · refine WC_region ?_
          refine WL_of (L_move rfl rfl (.string (sv a0)) rfl ?_)
          refine WL_of (L_move rfl rfl (.int .i64 (i39 : Nat)) rfl ?_)
          refine WL_of (L_move rfl rfl (.int .i32 ((dec a0 i39).1)) rfl ?_)
          obtain ⟨r54, hr55, hz52⟩ := bindS hz52
          refine WL_of (L_call' rfl rfl cf55 [.string (sv a0), .int .i64 (i39 : Nat), .int .i32 ((dec a0 i39).1)] rfl (text_stray_ok a0 (i39 : Nat) ((dec a0 i39).1) r54 _ (Un [(one g16, W48), (one g1, W2), (Fr, w)]) (hG.call M50 2 rfl) M50.frame  hr55) ?_)
          rintro _ W56 ⟨rfl, M57⟩
          have M58 : Mem W56 [(one g16, W48), (one g1, W2), (Fr, w)] := M50.back (New := []) M57
          refine WL_of (L_move rfl rfl (.bool r54) rfl ?_)
          by_cases c59 : r54 = true
          · replace hz52 := ifP c59 hz52
            refine WL_known 22 true (wtrue c59) ?_
            refine WL_of (WO_off rfl rfl ?_)
            refine WL_of (WO_off rfl rfl ?_)
            refine WL_of (WO_off rfl rfl ?_)
            refine WL_of (L_pick rfl rfl true rfl (.bool true) rfl ?_)
            refine WL_of (L_move rfl rfl (.bool true) rfl ?_)
            refine WL_of (WO_off rfl rfl ?_)
            refine WL_of (WO_off rfl rfl ?_)
            refine WL_of (WO_off rfl rfl ?_)
            refine WL_of (WO_off rfl rfl ?_)
            refine WL_of (WO_off rfl rfl ?_)
            refine WL_of (WO_off rfl rfl ?_)
            refine WL_of (WO_off rfl rfl ?_)
            refine WL_of (L_pick rfl rfl true rfl (.bool true) rfl ?_)
            refine WL_nil ?_
            refine thenN ?_
            obtain rfl := someE hz52
            exact ⟨_, updL_same _ _ ⟨rfl, rfl, rfl, rfl, rfl, rfl, rfl, rfl, rfl, rfl, trivial⟩, M58⟩
          · replace hz52 := ifN c59 hz52
            refine WL_known 22 false (wfalse c59) ?_
            refine WL_of (L_move rfl rfl (.int .i32 ((dec a0 i39).1)) rfl ?_)
            obtain ⟨r61, hr62, hz52⟩ := bindS hz52
            refine WL_of (L_call' rfl rfl cf56 [.int .i32 ((dec a0 i39).1)] rfl (text_inName_ok k45 ((dec a0 i39).1) r61 _ (Un [(one g16, W48), (one g1, W2), (Fr, w)]) (hG.call M58 2 rfl) M58.frame  hr62) ?_)
            rintro _ W63 ⟨rfl, M64⟩
            have M65 : Mem W63 [(one g16, W48), (one g1, W2), (Fr, w)] := M58.back (New := []) M64
            refine WL_of (L_not rfl rfl r61 rfl ?_)
            refine WL_of (L_pick rfl rfl false rfl (.bool (!r61)) rfl ?_)
            refine WL_of (L_move rfl rfl (.bool (!r61)) rfl ?_)
            by_cases c66 : (!r61) = true
            · replace hz52 := ifP c66 hz52
              refine WL_known 27 true (wtrue c66) ?_
              refine WL_of (WO_off rfl rfl ?_)
              refine WL_of (WO_off rfl rfl ?_)
              refine WL_of (WO_off rfl rfl ?_)
              refine WL_of (WO_off rfl rfl ?_)
              refine WL_of (WO_off rfl rfl ?_)
              refine WL_of (WO_off rfl rfl ?_)
              refine WL_of (WO_off rfl rfl ?_)
              refine WL_of (L_pick rfl rfl true rfl (.bool true) rfl ?_)
              refine WL_nil ?_
              refine thenN ?_
              obtain rfl := someE hz52
              exact ⟨_, updL_same _ _ ⟨rfl, rfl, rfl, rfl, rfl, rfl, rfl, rfl, rfl, rfl, trivial⟩, M65⟩
            · replace hz52 := ifN c66 hz52
              refine WL_known 27 false (wfalse c66) ?_
              refine WL_of (L_move rfl rfl (.int .i64 (i39 : Nat)) rfl ?_)
              refine WL_of (L_bin rfl rfl (.int .i64 (i39 : Nat)) (.int .i64 0) rfl rfl (.bool (decide (((i39 : Nat) : Int) = 0))) (B_eql _ _ _ _ (i39 : Nat) 0) ?_)
              refine WL_of (L_move rfl rfl (.bool (decide (((i39 : Nat) : Int) = 0))) rfl ?_)
              by_cases c67 : ((i39 : Nat) : Int) = 0
              · replace hz52 := ifP c67 hz52
                refine WL_known 30 true (vtrue c67) ?_
                refine WL_of (L_move rfl rfl (.int .i32 ((dec a0 i39).1)) rfl ?_)
                obtain ⟨r69, hr70, hz52⟩ := bindS hz52
                refine WL_of (L_call' rfl rfl cf57 [.int .i32 ((dec a0 i39).1)] rfl (text_Letter_ok k45 ((dec a0 i39).1) r69 _ (Un [(one g16, W48), (one g1, W2), (Fr, w)]) (hG.call M65 2 rfl) M65.frame  hr70) ?_)
                rintro _ W71 ⟨rfl, M72⟩
                have M73 : Mem W71 [(one g16, W48), (one g1, W2), (Fr, w)] := M65.back (New := []) M72
                refine WL_of (L_not rfl rfl r69 rfl ?_)
                refine WL_of (L_pick rfl rfl true rfl (.bool (!r69)) rfl ?_)
                refine WL_of (L_pick rfl rfl false rfl (.bool (!r69)) rfl ?_)
                refine WL_nil ?_
                refine thenN ?_
                obtain rfl := someE hz52
                exact ⟨_, updL_same _ _ ⟨rfl, rfl, rfl, rfl, rfl, rfl, rfl, rfl, rfl, rfl, trivial⟩, M73⟩
              · replace hz52 := ifN c67 hz52
                refine WL_known 30 false (vfalse c67) ?_
                refine WL_of (WO_off rfl rfl ?_)
                refine WL_of (WO_off rfl rfl ?_)
                refine WL_of (WO_off rfl rfl ?_)
                refine WL_of (L_pick rfl rfl false rfl (.bool false) rfl ?_)
                refine WL_of (L_pick rfl rfl false rfl (.bool false) rfl ?_)
                refine WL_nil ?_
                refine thenN ?_
                obtain rfl := someE hz52
                exact ⟨_, updL_same _ _ ⟨rfl, rfl, rfl, rfl, rfl, rfl, rfl, rfl, rfl, rfl, trivial⟩, M65⟩
        · rintro _ W74 ⟨ρ76, rfl, M75⟩
          refine WC_ifb rfl (fun c77 => ?_) (fun c77 => ?_)
          · replace H44 := ifP c77 H44
            refine WC_seq ?_
            refine WC_region ?_
            refine WL_of (L_move rfl rfl (.int .i64 (i39 : Nat)) rfl ?_)
            refine WL_of (L_assign rfl rfl (.int .i64 (i39 : Nat)) rfl ?_)
            refine WL_nil ?_
            refine thenN ?_
            refine WC_exit ?_
            refine thenE ?_
            refine blkY rfl ?_
            refine thenE ?_
            refine blkX ?_
            refine thenN ?_
            have M78 : Mem W74 [(Fr, w), (one g16, W48), (one g1, W2)] := M75.front [(one g16, W48), (one g1, W2)] rfl
            have M79 : Mem W74 [(one g1, W2), (Fr, w), (one g16, W48)] := M78.front [(Fr, w), (one g16, W48)] rfl
            have M80 : Mem W74 [(one g1, W2), (Fr, w)] := M79.sub (List.prefix_append [(one g1, W2), (Fr, w)] [(one g16, W48)]).sublist
            exact ⟨k45, x34, x35, x36, x37, (i39 : Nat), _, updL_same _ _ ⟨rfl, rfl, rfl, rfl, rfl, rfl, rfl, trivial⟩, M80, (by omega), H44⟩
          · replace H44 := ifN (by rw [c77]; simp) H44
            refine WC_skip ?_
            refine thenN ?_
            refine WC_seq ?_
            refine WC_seq ?_
            refine WC_region ?_
            refine WL_of (L_move rfl rfl (.int .i64 x37) rfl ?_)
            refine WL_of (L_bin rfl rfl (.int .i64 x37) (.int .i64 48) rfl rfl (.bool (decide ((x37 : Int) = 48))) (B_eql _ _ _ _ x37 48) ?_)
            refine WL_nil ?_
            refine thenN ?_
            refine WC_if (p := (x37 : Int) = 48) rfl (fun c81 => ?_) (fun c81 => ?_)
            · replace H44 := ifP c81 H44
              refine WC_seq ?_
              refine WC_region ?_
              refine WL_of (L_build' rfl rfl [] rfl Tryd.underlying88 zr88 pl88 [.int .i64 0, .int .i64 0, .string (sv (lit [])), .int .i64 0] rfl ?_)
              refine WL_of (L_move rfl rfl (.int .i64 (i39 : Nat)) rfl ?_)
              have M82 : Mem W74 [(one g1, W2), (one g16, W48), (Fr, w)] := M75.front [(one g16, W48)] rfl
              refine WL_of (L_store M82 rfl (.agg #[.int .i64 0, .int .i64 0, .string (sv (lit [])), .int .i64 0]) rfl [.int .i64 0, .int .i64 0, .string (sv (lit [])), .int .i64 0] rfl 4 sz88 rfl rfl rfl B3 rfl rfl [.int .i64 0, .int .i64 0, .string (sv (lit [])), .int .i64 0] rfl ?_)
              intro W83 B84 M85
              refine WL_of (L_assign rfl rfl (.int .i64 0) rfl ?_)
              refine WL_of (L_assign rfl rfl (.int .i64 23) rfl ?_)
              refine WL_of (L_assign rfl rfl (.int .i64 (i39 : Nat)) rfl ?_)
              refine WL_nil ?_
              refine thenN ?_
              refine WC_ret ?_
              refine thenR ?_
              refine blkR ?_
              refine thenR ?_
              refine blkR ?_
              refine thenR ?_
              obtain rfl := someE H44
              have M86 : Mem W83 [(Fr, w), (one g1, W83), (one g16, W48)] := M85.front [(one g1, W83), (one g16, W48)] rfl
              have M87 : Mem W83 [(Fr, w)] := M86.sub (List.prefix_append [(Fr, w)] [(one g1, W83), (one g16, W48)]).sublist
              refine retR [.agg #[.int .i64 0, .int .i64 0, .string (sv (lit [])), .int .i64 0], .int .i64 0, .int .i64 23, .int .i64 (i39 : Nat)] ⟨⟨_, rfl, R_loadVarN Tryd.underlying88 rfl B84.el (M85.agree 0 rfl) sz88 rfl⟩, rfl, rfl, rfl, trivial⟩ ?_
              exact ⟨rfl, M87⟩
            · replace H44 := ifN c81 H44
              refine WC_skip ?_
              refine thenN ?_
              refine WC_region ?_
              refine WL_of (L_move rfl rfl (.int .i64 x37) rfl ?_)
              refine WL_of (L_bin rfl rfl (.int .i64 x37) (.int .i64 1) rfl rfl (.int .i64 (wrap64 (x37 + 1))) (B_add _ _ _ x37 1) ?_)
              refine WL_of (L_assign rfl rfl (.int .i64 (wrap64 (x37 + 1))) rfl ?_)
              refine WL_nil ?_
              refine blkN ?_
              refine thenN ?_
              have M88 : Mem W74 [(one g16, W74), (one g1, W2), (Fr, w)] := M75.rebase
              exact ⟨k45, by omega, x34, x35, x36, wrap64 (x37 + 1), x38, (i39 + (dec a0 i39).2), _, updL_same _ _ ⟨rfl, rfl, rfl, rfl, rfl, rfl, rfl, rfl, trivial⟩, M88, ((M75.agree 0 rfl) _ rfl).trans hi49, (by omega), H44⟩
      · replace H44 := ifN c47 H44
        refine WL_of (L_extract rfl rfl [.bool false] rfl (.bool false) rfl ?_)
        refine WL_nil ?_
        refine thenN ?_
        refine WC_seq ?_
        refine WC_no rfl ?_
        refine WC_exit ?_
        refine thenE ?_
        refine thenE ?_
        refine blkX ?_
        refine thenN ?_
        have M89 : Mem W41 [(Fr, w), (one g16, W41), (one g1, W2)] := M42.front [(one g16, W41), (one g1, W2)] rfl
        have M90 : Mem W41 [(one g1, W2), (Fr, w), (one g16, W41)] := M89.front [(Fr, w), (one g16, W41)] rfl
        have M91 : Mem W41 [(one g1, W2), (Fr, w)] := M90.sub (List.prefix_append [(one g1, W2), (Fr, w)] [(one g16, W41)]).sublist
        exact ⟨k45, x34, x35, x36, x37, x38, _, updL_same _ _ ⟨rfl, rfl, rfl, rfl, rfl, rfl, rfl, trivial⟩, M91, (by omega), H44⟩
  · rintro _ W10 ⟨k13, x5, x6, x7, x8, x9, ρ12, rfl, M11, hk14, H15⟩
    cases k13 with
    | zero => rw [text_name.j0] at H15; cases H15
    | succ k13 =>
    rw [text_name.j0] at H15
    refine WC_seq ?_
    refine WC_seq ?_
    refine WC_region ?_
    refine WL_of (L_move rfl rfl (.int .i64 x8) rfl ?_)
    refine WL_of (L_bin rfl rfl (.int .i64 x8) (.int .i64 0) rfl rfl (.bool (decide ((x8 : Int) = 0))) (B_eql _ _ _ _ x8 0) ?_)
    refine WL_nil ?_
    refine thenN ?_
    refine WC_if (p := (x8 : Int) = 0) rfl (fun c92 => ?_) (fun c92 => ?_)
    · replace H15 := ifP c92 H15
      refine WC_seq ?_
      refine WC_region ?_
      refine WL_of (L_build' rfl rfl [] rfl Tryd.underlying88 zr88 pl88 [.int .i64 0, .int .i64 0, .string (sv (lit [])), .int .i64 0] rfl ?_)
      refine WL_of (L_move rfl rfl (.string (sv a0)) rfl ?_)
      obtain ⟨r94, hr95, H15⟩ := bindS H15
      refine WL_of (L_call' rfl rfl cf35 [.string (sv a0)] rfl (text_other_ok a0 r94 _ (Un [(one g1, W2), (Fr, w)]) (hG.call M11 1 rfl) M11.frame  hr95) ?_)
      rintro _ W96 ⟨rfl, M97⟩
      have M98 : Mem W96 [(one g1, W2), (Fr, w)] := M11.back (New := []) M97
      refine WL_of (L_store M98 rfl (.agg #[.int .i64 0, .int .i64 0, .string (sv (lit [])), .int .i64 0]) rfl [.int .i64 0, .int .i64 0, .string (sv (lit [])), .int .i64 0] rfl 4 sz88 rfl rfl rfl B3 rfl rfl [.int .i64 0, .int .i64 0, .string (sv (lit [])), .int .i64 0] rfl ?_)
      intro W99 B100 M101
      refine WL_of (L_assign rfl rfl (.int .i64 0) rfl ?_)
      refine WL_of (L_assign rfl rfl (.int .i64 r94) rfl ?_)
      refine WL_of (L_assign rfl rfl (.int .i64 0) rfl ?_)
      refine WL_nil ?_
      refine thenN ?_
      refine WC_ret ?_
      refine thenR ?_
      obtain rfl := someE H15
      have M102 : Mem W99 [(Fr, w), (one g1, W99)] := M101.front [(one g1, W99)] rfl
      have M103 : Mem W99 [(Fr, w)] := M102.sub (List.prefix_append [(Fr, w)] [(one g1, W99)]).sublist
      refine retR [.agg #[.int .i64 0, .int .i64 0, .string (sv (lit [])), .int .i64 0], .int .i64 0, .int .i64 r94, .int .i64 0] ⟨⟨_, rfl, R_loadVarN Tryd.underlying88 rfl B100.el (M101.agree 0 rfl) sz88 rfl⟩, rfl, rfl, rfl, trivial⟩ ?_
      exact ⟨rfl, M103⟩
    · replace H15 := ifN c92 H15
      refine WC_skip ?_
      refine thenN ?_
      refine WC_seq ?_
      refine WC_region ?_
      refine WL_of (L_move rfl rfl (.string (sv a0)) rfl ?_)
      refine WL_of (L_move rfl rfl (.int .i64 x9) rfl ?_)
      obtain ⟨q104, hq105, H15⟩ := bindS H15
      refine WL_of (L_sslice rfl rfl Tryd.underlying9 a0 rfl 0 x9 .i64 .i64 (.inr ⟨rfl, rfl⟩) (.inl rfl) q104 hq105 ?_)
      refine WL_of (L_build' rfl rfl [(0, .int .i64 1), (2, .string (sv q104))] rfl Tryd.underlying88 zr88 pl88 [.int .i64 1, .int .i64 0, .string (sv q104), .int .i64 0] rfl ?_)
      refine WL_of (L_move rfl rfl (.int .i64 x9) rfl ?_)
      refine WL_of (L_store M11 rfl (.agg #[.int .i64 1, .int .i64 0, .string (sv q104), .int .i64 0]) rfl [.int .i64 1, .int .i64 0, .string (sv q104), .int .i64 0] rfl 4 sz88 rfl rfl rfl B3 rfl rfl [.int .i64 1, .int .i64 0, .string (sv q104), .int .i64 0] rfl ?_)
      intro W106 B107 M108
      refine WL_of (L_assign rfl rfl (.int .i64 x9) rfl ?_)
      refine WL_of (L_assign rfl rfl (.int .i64 0) rfl ?_)
      refine WL_of (L_assign rfl rfl (.int .i64 0) rfl ?_)
      refine WL_nil ?_
      refine thenN ?_
      refine WC_ret ?_
      obtain rfl := someE H15
      have M109 : Mem W106 [(Fr, w), (one g1, W106)] := M108.front [(one g1, W106)] rfl
      have M110 : Mem W106 [(Fr, w)] := M109.sub (List.prefix_append [(Fr, w)] [(one g1, W106)]).sublist
      refine retR [.agg #[.int .i64 1, .int .i64 0, .string (sv q104), .int .i64 0], .int .i64 x9, .int .i64 0, .int .i64 0] ⟨⟨_, rfl, R_loadVarN Tryd.underlying88 rfl B107.el (M108.agree 0 rfl) sz88 rfl⟩, rfl, rfl, rfl, trivial⟩ ?_
      exact ⟨rfl, M110⟩

/-! ### annals/text.word: function 33 -/
def text_word (k : Nat) (a0 : Str) : Option (api_Word × Int × Int × Int) :=
  (atL a0 0).bind (fun b5 => (if b5 = (34 : UInt8) then (text_Unquote k a0 0).bind (fun (r9 : (Str × Int × Int)) => (some ((⟨3, 0, r9.1, 0⟩ : api_Word), r9.2.1, r9.2.2, 0))) else (atL a0 0).bind (fun b19 => (strings_IndexByte (lit [58, 44, 59, 126, 33, 61, 47, 64, 42, 43, 40, 41]) b19).bind (fun (r22 : Int) => (if (0 : Int) ≤ r22 then (subS a0 0 1).bind (fun q28 => (some ((⟨4, 0, q28, 0⟩ : api_Word), 1, 0, 0))) else ((atL a0 0).bind (fun b37 => (text_digit b37).bind (fun (r40 : Bool) => (if r40 = true then (some true) else (atL a0 0).bind (fun b46 => (if b46 = (45 : UInt8) then (if (1 : Int) < (List.length a0 : Int) then (atL a0 1).bind (fun b50 => (text_digit b50).bind (fun (r53 : Bool) => (some r53))) else (some false)) else (some false))))))).bind (fun (z35 : Bool) => (if z35 = true then (text_number k a0).bind (fun (r63 : (api_Word × Int × Int × Int)) => (some (r63.1, r63.2.1, r63.2.2.1, r63.2.2.2))) else (text_name k a0).bind (fun (r74 : (api_Word × Int × Int × Int)) => (some (r74.1, r74.2.1, r74.2.2.1, r74.2.2.2))))))))))
set_option maxRecDepth 100000 in
set_option maxHeartbeats 4000000 in
theorem text_word_ok (k : Nat) (a0 : Str) (r : api_Word × Int × Int × Int) (w : World) (Fr : BS) (hG : Gl Fr w) (hF : ∀ b, Fr b → b < w.heap.size)  (H : text_word k a0 = some r) :
    CallsR Tryd.prog 33 #[.string (sv a0)] w (fun v w' => v = .tuple #[.agg #[.int .i64 r.1.Kind, .int .i64 r.1.At, .string (sv r.1.Text), .int .i64 r.1.Num], .int .i64 r.2.1, .int .i64 r.2.2.1, .int .i64 r.2.2.2] ∧ Mem w' [(Fr, w)]) := by
  have M0 := Mem.start w Fr hF
  refine enterZ (args := [.string (sv a0)]) [.cell 2 88, .tmp 3, .tmp 4, .tmp 5] Tryd.func33 rfl rfl rfl rfl ?_
  unfold text_word at H
  refine WC_seq ?_
  refine WC_region ?_
  refine WL_of (L_alloc M0 rfl rfl zr88 [.int .i64 0, .int .i64 0, .string (sv (lit [])), .int .i64 0] rfl ?_)
  intro g1 W2 B3 M4
  refine WL_of (L_assign rfl rfl (.int .i64 0) rfl ?_)
  refine WL_of (L_assign rfl rfl (.int .i64 0) rfl ?_)
  refine WL_of (L_assign rfl rfl (.int .i64 0) rfl ?_)
  refine WL_nil ?_
  refine thenN ?_
  refine WC_seq ?_
  refine WC_block ?_
  refine WC_seq ?_
  refine WC_region ?_
  refine WL_of (L_move rfl rfl (.string (sv a0)) rfl ?_)
  obtain ⟨b5, hb6, H⟩ := bindS H
  refine WL_of (L_sindex rfl rfl Tryd.underlying9 .i64 a0 0 rfl rfl b5 hb6 ?_)
  refine WL_of (L_bin rfl rfl (.int .u8 (b5.toNat : Int)) (.int .u8 34) rfl rfl (.bool (decide (b5 = (34 : UInt8)))) (B_eql8 _ _ _ b5 (34 : UInt8)) ?_)
  refine WL_of (L_assign rfl rfl (.bool (decide (b5 = (34 : UInt8)))) rfl ?_)
  refine WL_nil ?_
  refine thenN ?_
  refine WC_if (p := b5 = (34 : UInt8)) rfl (fun c7 => ?_) (fun c7 => ?_)
  · replace H := ifP c7 H
    refine WC_seq ?_
    refine WC_region ?_
    refine WL_of (L_move rfl rfl (.string (sv a0)) rfl ?_)
    obtain ⟨r9, hr10, H⟩ := bindS H
    refine WL_of (L_call' rfl rfl cf43 [.string (sv a0), .int .i64 0] rfl (text_Unquote_ok k a0 0 r9 _ (Un [(one g1, W2), (Fr, w)]) (hG.call M4 1 rfl) M4.frame  hr10) ?_)
    rintro _ W11 ⟨rfl, M12⟩
    have M13 : Mem W11 [(one g1, W2), (Fr, w)] := M4.back (New := []) M12
    refine WL_of (L_move rfl rfl (.tuple #[.string (sv r9.1), .int .i64 r9.2.1, .int .i64 r9.2.2]) rfl ?_)
    refine WL_of (L_extract rfl rfl [.string (sv r9.1), .int .i64 r9.2.1, .int .i64 r9.2.2] rfl (.string (sv r9.1)) rfl ?_)
    refine WL_of (L_extract rfl rfl [.string (sv r9.1), .int .i64 r9.2.1, .int .i64 r9.2.2] rfl (.int .i64 r9.2.1) rfl ?_)
    refine WL_of (L_extract rfl rfl [.string (sv r9.1), .int .i64 r9.2.1, .int .i64 r9.2.2] rfl (.int .i64 r9.2.2) rfl ?_)
    refine WL_of (L_assign rfl rfl (.string (sv r9.1)) rfl ?_)
    refine WL_of (L_assign rfl rfl (.int .i64 r9.2.1) rfl ?_)
    refine WL_of (L_assign rfl rfl (.int .i64 r9.2.2) rfl ?_)
    refine WL_nil ?_
    refine thenN ?_
    refine WC_seq ?_
    refine WC_region ?_
    refine WL_of (L_move rfl rfl (.string (sv r9.1)) rfl ?_)
    refine WL_of (L_build' rfl rfl [(0, .int .i64 3), (2, .string (sv r9.1))] rfl Tryd.underlying88 zr88 pl88 [.int .i64 3, .int .i64 0, .string (sv r9.1), .int .i64 0] rfl ?_)
    refine WL_of (L_move rfl rfl (.int .i64 r9.2.1) rfl ?_)
    refine WL_of (L_move rfl rfl (.int .i64 r9.2.2) rfl ?_)
    refine WL_of (L_store M13 rfl (.agg #[.int .i64 3, .int .i64 0, .string (sv r9.1), .int .i64 0]) rfl [.int .i64 3, .int .i64 0, .string (sv r9.1), .int .i64 0] rfl 4 sz88 rfl rfl rfl B3 rfl rfl [.int .i64 3, .int .i64 0, .string (sv r9.1), .int .i64 0] rfl ?_)
    intro W14 B15 M16
    refine WL_of (L_assign rfl rfl (.int .i64 r9.2.1) rfl ?_)
    refine WL_of (L_assign rfl rfl (.int .i64 r9.2.2) rfl ?_)
    refine WL_of (L_assign rfl rfl (.int .i64 0) rfl ?_)
    refine WL_nil ?_
    refine thenN ?_
    refine WC_ret ?_
    refine blkR ?_
    refine thenR ?_
    obtain rfl := someE H
    have M17 : Mem W14 [(Fr, w), (one g1, W14)] := M16.front [(one g1, W14)] rfl
    have M18 : Mem W14 [(Fr, w)] := M17.sub (List.prefix_append [(Fr, w)] [(one g1, W14)]).sublist
    refine retR [.agg #[.int .i64 3, .int .i64 0, .string (sv r9.1), .int .i64 0], .int .i64 r9.2.1, .int .i64 r9.2.2, .int .i64 0] ⟨⟨_, rfl, R_loadVarN Tryd.underlying88 rfl B15.el (M16.agree 0 rfl) sz88 rfl⟩, rfl, rfl, rfl, trivial⟩ ?_
    exact ⟨rfl, M18⟩
  · replace H := ifN c7 H
    refine WC_seq ?_
    refine WC_region ?_
    refine WL_of (L_move rfl rfl (.string (sv a0)) rfl ?_)
    obtain ⟨b19, hb20, H⟩ := bindS H
    refine WL_of (L_sindex rfl rfl Tryd.underlying9 .i64 a0 0 rfl rfl b19 hb20 ?_)
    obtain ⟨r22, hr23, H⟩ := bindS H
    refine WL_of (L_call' rfl rfl cf34 [.string (sv (lit [58, 44, 59, 126, 33, 61, 47, 64, 42, 43, 40, 41])), .int .u8 (b19.toNat : Int)] rfl (strings_IndexByte_ok (lit [58, 44, 59, 126, 33, 61, 47, 64, 42, 43, 40, 41]) b19 r22 _ (Un [(one g1, W2), (Fr, w)]) (hG.call M4 1 rfl) M4.frame  hr23) ?_)
    rintro _ W24 ⟨rfl, M25⟩
    have M26 : Mem W24 [(one g1, W2), (Fr, w)] := M4.back (New := []) M25
    refine WL_of (L_bin rfl rfl (.int .i64 r22) (.int .i64 0) rfl rfl (.bool (decide ((0 : Int) ≤ r22))) (B_geq _ _ _ _ r22 0) ?_)
    refine WL_of (L_assign rfl rfl (.bool (decide ((0 : Int) ≤ r22))) rfl ?_)
    refine WL_nil ?_
    refine thenN ?_
    refine WC_if (p := (0 : Int) ≤ r22) rfl (fun c27 => ?_) (fun c27 => ?_)
    · replace H := ifP c27 H
      refine WC_seq ?_
      refine WC_region ?_
      refine WL_of (L_move rfl rfl (.string (sv a0)) rfl ?_)
      obtain ⟨q28, hq29, H⟩ := bindS H
      refine WL_of (L_sslice rfl rfl Tryd.underlying9 a0 rfl 0 1 .i64 .i64 (.inr ⟨rfl, rfl⟩) (.inl rfl) q28 hq29 ?_)
      refine WL_of (L_build' rfl rfl [(0, .int .i64 4), (2, .string (sv q28))] rfl Tryd.underlying88 zr88 pl88 [.int .i64 4, .int .i64 0, .string (sv q28), .int .i64 0] rfl ?_)
      refine WL_of (L_store M26 rfl (.agg #[.int .i64 4, .int .i64 0, .string (sv q28), .int .i64 0]) rfl [.int .i64 4, .int .i64 0, .string (sv q28), .int .i64 0] rfl 4 sz88 rfl rfl rfl B3 rfl rfl [.int .i64 4, .int .i64 0, .string (sv q28), .int .i64 0] rfl ?_)
      intro W30 B31 M32
      refine WL_of (L_assign rfl rfl (.int .i64 1) rfl ?_)
      refine WL_of (L_assign rfl rfl (.int .i64 0) rfl ?_)
      refine WL_of (L_assign rfl rfl (.int .i64 0) rfl ?_)
      refine WL_nil ?_
      refine thenN ?_
      refine WC_ret ?_
      refine blkR ?_
      refine thenR ?_
      obtain rfl := someE H
      have M33 : Mem W30 [(Fr, w), (one g1, W30)] := M32.front [(one g1, W30)] rfl
      have M34 : Mem W30 [(Fr, w)] := M33.sub (List.prefix_append [(Fr, w)] [(one g1, W30)]).sublist
      refine retR [.agg #[.int .i64 4, .int .i64 0, .string (sv q28), .int .i64 0], .int .i64 1, .int .i64 0, .int .i64 0] ⟨⟨_, rfl, R_loadVarN Tryd.underlying88 rfl B31.el (M32.agree 0 rfl) sz88 rfl⟩, rfl, rfl, rfl, trivial⟩ ?_
      exact ⟨rfl, M34⟩
    · replace H := ifN c27 H
      obtain ⟨z35, hz36, H⟩ := bindS H
      refine WC_cut (fun ρ w_ => ∃  (ρ0 : Nat → Value), ρ = updL ρ0 [(0, .string (sv a0)), (2, .pointer (some ⟨g1, 0, none⟩)), (3, .int .i64 0), (4, .int .i64 0), (5, .int .i64 0), (31, .bool z35)] ∧ Mem w_ [(one g1, W2), (Fr, w)]) ?_ ?_
      · refine WC_region ?_
        refine WL_of (L_move rfl rfl (.string (sv a0)) rfl ?_)
        obtain ⟨b37, hb38, hz36⟩ := bindS hz36
        refine WL_of (L_sindex rfl rfl Tryd.underlying9 .i64 a0 0 rfl rfl b37 hb38 ?_)
        obtain ⟨r40, hr41, hz36⟩ := bindS hz36
        refine WL_of (L_call' rfl rfl cf44 [.int .u8 (b37.toNat : Int)] rfl (text_digit_ok b37 r40 _ (Un [(one g1, W2), (Fr, w)]) (hG.call M26 1 rfl) M26.frame  hr41) ?_)
        rintro _ W42 ⟨rfl, M43⟩
        have M44 : Mem W42 [(one g1, W2), (Fr, w)] := M26.back (New := []) M43
        refine WL_of (L_move rfl rfl (.bool r40) rfl ?_)
        by_cases c45 : r40 = true
        · replace hz36 := ifP c45 hz36
          refine WL_known 35 true (wtrue c45) ?_
          refine WL_of (WO_off rfl rfl ?_)
          refine WL_of (WO_off rfl rfl ?_)
          refine WL_of (WO_off rfl rfl ?_)
          refine WL_of (WO_off rfl rfl ?_)
          refine WL_of (WO_off rfl rfl ?_)
          refine WL_of (WO_off rfl rfl ?_)
          refine WL_of (WO_off rfl rfl ?_)
          refine WL_of (WO_off rfl rfl ?_)
          refine WL_of (WO_off rfl rfl ?_)
          refine WL_of (WO_off rfl rfl ?_)
          refine WL_of (WO_off rfl rfl ?_)
          refine WL_of (WO_off rfl rfl ?_)
          refine WL_of (WO_off rfl rfl ?_)
          refine WL_of (L_pick rfl rfl true rfl (.bool true) rfl ?_)
          refine WL_of (L_assign rfl rfl (.bool true) rfl ?_)
          refine WL_nil ?_
          refine thenN ?_
          obtain rfl := someE hz36
          exact ⟨_, updL_same _ _ ⟨rfl, rfl, rfl, rfl, rfl, rfl, trivial⟩, M44⟩
        · replace hz36 := ifN c45 hz36
          refine WL_known 35 false (wfalse c45) ?_
          refine WL_of (L_move rfl rfl (.string (sv a0)) rfl ?_)
          obtain ⟨b46, hb47, hz36⟩ := bindS hz36
          refine WL_of (L_sindex rfl rfl Tryd.underlying9 .i64 a0 0 rfl rfl b46 hb47 ?_)
          refine WL_of (L_bin rfl rfl (.int .u8 (b46.toNat : Int)) (.int .u8 45) rfl rfl (.bool (decide (b46 = (45 : UInt8)))) (B_eql8 _ _ _ b46 (45 : UInt8)) ?_)
          refine WL_of (L_move rfl rfl (.bool (decide (b46 = (45 : UInt8)))) rfl ?_)
          by_cases c48 : b46 = (45 : UInt8)
          · replace hz36 := ifP c48 hz36
            refine WL_known 39 true (vtrue c48) ?_
            refine WL_of (L_move rfl rfl (.string (sv a0)) rfl ?_)
            refine WL_of (L_len rfl rfl (.string (sv a0)) rfl (List.length a0) (N_str Tryd.underlying9 a0) ?_)
            refine WL_of (L_bin rfl rfl (.int .i64 (List.length a0 : Int)) (.int .i64 1) rfl rfl (.bool (decide ((1 : Int) < (List.length a0 : Int)))) (B_gtr _ _ _ _ (List.length a0 : Int) 1) ?_)
            refine WL_of (L_pick rfl rfl true rfl (.bool (decide ((1 : Int) < (List.length a0 : Int)))) rfl ?_)
            refine WL_of (L_move rfl rfl (.bool (decide ((1 : Int) < (List.length a0 : Int)))) rfl ?_)
            by_cases c49 : (1 : Int) < (List.length a0 : Int)
            · replace hz36 := ifP c49 hz36
              refine WL_known 44 true (vtrue c49) ?_
              refine WL_of (L_move rfl rfl (.string (sv a0)) rfl ?_)
              obtain ⟨b50, hb51, hz36⟩ := bindS hz36
              refine WL_of (L_sindex rfl rfl Tryd.underlying9 .i64 a0 1 rfl rfl b50 hb51 ?_)
              obtain ⟨r53, hr54, hz36⟩ := bindS hz36
              refine WL_of (L_call' rfl rfl cf44 [.int .u8 (b50.toNat : Int)] rfl (text_digit_ok b50 r53 _ (Un [(one g1, W2), (Fr, w)]) (hG.call M44 1 rfl) M44.frame  hr54) ?_)
              rintro _ W55 ⟨rfl, M56⟩
              have M57 : Mem W55 [(one g1, W2), (Fr, w)] := M44.back (New := []) M56
              refine WL_of (L_pick rfl rfl true rfl (.bool r53) rfl ?_)
              refine WL_of (L_pick rfl rfl false rfl (.bool r53) rfl ?_)
              refine WL_of (L_assign rfl rfl (.bool r53) rfl ?_)
              refine WL_nil ?_
              refine thenN ?_
              obtain rfl := someE hz36
              exact ⟨_, updL_same _ _ ⟨rfl, rfl, rfl, rfl, rfl, rfl, trivial⟩, M57⟩
            · replace hz36 := ifN c49 hz36
              refine WL_known 44 false (vfalse c49) ?_
              refine WL_of (WO_off rfl rfl ?_)
              refine WL_of (WO_off rfl rfl ?_)
              refine WL_of (WO_off rfl rfl ?_)
              refine WL_of (L_pick rfl rfl false rfl (.bool false) rfl ?_)
              refine WL_of (L_pick rfl rfl false rfl (.bool false) rfl ?_)
              refine WL_of (L_assign rfl rfl (.bool false) rfl ?_)
              refine WL_nil ?_
              refine thenN ?_
              obtain rfl := someE hz36
              exact ⟨_, updL_same _ _ ⟨rfl, rfl, rfl, rfl, rfl, rfl, trivial⟩, M44⟩
          · replace hz36 := ifN c48 hz36
            refine WL_known 39 false (vfalse c48) ?_
            refine WL_of (WO_off rfl rfl ?_)
            refine WL_of (WO_off rfl rfl ?_)
            refine WL_of (WO_off rfl rfl ?_)
            refine WL_of (L_pick rfl rfl false rfl (.bool false) rfl ?_)
            refine WL_of (L_move rfl rfl (.bool false) rfl ?_)
            refine WL_of (WO_off rfl rfl ?_)
            refine WL_of (WO_off rfl rfl ?_)
            refine WL_of (WO_off rfl rfl ?_)
            refine WL_of (L_pick rfl rfl false rfl (.bool false) rfl ?_)
            refine WL_of (L_pick rfl rfl false rfl (.bool false) rfl ?_)
            refine WL_of (L_assign rfl rfl (.bool false) rfl ?_)
            refine WL_nil ?_
            refine thenN ?_
            obtain rfl := someE hz36
            exact ⟨_, updL_same _ _ ⟨rfl, rfl, rfl, rfl, rfl, rfl, trivial⟩, M44⟩
      · rintro _ W58 ⟨ρ60, rfl, M59⟩
        refine WC_ifb rfl (fun c61 => ?_) (fun c61 => ?_)
        · replace H := ifP c61 H
          refine WC_seq ?_
          refine WC_region ?_
          refine WL_of (L_move rfl rfl (.string (sv a0)) rfl ?_)
          obtain ⟨r63, hr64, H⟩ := bindS H
          refine WL_of (L_call' rfl rfl cf45 [.string (sv a0)] rfl (text_number_ok k a0 r63 _ (Un [(one g1, W2), (Fr, w)]) (hG.call M59 1 rfl) M59.frame  hr64) ?_)
          rintro _ W65 ⟨rfl, M66⟩
          have M67 : Mem W65 [(one g1, W2), (Fr, w)] := M59.back (New := []) M66
          refine WL_of (L_extract rfl rfl [.agg #[.int .i64 r63.1.Kind, .int .i64 r63.1.At, .string (sv r63.1.Text), .int .i64 r63.1.Num], .int .i64 r63.2.1, .int .i64 r63.2.2.1, .int .i64 r63.2.2.2] rfl (.agg #[.int .i64 r63.1.Kind, .int .i64 r63.1.At, .string (sv r63.1.Text), .int .i64 r63.1.Num]) rfl ?_)
          refine WL_of (L_extract rfl rfl [.agg #[.int .i64 r63.1.Kind, .int .i64 r63.1.At, .string (sv r63.1.Text), .int .i64 r63.1.Num], .int .i64 r63.2.1, .int .i64 r63.2.2.1, .int .i64 r63.2.2.2] rfl (.int .i64 r63.2.1) rfl ?_)
          refine WL_of (L_extract rfl rfl [.agg #[.int .i64 r63.1.Kind, .int .i64 r63.1.At, .string (sv r63.1.Text), .int .i64 r63.1.Num], .int .i64 r63.2.1, .int .i64 r63.2.2.1, .int .i64 r63.2.2.2] rfl (.int .i64 r63.2.2.1) rfl ?_)
          refine WL_of (L_extract rfl rfl [.agg #[.int .i64 r63.1.Kind, .int .i64 r63.1.At, .string (sv r63.1.Text), .int .i64 r63.1.Num], .int .i64 r63.2.1, .int .i64 r63.2.2.1, .int .i64 r63.2.2.2] rfl (.int .i64 r63.2.2.2) rfl ?_)
          refine WL_of (L_store M67 rfl (.agg #[.int .i64 r63.1.Kind, .int .i64 r63.1.At, .string (sv r63.1.Text), .int .i64 r63.1.Num]) rfl [.int .i64 r63.1.Kind, .int .i64 r63.1.At, .string (sv r63.1.Text), .int .i64 r63.1.Num] rfl 4 sz88 rfl rfl rfl B3 rfl rfl [.int .i64 r63.1.Kind, .int .i64 r63.1.At, .string (sv r63.1.Text), .int .i64 r63.1.Num] rfl ?_)
          intro W68 B69 M70
          refine WL_of (L_assign rfl rfl (.int .i64 r63.2.1) rfl ?_)
          refine WL_of (L_assign rfl rfl (.int .i64 r63.2.2.1) rfl ?_)
          refine WL_of (L_assign rfl rfl (.int .i64 r63.2.2.2) rfl ?_)
          refine WL_nil ?_
          refine thenN ?_
          refine WC_ret ?_
          refine blkR ?_
          refine thenR ?_
          obtain rfl := someE H
          have M71 : Mem W68 [(Fr, w), (one g1, W68)] := M70.front [(one g1, W68)] rfl
          have M72 : Mem W68 [(Fr, w)] := M71.sub (List.prefix_append [(Fr, w)] [(one g1, W68)]).sublist
          refine retR [.agg #[.int .i64 r63.1.Kind, .int .i64 r63.1.At, .string (sv r63.1.Text), .int .i64 r63.1.Num], .int .i64 r63.2.1, .int .i64 r63.2.2.1, .int .i64 r63.2.2.2] ⟨⟨_, rfl, R_loadVarN Tryd.underlying88 rfl B69.el (M70.agree 0 rfl) sz88 rfl⟩, rfl, rfl, rfl, trivial⟩ ?_
          exact ⟨rfl, M72⟩
        · replace H := ifN (by rw [c61]; simp) H
          refine WC_skip ?_
          refine blkN ?_
          refine thenN ?_
          refine WC_seq ?_
          refine WC_region ?_
          refine WL_of (L_move rfl rfl (.string (sv a0)) rfl ?_)
          obtain ⟨r74, hr75, H⟩ := bindS H
          refine WL_of (L_call' rfl rfl cf46 [.string (sv a0)] rfl (text_name_ok k a0 r74 _ (Un [(one g1, W2), (Fr, w)]) (hG.call M59 1 rfl) M59.frame  hr75) ?_)
          rintro _ W76 ⟨rfl, M77⟩
          have M78 : Mem W76 [(one g1, W2), (Fr, w)] := M59.back (New := []) M77
          refine WL_of (L_extract rfl rfl [.agg #[.int .i64 r74.1.Kind, .int .i64 r74.1.At, .string (sv r74.1.Text), .int .i64 r74.1.Num], .int .i64 r74.2.1, .int .i64 r74.2.2.1, .int .i64 r74.2.2.2] rfl (.agg #[.int .i64 r74.1.Kind, .int .i64 r74.1.At, .string (sv r74.1.Text), .int .i64 r74.1.Num]) rfl ?_)
          refine WL_of (L_extract rfl rfl [.agg #[.int .i64 r74.1.Kind, .int .i64 r74.1.At, .string (sv r74.1.Text), .int .i64 r74.1.Num], .int .i64 r74.2.1, .int .i64 r74.2.2.1, .int .i64 r74.2.2.2] rfl (.int .i64 r74.2.1) rfl ?_)
          refine WL_of (L_extract rfl rfl [.agg #[.int .i64 r74.1.Kind, .int .i64 r74.1.At, .string (sv r74.1.Text), .int .i64 r74.1.Num], .int .i64 r74.2.1, .int .i64 r74.2.2.1, .int .i64 r74.2.2.2] rfl (.int .i64 r74.2.2.1) rfl ?_)
          refine WL_of (L_extract rfl rfl [.agg #[.int .i64 r74.1.Kind, .int .i64 r74.1.At, .string (sv r74.1.Text), .int .i64 r74.1.Num], .int .i64 r74.2.1, .int .i64 r74.2.2.1, .int .i64 r74.2.2.2] rfl (.int .i64 r74.2.2.2) rfl ?_)
          refine WL_of (L_store M78 rfl (.agg #[.int .i64 r74.1.Kind, .int .i64 r74.1.At, .string (sv r74.1.Text), .int .i64 r74.1.Num]) rfl [.int .i64 r74.1.Kind, .int .i64 r74.1.At, .string (sv r74.1.Text), .int .i64 r74.1.Num] rfl 4 sz88 rfl rfl rfl B3 rfl rfl [.int .i64 r74.1.Kind, .int .i64 r74.1.At, .string (sv r74.1.Text), .int .i64 r74.1.Num] rfl ?_)
          intro W79 B80 M81
          refine WL_of (L_assign rfl rfl (.int .i64 r74.2.1) rfl ?_)
          refine WL_of (L_assign rfl rfl (.int .i64 r74.2.2.1) rfl ?_)
          refine WL_of (L_assign rfl rfl (.int .i64 r74.2.2.2) rfl ?_)
          refine WL_nil ?_
          refine thenN ?_
          refine WC_ret ?_
          obtain rfl := someE H
          have M82 : Mem W79 [(Fr, w), (one g1, W79)] := M81.front [(one g1, W79)] rfl
          have M83 : Mem W79 [(Fr, w)] := M82.sub (List.prefix_append [(Fr, w)] [(one g1, W79)]).sublist
          refine retR [.agg #[.int .i64 r74.1.Kind, .int .i64 r74.1.At, .string (sv r74.1.Text), .int .i64 r74.1.Num], .int .i64 r74.2.1, .int .i64 r74.2.2.1, .int .i64 r74.2.2.2] ⟨⟨_, rfl, R_loadVarN Tryd.underlying88 rfl B80.el (M81.agree 0 rfl) sz88 rfl⟩, rfl, rfl, rfl, trivial⟩ ?_
          exact ⟨rfl, M83⟩

/-! ### annals/text.Words: function 20 -/
mutual
def text_Words.l1 : Nat → Str → (List api_Word) → Int → Int → (List api_Word) → Int → Option ((List api_Word) × Int × Int)
  | 0, _, _, _, _, _, _ => none
  | k + 1, a0, x47, x52, x53, x54, x59 => (if (x59 : Int) < (List.length a0 : Int) then (atL a0 x59).bind (fun b69 => (if b69 = (35 : UInt8) then (text_Words.j0 k x47 x52 x53 x54) else (text_blank b69).bind (fun (r77 : Bool) => (if r77 = true then (text_Words.l1 k a0 x47 x52 x53 x54 (wrap64 (x59 + 1))) else (subS a0 x59 (List.length a0 : Int)).bind (fun q89 => (text_word k q89).bind (fun (r92 : (api_Word × Int × Int × Int)) => (if (r92.2.2.1 : Int) ≠ 0 then (some (([] : List api_Word), r92.2.2.1, wrap64 (x59 + r92.2.2.2))) else (if List.length x54 + List.length ([(⟨r92.1.Kind, x59, r92.1.Text, r92.1.Num⟩ : api_Word)] : List api_Word) ≤ 3518437208883 then ((if (r92.1.Kind : Int) ≠ 4 then (if (wrap64 (x59 + r92.2.1) : Int) < (List.length a0 : Int) then (atL a0 (wrap64 (x59 + r92.2.1))).bind (fun b128 => (text_blank b128).bind (fun (r131 : Bool) => (if (!r131) = true then (atL a0 (wrap64 (x59 + r92.2.1))).bind (fun b137 => (if b137 ≠ (35 : UInt8) then (atL a0 (wrap64 (x59 + r92.2.1))).bind (fun b140 => (strings_IndexByte (lit [58, 44, 59, 126, 33, 61, 47, 64, 42, 43, 40, 41]) b140).bind (fun (r143 : Int) => (some (decide ((r143 : Int) < 0))))) else (some false))) else (some false)))) else (some false)) else (some false))).bind (fun (z124 : Bool) => (if z124 = true then (subS a0 (wrap64 (x59 + r92.2.1)) (List.length a0 : Int)).bind (fun q152 => (text_other q152).bind (fun (r155 : Int) => (some (([] : List api_Word), r155, wrap64 (x59 + r92.2.1))))) else (text_Words.l1 k a0 x47 x52 x53 (x54 ++ ([(⟨r92.1.Kind, x59, r92.1.Text, r92.1.Num⟩ : api_Word)] : List api_Word)) (wrap64 (x59 + r92.2.1))))) else none)))))))) else (text_Words.j0 k x47 x52 x53 x54))
def text_Words.j0 : Nat → (List api_Word) → Int → Int → (List api_Word) → Option ((List api_Word) × Int × Int)
  | 0, _, _, _, _ => none
  | k + 1, x3, x8, x9, x10 => (some (x10, 0, 0))
end
def text_Words (k : Nat) (a0 : Str) : Option ((List api_Word) × Int × Int) :=
  (if (65536 : Int) < (List.length a0 : Int) then (some (([] : List api_Word), 2, 65536)) else (text_Words.l1 k a0 ([] : List api_Word) 0 0 ([] : List api_Word) 0))
set_option maxRecDepth 100000 in
set_option maxHeartbeats 4000000 in
theorem text_Words_ok (k : Nat) (a0 : Str) (r : (List api_Word) × Int × Int) (w : World) (Fr : BS) (hG : Gl Fr w) (hF : ∀ b, Fr b → b < w.heap.size)  (H : text_Words k a0 = some r) :
    CallsR Tryd.prog 20 #[.string (sv a0)] w (fun v w' => ∃ (A0 : Option Addr) (c0 : Nat) (S0 : BS), v = .tuple #[.slice A0 (List.length r.1) c0, .int .i64 r.2.1, .int .i64 r.2.2] ∧ Mem w' [(S0, w'), (Fr, w)] ∧ OR w' S0 w' none0 88 A0 c0 r.1) := by
  have M0 := Mem.start w Fr hF
  refine enterZ (args := [.string (sv a0)]) [.tmp 2, .tmp 3, .tmp 4] Tryd.func20 rfl rfl rfl rfl ?_
  unfold text_Words at H
  refine WC_seq ?_
  refine WC_region ?_
  refine WL_of (L_assign rfl rfl (.slice none 0 0) rfl ?_)
  refine WL_of (L_assign rfl rfl (.int .i64 0) rfl ?_)
  refine WL_of (L_assign rfl rfl (.int .i64 0) rfl ?_)
  refine WL_nil ?_
  refine thenN ?_
  refine WC_seq ?_
  refine WC_seq ?_
  refine WC_region ?_
  refine WL_of (L_move rfl rfl (.string (sv a0)) rfl ?_)
  refine WL_of (L_len rfl rfl (.string (sv a0)) rfl (List.length a0) (N_str Tryd.underlying9 a0) ?_)
  refine WL_of (L_bin rfl rfl (.int .i64 (List.length a0 : Int)) (.int .i64 65536) rfl rfl (.bool (decide ((65536 : Int) < (List.length a0 : Int)))) (B_gtr _ _ _ _ (List.length a0 : Int) 65536) ?_)
  refine WL_nil ?_
  refine thenN ?_
  refine WC_if (p := (65536 : Int) < (List.length a0 : Int)) rfl (fun c1 => ?_) (fun c1 => ?_)
  · replace H := ifP c1 H
    refine WC_seq ?_
    refine WC_region ?_
    refine WL_of (L_assign rfl rfl (.slice none 0 0) rfl ?_)
    refine WL_of (L_assign rfl rfl (.int .i64 2) rfl ?_)
    refine WL_of (L_assign rfl rfl (.int .i64 65536) rfl ?_)
    refine WL_nil ?_
    refine thenN ?_
    refine WC_ret ?_
    refine thenR ?_
    obtain rfl := someE H
    have M2 : Mem w [(none0, w), (Fr, w)] := M0.empty
    refine retR [.slice none 0 0, .int .i64 2, .int .i64 65536] ⟨rfl, rfl, rfl, trivial⟩ ?_
    exact ⟨none, 0, none0, rfl, M2, OR.nil w none0 w none0 88⟩
  · replace H := ifN c1 H
    refine WC_skip ?_
    refine thenN ?_
    refine WC_seq ?_
    refine WC_region ?_
    refine WL_of (L_assign rfl rfl (.slice none 0 0) rfl ?_)
    refine WL_nil ?_
    refine thenN ?_
    refine WC_cut (fun ρ w_ => ∃ (k18 : Nat), ∃ (x3 : List api_Word) (x8 : Int) (x9 : Int) (x10 : List api_Word) (A4 : Option Addr) (c5 : Nat) (S6 : BS) (A11 : Option Addr) (c12 : Nat) (S13 : BS) (ρ0 : Nat → Value), ρ = updL ρ0 [(2, .slice A4 x3.length c5), (3, .int .i64 x8), (4, .int .i64 x9), (5, .slice A11 x10.length c12)] ∧ Mem w_ [(S6, w_), (S13, w_), (Fr, w)] ∧ OR w_ S6 w_ none0 88 A4 c5 x3 ∧ OR w_ S13 w_ none0 88 A11 c12 x10 ∧ k18 ≤ k ∧ text_Words.j0 k18 x3 x8 x9 x10 = some r) ?_ ?_
    · refine WC_seq ?_
      refine WC_region ?_
      refine WL_of (L_assign rfl rfl (.int .i64 0) rfl ?_)
      refine WL_nil ?_
      refine thenN ?_
      refine WC_block ?_
      refine WC_loop (fun k64 ρ w_ => ∃ (x47 : List api_Word) (x52 : Int) (x53 : Int) (x54 : List api_Word) (x59 : Int) (A48 : Option Addr) (c49 : Nat) (S50 : BS) (A55 : Option Addr) (c56 : Nat) (S57 : BS) (ρ0 : Nat → Value), ρ = updL ρ0 [(0, .string (sv a0)), (2, .slice A48 x47.length c49), (3, .int .i64 x52), (4, .int .i64 x53), (5, .slice A55 x54.length c56), (6, .int .i64 x59)] ∧ Mem w_ [(S50, w_), (S57, w_), (Fr, w)] ∧ OR w_ S50 w_ none0 88 A48 c49 x47 ∧ OR w_ S57 w_ none0 88 A55 c56 x54 ∧ k64 ≤ k ∧ text_Words.l1 k64 a0 x47 x52 x53 x54 x59 = some r) k ?_ ?_
      · have M66 : Mem w [(none0, w), (Fr, w)] := M0.empty
        have M67 : Mem w [(none0, w), (none0, w), (Fr, w)] := M66.empty
        exact ⟨([] : List api_Word), 0, 0, ([] : List api_Word), 0, none, 0, none0, none, 0, none0, _, updL_same _ _ ⟨rfl, rfl, rfl, rfl, rfl, rfl, trivial⟩, M67, OR.nil w none0 w none0 88, OR.nil w none0 w none0 88, (Nat.le_refl _), H⟩
      · rintro k64 _ W60 ⟨x47, x52, x53, x54, x59, A48, c49, S50, A55, c56, S57, ρ62, rfl, M61, hr51, hr58, hk65, H63⟩
        cases k64 with
        | zero => rw [text_Words.l1] at H63; cases H63
        | succ k64 =>
        rw [text_Words.l1] at H63
        refine WC_seq ?_
        refine WC_seq ?_
        refine WC_region ?_
        refine WL_of (L_move rfl rfl (.int .i64 x59) rfl ?_)
        refine WL_of (L_move rfl rfl (.string (sv a0)) rfl ?_)
        refine WL_of (L_len rfl rfl (.string (sv a0)) rfl (List.length a0) (N_str Tryd.underlying9 a0) ?_)
        refine WL_of (L_bin rfl rfl (.int .i64 x59) (.int .i64 (List.length a0 : Int)) rfl rfl (.bool (decide ((x59 : Int) < (List.length a0 : Int)))) (B_lss _ _ _ _ x59 (List.length a0 : Int)) ?_)
        refine WL_nil ?_
        refine thenN ?_
        refine WC_if (p := (x59 : Int) < (List.length a0 : Int)) rfl (fun c68 => ?_) (fun c68 => ?_)
        · replace H63 := ifP c68 H63
          refine WC_skip ?_
          refine thenN ?_
          refine WC_block ?_
          refine WC_seq ?_
          refine WC_region ?_
          refine WL_of (L_move rfl rfl (.string (sv a0)) rfl ?_)
          refine WL_of (L_move rfl rfl (.int .i64 x59) rfl ?_)
          obtain ⟨b69, hb70, H63⟩ := bindS H63
          refine WL_of (L_sindex rfl rfl Tryd.underlying9 .i64 a0 x59 rfl rfl b69 hb70 ?_)
          refine WL_of (L_assign rfl rfl (.int .u8 (b69.toNat : Int)) rfl ?_)
          refine WL_nil ?_
          refine thenN ?_
          refine WC_seq ?_
          refine WC_seq ?_
          refine WC_region ?_
          refine WL_of (L_move rfl rfl (.int .u8 (b69.toNat : Int)) rfl ?_)
          refine WL_of (L_bin rfl rfl (.int .u8 (b69.toNat : Int)) (.int .u8 35) rfl rfl (.bool (decide (b69 = (35 : UInt8)))) (B_eql8 _ _ _ b69 (35 : UInt8)) ?_)
          refine WL_nil ?_
          refine thenN ?_
          refine WC_if (p := b69 = (35 : UInt8)) rfl (fun c71 => ?_) (fun c71 => ?_)
          · replace H63 := ifP c71 H63
            refine WC_exit ?_
            refine thenE ?_
            refine blkY rfl ?_
            refine thenE ?_
            refine blkX ?_
            refine thenN ?_
            have M72 : Mem W60 [(S57, W60), (S50, W60), (Fr, w)] := M61.front [(S50, W60)] rfl
            have M73 : Mem W60 [(Fr, w), (S57, W60), (S50, W60)] := M72.front [(S57, W60), (S50, W60)] rfl
            have M74 : Mem W60 [(S57, W60), (Fr, w), (S50, W60)] := M73.front [(Fr, w)] rfl
            have M75 : Mem W60 [(S50, W60), (S57, W60), (Fr, w)] := M74.front [(S57, W60), (Fr, w)] rfl
            exact ⟨k64, x47, x52, x53, x54, A48, c49, S50, A55, c56, S57, _, updL_same _ _ ⟨rfl, rfl, rfl, rfl, trivial⟩, M75, hr51.map (fun _ _ h => h), hr58.map (fun _ _ h => h), (by omega), H63⟩
          · replace H63 := ifN c71 H63
            refine WC_skip ?_
            refine thenN ?_
            refine WC_seq ?_
            refine WC_seq ?_
            refine WC_region ?_
            refine WL_of (L_move rfl rfl (.int .u8 (b69.toNat : Int)) rfl ?_)
            obtain ⟨r77, hr78, H63⟩ := bindS H63
            refine WL_of (L_call' rfl rfl cf32 [.int .u8 (b69.toNat : Int)] rfl (text_blank_ok b69 r77 _ (Un [(S50, W60), (S57, W60), (Fr, w)]) (hG.call M61 2 rfl) M61.frame  hr78) ?_)
            rintro _ W79 ⟨rfl, M80⟩
            have M81 : Mem W79 [(S50, W60), (S57, W60), (Fr, w)] := M61.back (New := []) M80
            refine WL_nil ?_
            refine thenN ?_
            refine WC_ifb rfl (fun c82 => ?_) (fun c82 => ?_)
            · replace H63 := ifP c82 H63
              refine WC_seq ?_
              refine WC_region ?_
              refine WL_of (L_move rfl rfl (.int .i64 x59) rfl ?_)
              refine WL_of (L_bin rfl rfl (.int .i64 x59) (.int .i64 1) rfl rfl (.int .i64 (wrap64 (x59 + 1))) (B_add _ _ _ x59 1) ?_)
              refine WL_of (L_assign rfl rfl (.int .i64 (wrap64 (x59 + 1))) rfl ?_)
              refine WL_nil ?_
              refine thenN ?_
              refine WC_exit ?_
              refine thenE ?_
              refine blkX ?_
              refine thenN ?_
              have M83 : Mem W79 [(S50, W79), (S57, W60), (Fr, w)] := M81.rebase
              have M84 : Mem W79 [(S57, W60), (S50, W79), (Fr, w)] := M83.front [(S50, W79)] rfl
              have M85 : Mem W79 [(S57, W79), (S50, W79), (Fr, w)] := M84.rebase
              have M86 : Mem W79 [(Fr, w), (S57, W79), (S50, W79)] := M85.front [(S57, W79), (S50, W79)] rfl
              have M87 : Mem W79 [(S57, W79), (Fr, w), (S50, W79)] := M86.front [(Fr, w)] rfl
              have M88 : Mem W79 [(S50, W79), (S57, W79), (Fr, w)] := M87.front [(S57, W79), (Fr, w)] rfl
              exact ⟨k64, by omega, x47, x52, x53, x54, wrap64 (x59 + 1), A48, c49, S50, A55, c56, S57, _, updL_same _ _ ⟨rfl, rfl, rfl, rfl, rfl, rfl, trivial⟩, M88, (hr51.agree (M81.agree 0 rfl)).map (fun _ _ h => h), (hr58.agree (M84.agree 0 rfl)).map (fun _ _ h => h), (by omega), H63⟩
            · replace H63 := ifN (by rw [c82]; simp) H63
              refine WC_skip ?_
              refine thenN ?_
              refine WC_seq ?_
              refine WC_region ?_
              refine WL_of (L_move rfl rfl (.string (sv a0)) rfl ?_)
              refine WL_of (L_move rfl rfl (.int .i64 x59) rfl ?_)
              obtain ⟨q89, hq90, H63⟩ := bindS H63
              refine WL_of (L_sslice rfl rfl Tryd.underlying9 a0 rfl x59 (List.length a0 : Int) .i64 .i64 (.inl rfl) (.inr ⟨rfl, rfl⟩) q89 hq90 ?_)
              obtain ⟨r92, hr93, H63⟩ := bindS H63
              refine WL_of (L_call' rfl rfl cf33 [.string (sv q89)] rfl (text_word_ok k64 q89 r92 _ (Un [(S50, W60), (S57, W60), (Fr, w)]) (hG.call M81 2 rfl) M81.frame  hr93) ?_)
              rintro _ W94 ⟨rfl, M95⟩
              have M96 : Mem W94 [(S50, W60), (S57, W60), (Fr, w)] := M81.back (New := []) M95
              refine WL_of (L_move rfl rfl (.tuple #[.agg #[.int .i64 r92.1.Kind, .int .i64 r92.1.At, .string (sv r92.1.Text), .int .i64 r92.1.Num], .int .i64 r92.2.1, .int .i64 r92.2.2.1, .int .i64 r92.2.2.2]) rfl ?_)
              refine WL_of (L_extract rfl rfl [.agg #[.int .i64 r92.1.Kind, .int .i64 r92.1.At, .string (sv r92.1.Text), .int .i64 r92.1.Num], .int .i64 r92.2.1, .int .i64 r92.2.2.1, .int .i64 r92.2.2.2] rfl (.agg #[.int .i64 r92.1.Kind, .int .i64 r92.1.At, .string (sv r92.1.Text), .int .i64 r92.1.Num]) rfl ?_)
              refine WL_of (L_extract rfl rfl [.agg #[.int .i64 r92.1.Kind, .int .i64 r92.1.At, .string (sv r92.1.Text), .int .i64 r92.1.Num], .int .i64 r92.2.1, .int .i64 r92.2.2.1, .int .i64 r92.2.2.2] rfl (.int .i64 r92.2.1) rfl ?_)
              refine WL_of (L_extract rfl rfl [.agg #[.int .i64 r92.1.Kind, .int .i64 r92.1.At, .string (sv r92.1.Text), .int .i64 r92.1.Num], .int .i64 r92.2.1, .int .i64 r92.2.2.1, .int .i64 r92.2.2.2] rfl (.int .i64 r92.2.2.1) rfl ?_)
              refine WL_of (L_extract rfl rfl [.agg #[.int .i64 r92.1.Kind, .int .i64 r92.1.At, .string (sv r92.1.Text), .int .i64 r92.1.Num], .int .i64 r92.2.1, .int .i64 r92.2.2.1, .int .i64 r92.2.2.2] rfl (.int .i64 r92.2.2.2) rfl ?_)
              refine WL_of (L_alloc M96 rfl rfl zr88 [.int .i64 0, .int .i64 0, .string (sv (lit [])), .int .i64 0] rfl ?_)
              intro g97 W98 B99 M100
              refine WL_of (L_store M100 rfl (.agg #[.int .i64 r92.1.Kind, .int .i64 r92.1.At, .string (sv r92.1.Text), .int .i64 r92.1.Num]) rfl [.int .i64 r92.1.Kind, .int .i64 r92.1.At, .string (sv r92.1.Text), .int .i64 r92.1.Num] rfl 4 sz88 rfl rfl rfl B99 rfl rfl [.int .i64 r92.1.Kind, .int .i64 r92.1.At, .string (sv r92.1.Text), .int .i64 r92.1.Num] rfl ?_)
              intro W101 B102 M103
              refine WL_of (L_assign rfl rfl (.int .i64 r92.2.1) rfl ?_)
              refine WL_of (L_assign rfl rfl (.int .i64 r92.2.2.1) rfl ?_)
              refine WL_of (L_assign rfl rfl (.int .i64 r92.2.2.2) rfl ?_)
              refine WL_nil ?_
              refine thenN ?_
              refine WC_seq ?_
              refine WC_seq ?_
              refine WC_region ?_
              refine WL_of (L_move rfl rfl (.int .i64 r92.2.2.1) rfl ?_)
              refine WL_of (L_bin rfl rfl (.int .i64 r92.2.2.1) (.int .i64 0) rfl rfl (.bool (decide ((r92.2.2.1 : Int) ≠ 0))) (B_neq _ _ _ _ r92.2.2.1 0) ?_)
              refine WL_nil ?_
              refine thenN ?_
              refine WC_if (p := (r92.2.2.1 : Int) ≠ 0) rfl (fun c104 => ?_) (fun c104 => ?_)
              · replace H63 := ifP c104 H63
                refine WC_seq ?_
                refine WC_region ?_
                refine WL_of (L_move rfl rfl (.int .i64 r92.2.2.1) rfl ?_)
                refine WL_of (L_move rfl rfl (.int .i64 x59) rfl ?_)
                refine WL_of (L_move rfl rfl (.int .i64 r92.2.2.2) rfl ?_)
                refine WL_of (L_bin rfl rfl (.int .i64 x59) (.int .i64 r92.2.2.2) rfl rfl (.int .i64 (wrap64 (x59 + r92.2.2.2))) (B_add _ _ _ x59 r92.2.2.2) ?_)
                refine WL_of (L_assign rfl rfl (.slice none 0 0) rfl ?_)
                refine WL_of (L_assign rfl rfl (.int .i64 r92.2.2.1) rfl ?_)
                refine WL_of (L_assign rfl rfl (.int .i64 (wrap64 (x59 + r92.2.2.2))) rfl ?_)
                refine WL_nil ?_
                refine thenN ?_
                refine WC_ret ?_
                refine thenR ?_
                refine blkR ?_
                refine thenR ?_
                refine blkR ?_
                refine thenR ?_
                obtain rfl := someE H63
                have M105 : Mem W101 [(none0, W101), (one g97, W101), (S50, W60), (S57, W60), (Fr, w)] := M103.empty
                have M106 : Mem W101 [(Fr, w), (none0, W101), (one g97, W101), (S50, W60), (S57, W60)] := M105.front [(none0, W101), (one g97, W101), (S50, W60), (S57, W60)] rfl
                have M107 : Mem W101 [(none0, W101), (Fr, w), (one g97, W101), (S50, W60), (S57, W60)] := M106.front [(Fr, w)] rfl
                have M108 : Mem W101 [(none0, W101), (Fr, w)] := M107.sub (List.prefix_append [(none0, W101), (Fr, w)] [(one g97, W101), (S50, W60), (S57, W60)]).sublist
                refine retR [.slice none 0 0, .int .i64 r92.2.2.1, .int .i64 (wrap64 (x59 + r92.2.2.2))] ⟨rfl, rfl, rfl, trivial⟩ ?_
                exact ⟨none, 0, none0, rfl, M108, OR.nil W101 none0 W101 none0 88⟩
              · replace H63 := ifN c104 H63
                refine WC_skip ?_
                refine thenN ?_
                refine WC_seq ?_
                refine WC_region ?_
                refine WL_of (L_move rfl rfl (.int .i64 x59) rfl ?_)
                refine WL_of (L_field rfl rfl fd88_1 ⟨g97, 0, none⟩ rfl ?_)
                refine WL_of (L_store M103 rfl (.int .i64 x59) rfl [.int .i64 x59] rfl 1 sz3 rfl rfl rfl B102 rfl rfl [.int .i64 r92.1.Kind, .int .i64 x59, .string (sv r92.1.Text), .int .i64 r92.1.Num] rfl ?_)
                intro W109 B110 M111
                refine WL_nil ?_
                refine thenN ?_
                refine WC_seq ?_
                refine WC_region ?_
                refine WL_of (L_move rfl rfl (.slice A55 x54.length c56) rfl ?_)
                refine WL_of (L_loadN rfl rfl Tryd.underlying88 rfl B110.el (M111.agree 0 rfl) 0 rfl 4 sz88 [.int .i64 r92.1.Kind, .int .i64 x59, .string (sv r92.1.Text), .int .i64 r92.1.Num] rfl rfl ?_)
                refine WL_of (L_buildSlice' M111 rfl rfl [(0, .agg #[.int .i64 r92.1.Kind, .int .i64 x59, .string (sv r92.1.Text), .int .i64 r92.1.Num])] rfl Tryd.underlying58 sz88 zr88 rfl rfl [.int .i64 r92.1.Kind, .int .i64 x59, .string (sv r92.1.Text), .int .i64 r92.1.Num] (by kernel_rfl) ?_)
                intro g112 W113 B114 M115
                have M116 : Mem W113 [(S57, W60), (one g112, W113), (one g97, W109), (S50, W60), (Fr, w)] := M115.front [(one g112, W113), (one g97, W109), (S50, W60)] rfl
                by_cases c117 : List.length x54 + List.length ([(⟨r92.1.Kind, x59, r92.1.Text, r92.1.Num⟩ : api_Word)] : List api_Word) ≤ 3518437208883
                · replace H63 := ifP c117 H63
                  refine WL_of (L_append (ys := ([(⟨r92.1.Kind, x59, r92.1.Text, r92.1.Num⟩ : api_Word)] : List api_Word)) (v := W60) (E := none0) M116 rfl rfl Tryd.underlying58 el88 rfl rfl hr58 (.inr ⟨⟨g112, 0, none⟩, rfl, Src.box (css := [[.int .i64 r92.1.Kind, .int .i64 x59, .string (sv r92.1.Text), .int .i64 r92.1.Num]]) (B114.now (M116.agree 1 rfl)) (⟨rfl, trivial⟩) rfl⟩) (by omega) (by decide) ?_)
                  intro W118 S119 A120 c121 ho122 M123
                  refine WL_of (L_assign rfl rfl (.slice A120 (x54 ++ ([(⟨r92.1.Kind, x59, r92.1.Text, r92.1.Num⟩ : api_Word)] : List api_Word)).length c121) rfl ?_)
                  refine WL_nil ?_
                  refine thenN ?_
                  refine WC_seq ?_
                  refine WC_region ?_
                  refine WL_of (L_move rfl rfl (.int .i64 x59) rfl ?_)
                  refine WL_of (L_move rfl rfl (.int .i64 r92.2.1) rfl ?_)
                  refine WL_of (L_bin rfl rfl (.int .i64 x59) (.int .i64 r92.2.1) rfl rfl (.int .i64 (wrap64 (x59 + r92.2.1))) (B_add _ _ _ x59 r92.2.1) ?_)
                  refine WL_of (L_assign rfl rfl (.int .i64 (wrap64 (x59 + r92.2.1))) rfl ?_)
                  refine WL_nil ?_
                  refine thenN ?_
                  obtain ⟨z124, hz125, H63⟩ := bindS H63
                  refine WC_cut (fun ρ w_ => ∃  (ρ0 : Nat → Value), ρ = updL ρ0 [(0, .string (sv a0)), (2, .slice A48 x47.length c49), (3, .int .i64 x52), (4, .int .i64 x53), (5, .slice A120 (x54 ++ ([(⟨r92.1.Kind, x59, r92.1.Text, r92.1.Num⟩ : api_Word)] : List api_Word)).length c121), (6, .int .i64 (wrap64 (x59 + r92.2.1))), (80, .bool z124)] ∧ Mem w_ [(S119, W118), (one g112, W113), (one g97, W109), (S50, W60), (Fr, w)]) ?_ ?_
                  · refine WC_region ?_
                    refine WL_of (L_field rfl rfl fd88_0 ⟨g97, 0, none⟩ rfl ?_)
                    refine WL_of (L_load1 rfl rfl Tryd.underlying3 rfl B110.el (M123.agree 2 rfl) 0 rfl (.int .i64 r92.1.Kind) rfl ?_)
                    refine WL_of (L_bin rfl rfl (.int .i64 r92.1.Kind) (.int .i64 4) rfl rfl (.bool (decide ((r92.1.Kind : Int) ≠ 4))) (B_neq _ _ _ _ r92.1.Kind 4) ?_)
                    refine WL_of (L_move rfl rfl (.bool (decide ((r92.1.Kind : Int) ≠ 4))) rfl ?_)
                    by_cases c126 : (r92.1.Kind : Int) ≠ 4
                    · replace hz125 := ifP c126 hz125
                      refine WL_known 55 true (vtrue c126) ?_
                      refine WL_of (L_move rfl rfl (.int .i64 (wrap64 (x59 + r92.2.1))) rfl ?_)
                      refine WL_of (L_move rfl rfl (.string (sv a0)) rfl ?_)
                      refine WL_of (L_len rfl rfl (.string (sv a0)) rfl (List.length a0) (N_str Tryd.underlying9 a0) ?_)
                      refine WL_of (L_bin rfl rfl (.int .i64 (wrap64 (x59 + r92.2.1))) (.int .i64 (List.length a0 : Int)) rfl rfl (.bool (decide ((wrap64 (x59 + r92.2.1) : Int) < (List.length a0 : Int)))) (B_lss _ _ _ _ (wrap64 (x59 + r92.2.1)) (List.length a0 : Int)) ?_)
                      refine WL_of (L_pick rfl rfl true rfl (.bool (decide ((wrap64 (x59 + r92.2.1) : Int) < (List.length a0 : Int)))) rfl ?_)
                      refine WL_of (L_move rfl rfl (.bool (decide ((wrap64 (x59 + r92.2.1) : Int) < (List.length a0 : Int)))) rfl ?_)
                      by_cases c127 : (wrap64 (x59 + r92.2.1) : Int) < (List.length a0 : Int)
                      · replace hz125 := ifP c127 hz125
                        refine WL_known 61 true (vtrue c127) ?_
                        refine WL_of (L_move rfl rfl (.string (sv a0)) rfl ?_)
                        refine WL_of (L_move rfl rfl (.int .i64 (wrap64 (x59 + r92.2.1))) rfl ?_)
                        obtain ⟨b128, hb129, hz125⟩ := bindS hz125
                        refine WL_of (L_sindex rfl rfl Tryd.underlying9 .i64 a0 (wrap64 (x59 + r92.2.1)) rfl rfl b128 hb129 ?_)
                        obtain ⟨r131, hr132, hz125⟩ := bindS hz125
                        refine WL_of (L_call' rfl rfl cf32 [.int .u8 (b128.toNat : Int)] rfl (text_blank_ok b128 r131 _ (Un [(S119, W118), (one g112, W113), (one g97, W109), (S50, W60), (Fr, w)]) (hG.call M123 4 rfl) M123.frame  hr132) ?_)
                        rintro _ W133 ⟨rfl, M134⟩
                        have M135 : Mem W133 [(S119, W118), (one g112, W113), (one g97, W109), (S50, W60), (Fr, w)] := M123.back (New := []) M134
                        refine WL_of (L_not rfl rfl r131 rfl ?_)
                        refine WL_of (L_pick rfl rfl true rfl (.bool (!r131)) rfl ?_)
                        refine WL_of (L_move rfl rfl (.bool (!r131)) rfl ?_)
                        by_cases c136 : (!r131) = true
                        · replace hz125 := ifP c136 hz125
                          refine WL_known 68 true (wtrue c136) ?_
                          refine WL_of (L_move rfl rfl (.string (sv a0)) rfl ?_)
                          refine WL_of (L_move rfl rfl (.int .i64 (wrap64 (x59 + r92.2.1))) rfl ?_)
                          obtain ⟨b137, hb138, hz125⟩ := bindS hz125
                          refine WL_of (L_sindex rfl rfl Tryd.underlying9 .i64 a0 (wrap64 (x59 + r92.2.1)) rfl rfl b137 hb138 ?_)
                          refine WL_of (L_bin rfl rfl (.int .u8 (b137.toNat : Int)) (.int .u8 35) rfl rfl (.bool (decide (b137 ≠ (35 : UInt8)))) (B_neq8 _ _ _ b137 (35 : UInt8)) ?_)
                          refine WL_of (L_pick rfl rfl true rfl (.bool (decide (b137 ≠ (35 : UInt8)))) rfl ?_)
                          refine WL_of (L_move rfl rfl (.bool (decide (b137 ≠ (35 : UInt8)))) rfl ?_)
                          by_cases c139 : b137 ≠ (35 : UInt8)
                          · replace hz125 := ifP c139 hz125
                            refine WL_known 74 true (vtrue c139) ?_
                            refine WL_of (L_move rfl rfl (.string (sv a0)) rfl ?_)
                            refine WL_of (L_move rfl rfl (.int .i64 (wrap64 (x59 + r92.2.1))) rfl ?_)
                            obtain ⟨b140, hb141, hz125⟩ := bindS hz125
                            refine WL_of (L_sindex rfl rfl Tryd.underlying9 .i64 a0 (wrap64 (x59 + r92.2.1)) rfl rfl b140 hb141 ?_)
                            obtain ⟨r143, hr144, hz125⟩ := bindS hz125
                            refine WL_of (L_call' rfl rfl cf34 [.string (sv (lit [58, 44, 59, 126, 33, 61, 47, 64, 42, 43, 40, 41])), .int .u8 (b140.toNat : Int)] rfl (strings_IndexByte_ok (lit [58, 44, 59, 126, 33, 61, 47, 64, 42, 43, 40, 41]) b140 r143 _ (Un [(S119, W118), (one g112, W113), (one g97, W109), (S50, W60), (Fr, w)]) (hG.call M135 4 rfl) M135.frame  hr144) ?_)
                            rintro _ W145 ⟨rfl, M146⟩
                            have M147 : Mem W145 [(S119, W118), (one g112, W113), (one g97, W109), (S50, W60), (Fr, w)] := M135.back (New := []) M146
                            refine WL_of (L_bin rfl rfl (.int .i64 r143) (.int .i64 0) rfl rfl (.bool (decide ((r143 : Int) < 0))) (B_lss _ _ _ _ r143 0) ?_)
                            refine WL_of (L_pick rfl rfl true rfl (.bool (decide ((r143 : Int) < 0))) rfl ?_)
                            refine WL_nil ?_
                            refine thenN ?_
                            obtain rfl := someE hz125
                            exact ⟨_, updL_same _ _ ⟨rfl, rfl, rfl, rfl, rfl, rfl, rfl, trivial⟩, M147⟩
                          · replace hz125 := ifN c139 hz125
                            refine WL_known 74 false (vfalse c139) ?_
                            refine WL_of (WO_off rfl rfl ?_)
                            refine WL_of (WO_off rfl rfl ?_)
                            refine WL_of (WO_off rfl rfl ?_)
                            refine WL_of (WO_off rfl rfl ?_)
                            refine WL_of (WO_off rfl rfl ?_)
                            refine WL_of (L_pick rfl rfl false rfl (.bool false) rfl ?_)
                            refine WL_nil ?_
                            refine thenN ?_
                            obtain rfl := someE hz125
                            exact ⟨_, updL_same _ _ ⟨rfl, rfl, rfl, rfl, rfl, rfl, rfl, trivial⟩, M135⟩
                        · replace hz125 := ifN c136 hz125
                          refine WL_known 68 false (wfalse c136) ?_
                          refine WL_of (WO_off rfl rfl ?_)
                          refine WL_of (WO_off rfl rfl ?_)
                          refine WL_of (WO_off rfl rfl ?_)
                          refine WL_of (WO_off rfl rfl ?_)
                          refine WL_of (L_pick rfl rfl false rfl (.bool false) rfl ?_)
                          refine WL_of (L_move rfl rfl (.bool false) rfl ?_)
                          refine WL_of (WO_off rfl rfl ?_)
                          refine WL_of (WO_off rfl rfl ?_)
                          refine WL_of (WO_off rfl rfl ?_)
                          refine WL_of (WO_off rfl rfl ?_)
                          refine WL_of (WO_off rfl rfl ?_)
                          refine WL_of (L_pick rfl rfl false rfl (.bool false) rfl ?_)
                          refine WL_nil ?_
                          refine thenN ?_
                          obtain rfl := someE hz125
                          exact ⟨_, updL_same _ _ ⟨rfl, rfl, rfl, rfl, rfl, rfl, rfl, trivial⟩, M135⟩
                      · replace hz125 := ifN c127 hz125
                        refine WL_known 61 false (vfalse c127) ?_
                        refine WL_of (WO_off rfl rfl ?_)
                        refine WL_of (WO_off rfl rfl ?_)
                        refine WL_of (WO_off rfl rfl ?_)
                        refine WL_of (WO_off rfl rfl ?_)
                        refine WL_of (WO_off rfl rfl ?_)
                        refine WL_of (L_pick rfl rfl false rfl (.bool false) rfl ?_)
                        refine WL_of (L_move rfl rfl (.bool false) rfl ?_)
                        refine WL_of (WO_off rfl rfl ?_)
                        refine WL_of (WO_off rfl rfl ?_)
                        refine WL_of (WO_off rfl rfl ?_)
                        refine WL_of (WO_off rfl rfl ?_)
                        refine WL_of (L_pick rfl rfl false rfl (.bool false) rfl ?_)
                        refine WL_of (L_move rfl rfl (.bool false) rfl ?_)
                        refine WL_of (WO_off rfl rfl ?_)
                        refine WL_of (WO_off rfl rfl ?_)
                        refine WL_of (WO_off rfl rfl ?_)
                        refine WL_of (WO_off rfl rfl ?_)
                        refine WL_of (WO_off rfl rfl ?_)
                        refine WL_of (L_pick rfl rfl false rfl (.bool false) rfl ?_)
                        refine WL_nil ?_
                        refine thenN ?_
                        obtain rfl := someE hz125
                        exact ⟨_, updL_same _ _ ⟨rfl, rfl, rfl, rfl, rfl, rfl, rfl, trivial⟩, M123⟩
                    · replace hz125 := ifN c126 hz125
                      refine WL_known 55 false (vfalse c126) ?_
                      refine WL_of (WO_off rfl rfl ?_)
                      refine WL_of (WO_off rfl rfl ?_)
                      refine WL_of (WO_off rfl rfl ?_)
                      refine WL_of (WO_off rfl rfl ?_)
                      refine WL_of (L_pick rfl rfl false rfl (.bool false) rfl ?_)
                      refine WL_of (L_move rfl rfl (.bool false) rfl ?_)
                      refine WL_of (WO_off rfl rfl ?_)
                      refine WL_of (WO_off rfl rfl ?_)
                      refine WL_of (WO_off rfl rfl ?_)
                      refine WL_of (WO_off rfl rfl ?_)
                      refine WL_of (WO_off rfl rfl ?_)
                      refine WL_of (L_pick rfl rfl false rfl (.bool false) rfl ?_)
                      refine WL_of (L_move rfl rfl (.bool false) rfl ?_)
                      refine WL_of (WO_off rfl rfl ?_)
                      refine WL_of (WO_off rfl rfl ?_)
                      refine WL_of (WO_off rfl rfl ?_)
                      refine WL_of (WO_off rfl rfl ?_)
                      refine WL_of (L_pick rfl rfl false rfl (.bool false) rfl ?_)
                      refine WL_of (L_move rfl rfl (.bool false) rfl ?_)
                      refine WL_of (WO_off rfl rfl ?_)
                      refine WL_of (WO_off rfl rfl ?_)
                      refine WL_of (WO_off rfl rfl ?_)
                      refine WL_of (WO_off rfl rfl ?_)
                      refine WL_of (WO_off rfl rfl ?_)
                      refine WL_of (L_pick rfl rfl false rfl (.bool false) rfl ?_)
                      refine WL_nil ?_
                      refine thenN ?_
                      obtain rfl := someE hz125
                      exact ⟨_, updL_same _ _ ⟨rfl, rfl, rfl, rfl, rfl, rfl, rfl, trivial⟩, M123⟩
                  · rintro _ W148 ⟨ρ150, rfl, M149⟩
                    refine WC_ifb rfl (fun c151 => ?_) (fun c151 => ?_)
                    · replace H63 := ifP c151 H63
                      refine WC_seq ?_
                      refine WC_region ?_
                      refine WL_of (L_move rfl rfl (.string (sv a0)) rfl ?_)
                      refine WL_of (L_move rfl rfl (.int .i64 (wrap64 (x59 + r92.2.1))) rfl ?_)
                      obtain ⟨q152, hq153, H63⟩ := bindS H63
                      refine WL_of (L_sslice rfl rfl Tryd.underlying9 a0 rfl (wrap64 (x59 + r92.2.1)) (List.length a0 : Int) .i64 .i64 (.inl rfl) (.inr ⟨rfl, rfl⟩) q152 hq153 ?_)
                      obtain ⟨r155, hr156, H63⟩ := bindS H63
                      refine WL_of (L_call' rfl rfl cf35 [.string (sv q152)] rfl (text_other_ok q152 r155 _ (Un [(S119, W118), (one g112, W113), (one g97, W109), (S50, W60), (Fr, w)]) (hG.call M149 4 rfl) M149.frame  hr156) ?_)
                      rintro _ W157 ⟨rfl, M158⟩
                      have M159 : Mem W157 [(S119, W118), (one g112, W113), (one g97, W109), (S50, W60), (Fr, w)] := M149.back (New := []) M158
                      refine WL_of (L_move rfl rfl (.int .i64 (wrap64 (x59 + r92.2.1))) rfl ?_)
                      refine WL_of (L_assign rfl rfl (.slice none 0 0) rfl ?_)
                      refine WL_of (L_assign rfl rfl (.int .i64 r155) rfl ?_)
                      refine WL_of (L_assign rfl rfl (.int .i64 (wrap64 (x59 + r92.2.1))) rfl ?_)
                      refine WL_nil ?_
                      refine thenN ?_
                      refine WC_ret ?_
                      refine blkR ?_
                      refine thenR ?_
                      refine blkR ?_
                      refine thenR ?_
                      obtain rfl := someE H63
                      have M160 : Mem W157 [(none0, W157), (S119, W118), (one g112, W113), (one g97, W109), (S50, W60), (Fr, w)] := M159.empty
                      have M161 : Mem W157 [(Fr, w), (none0, W157), (S119, W118), (one g112, W113), (one g97, W109), (S50, W60)] := M160.front [(none0, W157), (S119, W118), (one g112, W113), (one g97, W109), (S50, W60)] rfl
                      have M162 : Mem W157 [(none0, W157), (Fr, w), (S119, W118), (one g112, W113), (one g97, W109), (S50, W60)] := M161.front [(Fr, w)] rfl
                      have M163 : Mem W157 [(none0, W157), (Fr, w)] := M162.sub (List.prefix_append [(none0, W157), (Fr, w)] [(S119, W118), (one g112, W113), (one g97, W109), (S50, W60)]).sublist
                      refine retR [.slice none 0 0, .int .i64 r155, .int .i64 (wrap64 (x59 + r92.2.1))] ⟨rfl, rfl, rfl, trivial⟩ ?_
                      exact ⟨none, 0, none0, rfl, M163, OR.nil W157 none0 W157 none0 88⟩
                    · replace H63 := ifN (by rw [c151]; simp) H63
                      refine WC_skip ?_
                      refine blkN ?_
                      refine thenN ?_
                      have M164 : Mem W148 [(S50, W60), (S119, W118), (one g112, W113), (one g97, W109), (Fr, w)] := M149.front [(S119, W118), (one g112, W113), (one g97, W109)] rfl
                      have M165 : Mem W148 [(S50, W148), (S119, W118), (one g112, W113), (one g97, W109), (Fr, w)] := M164.rebase
                      have M166 : Mem W148 [(S119, W118), (S50, W148), (one g112, W113), (one g97, W109), (Fr, w)] := M165.front [(S50, W148)] rfl
                      have M167 : Mem W148 [(S119, W148), (S50, W148), (one g112, W113), (one g97, W109), (Fr, w)] := M166.rebase
                      have M168 : Mem W148 [(Fr, w), (S119, W148), (S50, W148), (one g112, W113), (one g97, W109)] := M167.front [(S119, W148), (S50, W148), (one g112, W113), (one g97, W109)] rfl
                      have M169 : Mem W148 [(S119, W148), (Fr, w), (S50, W148), (one g112, W113), (one g97, W109)] := M168.front [(Fr, w)] rfl
                      have M170 : Mem W148 [(S50, W148), (S119, W148), (Fr, w), (one g112, W113), (one g97, W109)] := M169.front [(S119, W148), (Fr, w)] rfl
                      have M171 : Mem W148 [(S50, W148), (S119, W148), (Fr, w)] := M170.sub (List.prefix_append [(S50, W148), (S119, W148), (Fr, w)] [(one g112, W113), (one g97, W109)]).sublist
                      exact ⟨k64, by omega, x47, x52, x53, (x54 ++ ([(⟨r92.1.Kind, x59, r92.1.Text, r92.1.Num⟩ : api_Word)] : List api_Word)), wrap64 (x59 + r92.2.1), A48, c49, S50, A120, c121, S119, _, updL_same _ _ ⟨rfl, rfl, rfl, rfl, rfl, rfl, trivial⟩, M171, (hr51.agree (M164.agree 0 rfl)).map (fun _ _ h => h), (ho122.agree (M166.agree 0 rfl)).map (fun _ _ h => h), (by omega), H63⟩
                · exact noneS (ifN c117 H63)
        · replace H63 := ifN c68 H63
          refine WC_exit ?_
          refine thenE ?_
          refine thenE ?_
          refine blkX ?_
          refine thenN ?_
          have M172 : Mem W60 [(S57, W60), (S50, W60), (Fr, w)] := M61.front [(S50, W60)] rfl
          have M173 : Mem W60 [(Fr, w), (S57, W60), (S50, W60)] := M172.front [(S57, W60), (S50, W60)] rfl
          have M174 : Mem W60 [(S57, W60), (Fr, w), (S50, W60)] := M173.front [(Fr, w)] rfl
          have M175 : Mem W60 [(S50, W60), (S57, W60), (Fr, w)] := M174.front [(S57, W60), (Fr, w)] rfl
          exact ⟨k64, x47, x52, x53, x54, A48, c49, S50, A55, c56, S57, _, updL_same _ _ ⟨rfl, rfl, rfl, rfl, trivial⟩, M175, hr51.map (fun _ _ h => h), hr58.map (fun _ _ h => h), (by omega), H63⟩
    · rintro _ W15 ⟨k18, x3, x8, x9, x10, A4, c5, S6, A11, c12, S13, ρ17, rfl, M16, hr7, hr14, hk19, H20⟩
      cases k18 with
      | zero => rw [text_Words.j0] at H20; cases H20
      | succ k18 =>
      rw [text_Words.j0] at H20
      refine WC_seq ?_
      refine WC_region ?_
      refine WL_of (L_move rfl rfl (.slice A11 x10.length c12) rfl ?_)
      refine WL_of (L_assign rfl rfl (.slice A11 x10.length c12) rfl ?_)
      refine WL_of (L_assign rfl rfl (.int .i64 0) rfl ?_)
      refine WL_of (L_assign rfl rfl (.int .i64 0) rfl ?_)
      refine WL_nil ?_
      refine thenN ?_
      refine WC_ret ?_
      obtain rfl := someE H20
      have M176 : Mem W15 [(S13, W15), (S6, W15), (Fr, w)] := M16.front [(S6, W15)] rfl
      have M177 : Mem W15 [(Fr, w), (S13, W15), (S6, W15)] := M176.front [(S13, W15), (S6, W15)] rfl
      have M178 : Mem W15 [(S13, W15), (Fr, w), (S6, W15)] := M177.front [(Fr, w)] rfl
      have M179 : Mem W15 [(S13, W15), (Fr, w)] := M178.sub (List.prefix_append [(S13, W15), (Fr, w)] [(S6, W15)]).sublist
      refine retR [.slice A11 x10.length c12, .int .i64 0, .int .i64 0] ⟨rfl, rfl, rfl, trivial⟩ ?_
      exact ⟨A11, c12, S13, rfl, M179, (hr14.agree (M176.agree 0 rfl)).map (fun _ _ h => h)⟩

/-! ### (*annals/plan.reader).is: function 49 -/
def plan_reader_is (a0 : plan_reader) (a1 : Int) (a2 : Str) : Option Bool :=
  (if ((a0.words_.length : Int) : Int) ≤ a0.at_ then (some false) else (atL a0.words_ a0.at_).bind (fun q4 => ((if (q4.Kind : Int) = a1 then (if (a2 : Str) = (lit []) then (some true) else (some (decide ((q4.Text : Str) = a2)))) else (some false))).bind (fun (z20 : Bool) => (some z20))))
set_option maxRecDepth 100000 in
set_option maxHeartbeats 4000000 in
theorem plan_reader_is_ok (a0 : plan_reader) (g_a0 : Nat) (Aa0_0 : Option Addr) (ca0_0 : Nat) (a1 : Int) (a2 : Str) (r : Bool) (w : World) (Fr : BS) (hG : Gl Fr w) (hF : ∀ b, Fr b → b < w.heap.size) (ha0_0 : SR w Fr w Fr Aa0_0 ca0_0 a0.words_) (hg_a0 : Fr g_a0) (hB_a0 : Bx w g_a0 [.slice Aa0_0 a0.words_.length ca0_0, .int .i64 a0.at_, .int .i64 a0.end_] 63) (H : plan_reader_is a0 a1 a2 = some r) :
    CallsR Tryd.prog 49 #[.pointer (some ⟨g_a0, 0, none⟩), .int .i64 a1, .string (sv a2)] w (fun v w' => v = .bool r ∧ Mem w' [(Fr, w)]) := by
  have M0 := Mem.start w Fr hF
  refine enterZ (args := [.pointer (some ⟨g_a0, 0, none⟩), .int .i64 a1, .string (sv a2)]) [.tmp 6] Tryd.func49 rfl rfl rfl rfl ?_
  unfold plan_reader_is at H
  refine WC_seq ?_
  refine WC_region ?_
  refine WL_of (L_assign rfl rfl (.bool false) rfl ?_)
  refine WL_nil ?_
  refine thenN ?_
  refine WC_seq ?_
  refine WC_seq ?_
  refine WD_start (n := 10) (fun w_ => Mem w_ [(Fr, w)]) [] mixed rfl ?_
  have M1 := M0.drawn
  refine WD_take' 0 rfl (by kernel_rfl) (by kernel_rfl) (by kernel_rfl) (by kernel_rfl) (by kernel_rfl) rfl (fun _ _ _ h => h) rfl _ (M1.sub (.cons_cons _ .slnil)) rfl (fun w_ hS => L_move rfl rfl (.pointer (some ⟨g_a0, 0, none⟩)) rfl  ⟨rfl, rfl⟩) ?_
  refine WD_nil 1 rfl (by kernel_rfl) (by kernel_rfl) (by kernel_rfl) (by kernel_rfl) (by kernel_rfl) (fun _ _ _ h => h) rfl ⟨g_a0, 0, none⟩ rfl rfl (M1.sub (.cons_cons _ .slnil)) ?_
  refine WD_take' 2 rfl (by kernel_rfl) (by kernel_rfl) (by kernel_rfl) (by kernel_rfl) (by kernel_rfl) rfl (fun _ _ _ h => h) rfl _ (M1.sub (.cons_cons _ .slnil)) rfl (fun w_ hS => L_field rfl rfl fd63_1 ⟨g_a0, 0, none⟩ rfl  ⟨rfl, rfl⟩) ?_
  refine WD_take' 3 rfl (by kernel_rfl) (by kernel_rfl) (by kernel_rfl) (by kernel_rfl) (by kernel_rfl) rfl (fun _ _ _ h => h) rfl _ (M1.sub (.cons_cons _ .slnil)) rfl (fun w_ hS => L_load1 rfl rfl Tryd.underlying3 rfl ((hB_a0.el).sub (fun b hb => (show b = g_a0 from hb) ▸ hg_a0)) (hS.agree 0 rfl) 1 rfl (.int .i64 a0.at_) rfl  ⟨rfl, rfl⟩) ?_
  refine WD_take' 4 rfl (by kernel_rfl) (by kernel_rfl) (by kernel_rfl) (by kernel_rfl) (by kernel_rfl) rfl (fun _ _ _ h => h) rfl _ (M1.sub (.cons_cons _ .slnil)) rfl (fun w_ hS => L_move rfl rfl (.pointer (some ⟨g_a0, 0, none⟩)) rfl  ⟨rfl, rfl⟩) ?_
  refine WD_nil 5 rfl (by kernel_rfl) (by kernel_rfl) (by kernel_rfl) (by kernel_rfl) (by kernel_rfl) (fun _ _ _ h => h) rfl ⟨g_a0, 0, none⟩ rfl rfl (M1.sub (.cons_cons _ .slnil)) ?_
  refine WD_take' 6 rfl (by kernel_rfl) (by kernel_rfl) (by kernel_rfl) (by kernel_rfl) (by kernel_rfl) rfl (fun _ _ _ h => h) rfl _ (M1.sub (.cons_cons _ .slnil)) rfl (fun w_ hS => L_field rfl rfl fd63_0 ⟨g_a0, 0, none⟩ rfl  ⟨rfl, rfl⟩) ?_
  refine WD_take' 7 rfl (by kernel_rfl) (by kernel_rfl) (by kernel_rfl) (by kernel_rfl) (by kernel_rfl) rfl (fun _ _ _ h => h) rfl _ (M1.sub (.cons_cons _ .slnil)) rfl (fun w_ hS => L_load1 rfl rfl Tryd.underlying58 rfl ((hB_a0.el).sub (fun b hb => (show b = g_a0 from hb) ▸ hg_a0)) (hS.agree 0 rfl) 0 rfl (.slice Aa0_0 a0.words_.length ca0_0) rfl  ⟨rfl, rfl⟩) ?_
  refine WD_take' 8 rfl (by kernel_rfl) (by kernel_rfl) (by kernel_rfl) (by kernel_rfl) (by kernel_rfl) rfl (fun _ _ _ h => h) rfl _ (M1.sub (.cons_cons _ .slnil)) rfl (fun w_ hS => L_len rfl rfl (.slice Aa0_0 a0.words_.length ca0_0) rfl (a0.words_.length) (N_slice Tryd.underlying58 _ _ _)  ⟨rfl, rfl⟩) ?_
  refine WD_take' 9 rfl (by kernel_rfl) (by kernel_rfl) (by kernel_rfl) (by kernel_rfl) (by kernel_rfl) rfl (fun _ _ _ h => h) rfl _ (M1.sub (.cons_cons _ .slnil)) rfl (fun w_ hS => L_bin rfl rfl (.int .i64 a0.at_) (.int .i64 (a0.words_.length : Int)) rfl rfl (.bool (decide (((a0.words_.length : Int) : Int) ≤ a0.at_))) (B_geq _ _ _ _ a0.at_ (a0.words_.length : Int))  ⟨rfl, rfl⟩) ?_
  refine WD_done (by kernel_rfl) ?_
  refine thenN ?_
  refine WC_if (p := ((a0.words_.length : Int) : Int) ≤ a0.at_) rfl (fun c2 => ?_) (fun c2 => ?_)
  · replace H := ifP c2 H
    refine WC_seq ?_
    refine WC_region ?_
    refine WL_of (L_assign rfl rfl (.bool false) rfl ?_)
    refine WL_nil ?_
    refine thenN ?_
    refine WC_ret ?_
    refine thenR ?_
    obtain rfl := someE H
    refine retR [.bool false] ⟨rfl, trivial⟩ ?_
    exact ⟨rfl, M1⟩
  · replace H := ifN c2 H
    refine WC_skip ?_
    refine thenN ?_
    refine WC_seq ?_
    refine WD_start (n := 12) (fun w_ => Mem w_ [(Fr, w)]) [] mixed rfl ?_
    have M3 := M1.drawn
    refine WD_take' 0 rfl (by kernel_rfl) (by kernel_rfl) (by kernel_rfl) (by kernel_rfl) (by kernel_rfl) rfl (fun _ _ _ h => h) rfl _ (M3.sub (.cons_cons _ .slnil)) rfl (fun w_ hS => L_move rfl rfl (.pointer (some ⟨g_a0, 0, none⟩)) rfl  ⟨rfl, rfl⟩) ?_
    refine WD_nil 1 rfl (by kernel_rfl) (by kernel_rfl) (by kernel_rfl) (by kernel_rfl) (by kernel_rfl) (fun _ _ _ h => h) rfl ⟨g_a0, 0, none⟩ rfl rfl (M3.sub (.cons_cons _ .slnil)) ?_
    refine WD_take' 2 rfl (by kernel_rfl) (by kernel_rfl) (by kernel_rfl) (by kernel_rfl) (by kernel_rfl) rfl (fun _ _ _ h => h) rfl _ (M3.sub (.cons_cons _ .slnil)) rfl (fun w_ hS => L_field rfl rfl fd63_0 ⟨g_a0, 0, none⟩ rfl  ⟨rfl, rfl⟩) ?_
    refine WD_take' 3 rfl (by kernel_rfl) (by kernel_rfl) (by kernel_rfl) (by kernel_rfl) (by kernel_rfl) rfl (fun _ _ _ h => h) rfl _ (M3.sub (.cons_cons _ .slnil)) rfl (fun w_ hS => L_load1 rfl rfl Tryd.underlying58 rfl ((hB_a0.el).sub (fun b hb => (show b = g_a0 from hb) ▸ hg_a0)) (hS.agree 0 rfl) 0 rfl (.slice Aa0_0 a0.words_.length ca0_0) rfl  ⟨rfl, rfl⟩) ?_
    refine WD_take' 4 rfl (by kernel_rfl) (by kernel_rfl) (by kernel_rfl) (by kernel_rfl) (by kernel_rfl) rfl (fun _ _ _ h => h) rfl _ (M3.sub (.cons_cons _ .slnil)) rfl (fun w_ hS => L_move rfl rfl (.pointer (some ⟨g_a0, 0, none⟩)) rfl  ⟨rfl, rfl⟩) ?_
    refine WD_nil 5 rfl (by kernel_rfl) (by kernel_rfl) (by kernel_rfl) (by kernel_rfl) (by kernel_rfl) (fun _ _ _ h => h) rfl ⟨g_a0, 0, none⟩ rfl rfl (M3.sub (.cons_cons _ .slnil)) ?_
    refine WD_take' 6 rfl (by kernel_rfl) (by kernel_rfl) (by kernel_rfl) (by kernel_rfl) (by kernel_rfl) rfl (fun _ _ _ h => h) rfl _ (M3.sub (.cons_cons _ .slnil)) rfl (fun w_ hS => L_field rfl rfl fd63_1 ⟨g_a0, 0, none⟩ rfl  ⟨rfl, rfl⟩) ?_
    refine WD_take' 7 rfl (by kernel_rfl) (by kernel_rfl) (by kernel_rfl) (by kernel_rfl) (by kernel_rfl) rfl (fun _ _ _ h => h) rfl _ (M3.sub (.cons_cons _ .slnil)) rfl (fun w_ hS => L_load1 rfl rfl Tryd.underlying3 rfl ((hB_a0.el).sub (fun b hb => (show b = g_a0 from hb) ▸ hg_a0)) (hS.agree 0 rfl) 1 rfl (.int .i64 a0.at_) rfl  ⟨rfl, rfl⟩) ?_
    obtain ⟨q4, hq5, H⟩ := bindS H
    obtain ⟨ad6, cs7, hA8, E9, R10⟩ := ha0_0.at hq5
    have hl11 := atL_spec hq5
    refine WD_take' 8 rfl (by kernel_rfl) (by kernel_rfl) (by kernel_rfl) (by kernel_rfl) (by kernel_rfl) rfl (fun _ _ _ h => h) rfl _ (M3.sub (.cons_cons _ .slnil)) rfl (fun w_ hS => L_index rfl rfl Tryd.underlying58 sz88 rfl rfl hA8 hl11.1 hl11.2.1  ⟨rfl, rfl⟩) ?_
    obtain rfl := R10
    have E12 : El w Fr (Addr.add ad6 (Int.toNat a0.at_ * 4)) [.int .i64 q4.Kind, .int .i64 q4.At, .string (sv q4.Text), .int .i64 q4.Num] := E9
    refine WD_take' 9 rfl (by kernel_rfl) (by kernel_rfl) (by kernel_rfl) (by kernel_rfl) (by kernel_rfl) rfl (fun _ _ _ h => h) rfl _ (M3.sub (.cons_cons _ .slnil)) rfl (fun w_ hS => L_loadN rfl rfl Tryd.underlying88 rfl E12 (hS.agree 0 rfl) 0 rfl 4 sz88 [.int .i64 q4.Kind, .int .i64 q4.At, .string (sv q4.Text), .int .i64 q4.Num] rfl rfl  ⟨rfl, rfl⟩) ?_
    refine WD_one 10 rfl (by kernel_rfl) (L_alloc M3 rfl rfl zr88 [.int .i64 0, .int .i64 0, .string (sv (lit [])), .int .i64 0] rfl ?_)
    intro g13 W14 B15 M16
    refine ⟨fun _ => (M16.sub (.cons _ (.cons_cons _ .slnil))), ?_⟩
    refine WD_one 11 rfl (by kernel_rfl) (L_store M16 rfl (.agg #[.int .i64 q4.Kind, .int .i64 q4.At, .string (sv q4.Text), .int .i64 q4.Num]) rfl [.int .i64 q4.Kind, .int .i64 q4.At, .string (sv q4.Text), .int .i64 q4.Num] rfl 4 sz88 rfl rfl rfl B15 rfl rfl [.int .i64 q4.Kind, .int .i64 q4.At, .string (sv q4.Text), .int .i64 q4.Num] rfl ?_)
    intro W17 B18 M19
    refine ⟨fun _ => (M19.sub (.cons _ (.cons_cons _ .slnil))), ?_⟩
    refine WD_done (by kernel_rfl) ?_
    refine thenN ?_
    obtain ⟨z20, hz21, H⟩ := bindS H
    refine WC_cut (fun ρ w_ => ∃  (ρ0 : Nat → Value), ρ = updL ρ0 [(6, .bool z20)] ∧ Mem w_ [(one g13, W17), (Fr, w)]) ?_ ?_
    · refine WC_region ?_
      refine WL_of (L_field rfl rfl fd88_0 ⟨g13, 0, none⟩ rfl ?_)
      refine WL_of (L_load1 rfl rfl Tryd.underlying3 rfl B18.el (M19.agree 0 rfl) 0 rfl (.int .i64 q4.Kind) rfl ?_)
      refine WL_of (L_move rfl rfl (.int .i64 a1) rfl ?_)
      refine WL_of (L_bin rfl rfl (.int .i64 q4.Kind) (.int .i64 a1) rfl rfl (.bool (decide ((q4.Kind : Int) = a1))) (B_eql _ _ _ _ q4.Kind a1) ?_)
      refine WL_of (L_move rfl rfl (.bool (decide ((q4.Kind : Int) = a1))) rfl ?_)
      by_cases c22 : (q4.Kind : Int) = a1
      · replace hz21 := ifP c22 hz21
        refine WL_known 32 true (vtrue c22) ?_
        refine WL_of (L_move rfl rfl (.string (sv a2)) rfl ?_)
        refine WL_of (L_bin rfl rfl (.string (sv a2)) (.string (sv (lit []))) rfl rfl (.bool (decide ((a2 : Str) = (lit [])))) (B_seql _ _ _ a2 (lit [])) ?_)
        refine WL_of (L_move rfl rfl (.bool (decide ((a2 : Str) = (lit [])))) rfl ?_)
        by_cases c23 : (a2 : Str) = (lit [])
        · replace hz21 := ifP c23 hz21
          refine WL_known 35 true (vtrue c23) ?_
          refine WL_of (WO_off rfl rfl ?_)
          refine WL_of (WO_off rfl rfl ?_)
          refine WL_of (WO_off rfl rfl ?_)
          refine WL_of (WO_off rfl rfl ?_)
          refine WL_of (L_pick rfl rfl true rfl (.bool true) rfl ?_)
          refine WL_of (L_pick rfl rfl true rfl (.bool true) rfl ?_)
          refine WL_of (L_assign rfl rfl (.bool true) rfl ?_)
          refine WL_nil ?_
          refine thenN ?_
          obtain rfl := someE hz21
          exact ⟨_, updL_same _ _ ⟨rfl, trivial⟩, M19⟩
        · replace hz21 := ifN c23 hz21
          refine WL_known 35 false (vfalse c23) ?_
          refine WL_of (L_field rfl rfl fd88_2 ⟨g13, 0, none⟩ rfl ?_)
          refine WL_of (L_load1 rfl rfl Tryd.underlying9 rfl B18.el (M19.agree 0 rfl) 2 rfl (.string (sv q4.Text)) rfl ?_)
          refine WL_of (L_move rfl rfl (.string (sv a2)) rfl ?_)
          refine WL_of (L_bin rfl rfl (.string (sv q4.Text)) (.string (sv a2)) rfl rfl (.bool (decide ((q4.Text : Str) = a2))) (B_seql _ _ _ q4.Text a2) ?_)
          refine WL_of (L_pick rfl rfl false rfl (.bool (decide ((q4.Text : Str) = a2))) rfl ?_)
          refine WL_of (L_pick rfl rfl true rfl (.bool (decide ((q4.Text : Str) = a2))) rfl ?_)
          refine WL_of (L_assign rfl rfl (.bool (decide ((q4.Text : Str) = a2))) rfl ?_)
          refine WL_nil ?_
          refine thenN ?_
          obtain rfl := someE hz21
          exact ⟨_, updL_same _ _ ⟨rfl, trivial⟩, M19⟩
      · replace hz21 := ifN c22 hz21
        refine WL_known 32 false (vfalse c22) ?_
        refine WL_of (WO_off rfl rfl ?_)
        refine WL_of (WO_off rfl rfl ?_)
        refine WL_of (WO_off rfl rfl ?_)
        refine WL_of (WO_off rfl rfl ?_)
        refine WL_of (WO_off rfl rfl ?_)
        refine WL_of (WO_off rfl rfl ?_)
        refine WL_of (WO_off rfl rfl ?_)
        refine WL_of (WO_off rfl rfl ?_)
        refine WL_of (L_pick rfl rfl false rfl (.bool false) rfl ?_)
        refine WL_of (L_assign rfl rfl (.bool false) rfl ?_)
        refine WL_nil ?_
        refine thenN ?_
        obtain rfl := someE hz21
        exact ⟨_, updL_same _ _ ⟨rfl, trivial⟩, M19⟩
    · rintro _ W24 ⟨ρ26, rfl, M25⟩
      refine WC_ret ?_
      obtain rfl := someE H
      have M27 : Mem W24 [(Fr, w), (one g13, W17)] := M25.front [(one g13, W17)] rfl
      have M28 : Mem W24 [(Fr, w)] := M27.sub (List.prefix_append [(Fr, w)] [(one g13, W17)]).sublist
      refine retR [.bool z20] ⟨rfl, trivial⟩ ?_
      exact ⟨rfl, M28⟩

/-! ### (*annals/plan.reader).take: function 36 -/
def plan_reader_take (a0 : plan_reader) (a1 : Int) (a2 : Str) : Option (api_Word × Bool × Int) :=
  (plan_reader_is a0 a1 a2).bind (fun (r6 : Bool) => (if (!r6) = true then (some ((⟨0, 0, (lit []), 0⟩ : api_Word), false, a0.at_)) else (atL a0.words_ (wrap64 ((wrap64 (a0.at_ + 1)) - 1))).bind (fun q25 => (some (q25, true, wrap64 (a0.at_ + 1))))))
set_option maxRecDepth 100000 in
set_option maxHeartbeats 4000000 in
theorem plan_reader_take_ok (a0 : plan_reader) (g_a0 : Nat) (Aa0_0 : Option Addr) (ca0_0 : Nat) (a1 : Int) (a2 : Str) (r : api_Word × Bool × Int) (w : World) (Fr : BS) (hG : Gl Fr w) (M0 : Mem w [(one g_a0, w), (Fr, w)]) (ha0_0 : SR w Fr w Fr Aa0_0 ca0_0 a0.words_) (hB_a0 : Bx w g_a0 [.slice Aa0_0 a0.words_.length ca0_0, .int .i64 a0.at_, .int .i64 a0.end_] 63) (H : plan_reader_take a0 a1 a2 = some r) :
    CallsR Tryd.prog 36 #[.pointer (some ⟨g_a0, 0, none⟩), .int .i64 a1, .string (sv a2)] w (fun v w' => v = .tuple #[.agg #[.int .i64 r.1.Kind, .int .i64 r.1.At, .string (sv r.1.Text), .int .i64 r.1.Num], .bool r.2.1] ∧ Mem w' [(one g_a0, w'), (Fr, w)] ∧ Bx w' g_a0 [.slice Aa0_0 a0.words_.length ca0_0, .int .i64 r.2.2, .int .i64 a0.end_] 63) := by
  refine enterZ (args := [.pointer (some ⟨g_a0, 0, none⟩), .int .i64 a1, .string (sv a2)]) [.cell 6 88, .tmp 7] Tryd.func36 rfl rfl rfl rfl ?_
  unfold plan_reader_take at H
  refine WC_seq ?_
  refine WC_region ?_
  refine WL_of (L_alloc M0 rfl rfl zr88 [.int .i64 0, .int .i64 0, .string (sv (lit [])), .int .i64 0] rfl ?_)
  intro g1 W2 B3 M4
  refine WL_of (L_assign rfl rfl (.bool false) rfl ?_)
  refine WL_nil ?_
  refine thenN ?_
  refine WC_seq ?_
  refine WC_seq ?_
  refine WC_region ?_
  refine WL_of (L_move rfl rfl (.pointer (some ⟨g_a0, 0, none⟩)) rfl ?_)
  refine WL_of (L_move rfl rfl (.int .i64 a1) rfl ?_)
  refine WL_of (L_move rfl rfl (.string (sv a2)) rfl ?_)
  obtain ⟨r6, hr7, H⟩ := bindS H
  refine WL_of (L_call' rfl rfl cf49 [.pointer (some ⟨g_a0, 0, none⟩), .int .i64 a1, .string (sv a2)] rfl (plan_reader_is_ok a0 g_a0 Aa0_0 ca0_0 a1 a2 r6 _ (Un [(one g1, W2), (one g_a0, w), (Fr, w)]) (hG.call M4 2 rfl) M4.frame ((ha0_0.agree (M4.agree 2 rfl) (M4.agree 2 rfl)).sub (Un.at 2 rfl) (Un.at 2 rfl)) (Un.at (S := one g_a0) 1 rfl _ rfl) (hB_a0.now (M4.agree 1 rfl)) hr7) ?_)
  rintro _ W8 ⟨rfl, M9⟩
  have M10 : Mem W8 [(one g1, W2), (one g_a0, w), (Fr, w)] := M4.back (New := []) M9
  refine WL_of (L_not rfl rfl r6 rfl ?_)
  refine WL_nil ?_
  refine thenN ?_
  refine WC_ifb rfl (fun c11 => ?_) (fun c11 => ?_)
  · replace H := ifP c11 H
    refine WC_seq ?_
    refine WC_region ?_
    refine WL_of (L_build' rfl rfl [] rfl Tryd.underlying88 zr88 pl88 [.int .i64 0, .int .i64 0, .string (sv (lit [])), .int .i64 0] rfl ?_)
    refine WL_of (L_store M10 rfl (.agg #[.int .i64 0, .int .i64 0, .string (sv (lit [])), .int .i64 0]) rfl [.int .i64 0, .int .i64 0, .string (sv (lit [])), .int .i64 0] rfl 4 sz88 rfl rfl rfl B3 rfl rfl [.int .i64 0, .int .i64 0, .string (sv (lit [])), .int .i64 0] rfl ?_)
    intro W12 B13 M14
    refine WL_of (L_assign rfl rfl (.bool false) rfl ?_)
    refine WL_nil ?_
    refine thenN ?_
    refine WC_ret ?_
    refine thenR ?_
    obtain rfl := someE H
    have M15 : Mem W12 [(one g_a0, w), (one g1, W12), (Fr, w)] := M14.front [(one g1, W12)] rfl
    have M16 : Mem W12 [(one g_a0, W12), (one g1, W12), (Fr, w)] := M15.rebase
    have M17 : Mem W12 [(Fr, w), (one g_a0, W12), (one g1, W12)] := M16.front [(one g_a0, W12), (one g1, W12)] rfl
    have M18 : Mem W12 [(one g_a0, W12), (Fr, w), (one g1, W12)] := M17.front [(Fr, w)] rfl
    have M19 : Mem W12 [(one g_a0, W12), (Fr, w)] := M18.sub (List.prefix_append [(one g_a0, W12), (Fr, w)] [(one g1, W12)]).sublist
    refine retR [.agg #[.int .i64 0, .int .i64 0, .string (sv (lit [])), .int .i64 0], .bool false] ⟨⟨_, rfl, R_loadVarN Tryd.underlying88 rfl B13.el (M14.agree 0 rfl) sz88 rfl⟩, rfl, trivial⟩ ?_
    exact ⟨rfl, M19, hB_a0.now (M15.agree 0 rfl)⟩
  · replace H := ifN (by rw [c11]; simp) H
    refine WC_skip ?_
    refine thenN ?_
    refine WC_seq ?_
    refine WC_region ?_
    refine WL_of (L_move rfl rfl (.pointer (some ⟨g_a0, 0, none⟩)) rfl ?_)
    refine WL_of (L_nilCheck rfl rfl ⟨g_a0, 0, none⟩ rfl ?_)
    refine WL_of (L_field rfl rfl fd63_1 ⟨g_a0, 0, none⟩ rfl ?_)
    refine WL_of (L_load1 rfl rfl Tryd.underlying3 rfl hB_a0.el (M10.agree 1 rfl) 1 rfl (.int .i64 a0.at_) rfl ?_)
    refine WL_of (L_bin rfl rfl (.int .i64 a0.at_) (.int .i64 1) rfl rfl (.int .i64 (wrap64 (a0.at_ + 1))) (B_add _ _ _ a0.at_ 1) ?_)
    refine WL_of (L_nilCheck rfl rfl ⟨g_a0, 0, none⟩ rfl ?_)
    refine WL_of (L_field rfl rfl fd63_1 ⟨g_a0, 0, none⟩ rfl ?_)
    have M20 : Mem W8 [(one g_a0, w), (one g1, W2), (Fr, w)] := M10.front [(one g1, W2)] rfl
    refine WL_of (L_store M20 rfl (.int .i64 (wrap64 (a0.at_ + 1))) rfl [.int .i64 (wrap64 (a0.at_ + 1))] rfl 1 sz3 rfl rfl rfl hB_a0 rfl rfl [.slice Aa0_0 a0.words_.length ca0_0, .int .i64 (wrap64 (a0.at_ + 1)), .int .i64 a0.end_] rfl ?_)
    intro W21 B22 M23
    refine WL_nil ?_
    refine thenN ?_
    refine WC_seq ?_
    refine WD_start (n := 13) (fun w_ => Mem w_ [(one g_a0, W21), (Fr, w)]) [] mixed rfl ?_
    have M24 := M23.drawn
    refine WD_take' 0 rfl (by kernel_rfl) (by kernel_rfl) (by kernel_rfl) (by kernel_rfl) (by kernel_rfl) rfl (fun _ _ _ h => h) rfl _ (M24.sub (.cons_cons _ (.cons _ (.cons_cons _ .slnil)))) rfl (fun w_ hS => L_move rfl rfl (.pointer (some ⟨g_a0, 0, none⟩)) rfl  ⟨rfl, rfl⟩) ?_
    refine WD_nil 1 rfl (by kernel_rfl) (by kernel_rfl) (by kernel_rfl) (by kernel_rfl) (by kernel_rfl) (fun _ _ _ h => h) rfl ⟨g_a0, 0, none⟩ rfl rfl (M24.sub (.cons_cons _ (.cons _ (.cons_cons _ .slnil)))) ?_
    refine WD_take' 2 rfl (by kernel_rfl) (by kernel_rfl) (by kernel_rfl) (by kernel_rfl) (by kernel_rfl) rfl (fun _ _ _ h => h) rfl _ (M24.sub (.cons_cons _ (.cons _ (.cons_cons _ .slnil)))) rfl (fun w_ hS => L_field rfl rfl fd63_0 ⟨g_a0, 0, none⟩ rfl  ⟨rfl, rfl⟩) ?_
    refine WD_take' 3 rfl (by kernel_rfl) (by kernel_rfl) (by kernel_rfl) (by kernel_rfl) (by kernel_rfl) rfl (fun _ _ _ h => h) rfl _ (M24.sub (.cons_cons _ (.cons _ (.cons_cons _ .slnil)))) rfl (fun w_ hS => L_load1 rfl rfl Tryd.underlying58 rfl B22.el (hS.agree 0 rfl) 0 rfl (.slice Aa0_0 a0.words_.length ca0_0) rfl  ⟨rfl, rfl⟩) ?_
    refine WD_take' 4 rfl (by kernel_rfl) (by kernel_rfl) (by kernel_rfl) (by kernel_rfl) (by kernel_rfl) rfl (fun _ _ _ h => h) rfl _ (M24.sub (.cons_cons _ (.cons _ (.cons_cons _ .slnil)))) rfl (fun w_ hS => L_move rfl rfl (.pointer (some ⟨g_a0, 0, none⟩)) rfl  ⟨rfl, rfl⟩) ?_
    refine WD_nil 5 rfl (by kernel_rfl) (by kernel_rfl) (by kernel_rfl) (by kernel_rfl) (by kernel_rfl) (fun _ _ _ h => h) rfl ⟨g_a0, 0, none⟩ rfl rfl (M24.sub (.cons_cons _ (.cons _ (.cons_cons _ .slnil)))) ?_
    refine WD_take' 6 rfl (by kernel_rfl) (by kernel_rfl) (by kernel_rfl) (by kernel_rfl) (by kernel_rfl) rfl (fun _ _ _ h => h) rfl _ (M24.sub (.cons_cons _ (.cons _ (.cons_cons _ .slnil)))) rfl (fun w_ hS => L_field rfl rfl fd63_1 ⟨g_a0, 0, none⟩ rfl  ⟨rfl, rfl⟩) ?_
    refine WD_take' 7 rfl (by kernel_rfl) (by kernel_rfl) (by kernel_rfl) (by kernel_rfl) (by kernel_rfl) rfl (fun _ _ _ h => h) rfl _ (M24.sub (.cons_cons _ (.cons _ (.cons_cons _ .slnil)))) rfl (fun w_ hS => L_load1 rfl rfl Tryd.underlying3 rfl B22.el (hS.agree 0 rfl) 1 rfl (.int .i64 (wrap64 (a0.at_ + 1))) rfl  ⟨rfl, rfl⟩) ?_
    refine WD_take' 8 rfl (by kernel_rfl) (by kernel_rfl) (by kernel_rfl) (by kernel_rfl) (by kernel_rfl) rfl (fun _ _ _ h => h) rfl _ (M24.sub (.cons_cons _ (.cons _ (.cons_cons _ .slnil)))) rfl (fun w_ hS => L_bin rfl rfl (.int .i64 (wrap64 (a0.at_ + 1))) (.int .i64 1) rfl rfl (.int .i64 (wrap64 ((wrap64 (a0.at_ + 1)) - 1))) (B_sub _ _ _ (wrap64 (a0.at_ + 1)) 1)  ⟨rfl, rfl⟩) ?_
    obtain ⟨q25, hq26, H⟩ := bindS H
    obtain ⟨ad27, cs28, hA29, E30, R31⟩ := ha0_0.at hq26
    have hl32 := atL_spec hq26
    refine WD_take' 9 rfl (by kernel_rfl) (by kernel_rfl) (by kernel_rfl) (by kernel_rfl) (by kernel_rfl) rfl (fun _ _ _ h => h) rfl _ (M24.sub (.cons_cons _ (.cons _ (.cons_cons _ .slnil)))) rfl (fun w_ hS => L_index rfl rfl Tryd.underlying58 sz88 rfl rfl hA29 hl32.1 hl32.2.1  ⟨rfl, rfl⟩) ?_
    obtain rfl := R31
    have E33 : El w Fr (Addr.add ad27 (Int.toNat (wrap64 ((wrap64 (a0.at_ + 1)) - 1)) * 4)) [.int .i64 q25.Kind, .int .i64 q25.At, .string (sv q25.Text), .int .i64 q25.Num] := E30
    refine WD_take' 10 rfl (by kernel_rfl) (by kernel_rfl) (by kernel_rfl) (by kernel_rfl) (by kernel_rfl) rfl (fun _ _ _ h => h) rfl _ (M24.sub (.cons_cons _ (.cons _ (.cons_cons _ .slnil)))) rfl (fun w_ hS => L_loadN rfl rfl Tryd.underlying88 rfl E33 (hS.agree 1 rfl) 0 rfl 4 sz88 [.int .i64 q25.Kind, .int .i64 q25.At, .string (sv q25.Text), .int .i64 q25.Num] rfl rfl  ⟨rfl, rfl⟩) ?_
    have M34 : Mem (drawnZ W21) [(one g1, W2), (one g_a0, W21), (Fr, w)] := M24.front [(one g_a0, W21)] rfl
    refine WD_one 11 rfl (by kernel_rfl) (L_store M34 rfl (.agg #[.int .i64 q25.Kind, .int .i64 q25.At, .string (sv q25.Text), .int .i64 q25.Num]) rfl [.int .i64 q25.Kind, .int .i64 q25.At, .string (sv q25.Text), .int .i64 q25.Num] rfl 4 sz88 rfl rfl rfl B3 rfl rfl [.int .i64 q25.Kind, .int .i64 q25.At, .string (sv q25.Text), .int .i64 q25.Num] rfl ?_)
    intro W35 B36 M37
    refine ⟨fun _ => (M37.sub (.cons _ (.cons_cons _ (.cons_cons _ .slnil)))), ?_⟩
    refine WD_take' 12 rfl (by kernel_rfl) (by kernel_rfl) (by kernel_rfl) (by kernel_rfl) (by kernel_rfl) rfl (fun _ _ _ h => h) rfl _ (M37.sub (.cons _ (.cons_cons _ (.cons_cons _ .slnil)))) rfl (fun w_ hS => L_assign rfl rfl (.bool true) rfl  ⟨rfl, rfl⟩) ?_
    refine WD_done (by kernel_rfl) ?_
    refine thenN ?_
    refine WC_ret ?_
    obtain rfl := someE H
    have M38 : Mem W35 [(one g_a0, W21), (one g1, W35), (Fr, w)] := M37.front [(one g1, W35)] rfl
    have M39 : Mem W35 [(one g_a0, W35), (one g1, W35), (Fr, w)] := M38.rebase
    have M40 : Mem W35 [(Fr, w), (one g_a0, W35), (one g1, W35)] := M39.front [(one g_a0, W35), (one g1, W35)] rfl
    have M41 : Mem W35 [(one g_a0, W35), (Fr, w), (one g1, W35)] := M40.front [(Fr, w)] rfl
    have M42 : Mem W35 [(one g_a0, W35), (Fr, w)] := M41.sub (List.prefix_append [(one g_a0, W35), (Fr, w)] [(one g1, W35)]).sublist
    refine retR [.agg #[.int .i64 q25.Kind, .int .i64 q25.At, .string (sv q25.Text), .int .i64 q25.Num], .bool true] ⟨⟨_, rfl, R_loadVarN Tryd.underlying88 rfl B36.el (M37.agree 0 rfl) sz88 rfl⟩, rfl, trivial⟩ ?_
    exact ⟨rfl, M42, B22.now (M38.agree 0 rfl)⟩

/-! ### (*annals/plan.reader).here: function 22 -/
def plan_reader_here (a0 : plan_reader) : Option Int :=
  (if ((a0.words_.length : Int) : Int) ≤ a0.at_ then (some a0.end_) else (atL a0.words_ a0.at_).bind (fun q4 => (some q4.At)))
set_option maxRecDepth 100000 in
set_option maxHeartbeats 4000000 in
theorem plan_reader_here_ok (a0 : plan_reader) (g_a0 : Nat) (Aa0_0 : Option Addr) (ca0_0 : Nat) (r : Int) (w : World) (Fr : BS) (hG : Gl Fr w) (hF : ∀ b, Fr b → b < w.heap.size) (ha0_0 : SR w Fr w Fr Aa0_0 ca0_0 a0.words_) (hg_a0 : Fr g_a0) (hB_a0 : Bx w g_a0 [.slice Aa0_0 a0.words_.length ca0_0, .int .i64 a0.at_, .int .i64 a0.end_] 63) (H : plan_reader_here a0 = some r) :
    CallsR Tryd.prog 22 #[.pointer (some ⟨g_a0, 0, none⟩)] w (fun v w' => v = .int .i64 r ∧ Mem w' [(Fr, w)]) := by
  have M0 := Mem.start w Fr hF
  refine enterZ (args := [.pointer (some ⟨g_a0, 0, none⟩)]) [.tmp 2] Tryd.func22 rfl rfl rfl rfl ?_
  unfold plan_reader_here at H
  refine WC_seq ?_
  refine WC_region ?_
  refine WL_of (L_assign rfl rfl (.int .i64 0) rfl ?_)
  refine WL_nil ?_
  refine thenN ?_
  refine WC_seq ?_
  refine WC_seq ?_
  refine WD_start (n := 10) (fun w_ => Mem w_ [(Fr, w)]) [] mixed rfl ?_
  have M1 := M0.drawn
  refine WD_take' 0 rfl (by kernel_rfl) (by kernel_rfl) (by kernel_rfl) (by kernel_rfl) (by kernel_rfl) rfl (fun _ _ _ h => h) rfl _ (M1.sub (.cons_cons _ .slnil)) rfl (fun w_ hS => L_move rfl rfl (.pointer (some ⟨g_a0, 0, none⟩)) rfl  ⟨rfl, rfl⟩) ?_
  refine WD_nil 1 rfl (by kernel_rfl) (by kernel_rfl) (by kernel_rfl) (by kernel_rfl) (by kernel_rfl) (fun _ _ _ h => h) rfl ⟨g_a0, 0, none⟩ rfl rfl (M1.sub (.cons_cons _ .slnil)) ?_
  refine WD_take' 2 rfl (by kernel_rfl) (by kernel_rfl) (by kernel_rfl) (by kernel_rfl) (by kernel_rfl) rfl (fun _ _ _ h => h) rfl _ (M1.sub (.cons_cons _ .slnil)) rfl (fun w_ hS => L_field rfl rfl fd63_1 ⟨g_a0, 0, none⟩ rfl  ⟨rfl, rfl⟩) ?_
  refine WD_take' 3 rfl (by kernel_rfl) (by kernel_rfl) (by kernel_rfl) (by kernel_rfl) (by kernel_rfl) rfl (fun _ _ _ h => h) rfl _ (M1.sub (.cons_cons _ .slnil)) rfl (fun w_ hS => L_load1 rfl rfl Tryd.underlying3 rfl ((hB_a0.el).sub (fun b hb => (show b = g_a0 from hb) ▸ hg_a0)) (hS.agree 0 rfl) 1 rfl (.int .i64 a0.at_) rfl  ⟨rfl, rfl⟩) ?_
  refine WD_take' 4 rfl (by kernel_rfl) (by kernel_rfl) (by kernel_rfl) (by kernel_rfl) (by kernel_rfl) rfl (fun _ _ _ h => h) rfl _ (M1.sub (.cons_cons _ .slnil)) rfl (fun w_ hS => L_move rfl rfl (.pointer (some ⟨g_a0, 0, none⟩)) rfl  ⟨rfl, rfl⟩) ?_
  refine WD_nil 5 rfl (by kernel_rfl) (by kernel_rfl) (by kernel_rfl) (by kernel_rfl) (by kernel_rfl) (fun _ _ _ h => h) rfl ⟨g_a0, 0, none⟩ rfl rfl (M1.sub (.cons_cons _ .slnil)) ?_
  refine WD_take' 6 rfl (by kernel_rfl) (by kernel_rfl) (by kernel_rfl) (by kernel_rfl) (by kernel_rfl) rfl (fun _ _ _ h => h) rfl _ (M1.sub (.cons_cons _ .slnil)) rfl (fun w_ hS => L_field rfl rfl fd63_0 ⟨g_a0, 0, none⟩ rfl  ⟨rfl, rfl⟩) ?_
  refine WD_take' 7 rfl (by kernel_rfl) (by kernel_rfl) (by kernel_rfl) (by kernel_rfl) (by kernel_rfl) rfl (fun _ _ _ h => h) rfl _ (M1.sub (.cons_cons _ .slnil)) rfl (fun w_ hS => L_load1 rfl rfl Tryd.underlying58 rfl ((hB_a0.el).sub (fun b hb => (show b = g_a0 from hb) ▸ hg_a0)) (hS.agree 0 rfl) 0 rfl (.slice Aa0_0 a0.words_.length ca0_0) rfl  ⟨rfl, rfl⟩) ?_
  refine WD_take' 8 rfl (by kernel_rfl) (by kernel_rfl) (by kernel_rfl) (by kernel_rfl) (by kernel_rfl) rfl (fun _ _ _ h => h) rfl _ (M1.sub (.cons_cons _ .slnil)) rfl (fun w_ hS => L_len rfl rfl (.slice Aa0_0 a0.words_.length ca0_0) rfl (a0.words_.length) (N_slice Tryd.underlying58 _ _ _)  ⟨rfl, rfl⟩) ?_
  refine WD_take' 9 rfl (by kernel_rfl) (by kernel_rfl) (by kernel_rfl) (by kernel_rfl) (by kernel_rfl) rfl (fun _ _ _ h => h) rfl _ (M1.sub (.cons_cons _ .slnil)) rfl (fun w_ hS => L_bin rfl rfl (.int .i64 a0.at_) (.int .i64 (a0.words_.length : Int)) rfl rfl (.bool (decide (((a0.words_.length : Int) : Int) ≤ a0.at_))) (B_geq _ _ _ _ a0.at_ (a0.words_.length : Int))  ⟨rfl, rfl⟩) ?_
  refine WD_done (by kernel_rfl) ?_
  refine thenN ?_
  refine WC_if (p := ((a0.words_.length : Int) : Int) ≤ a0.at_) rfl (fun c2 => ?_) (fun c2 => ?_)
  · replace H := ifP c2 H
    refine WC_seq ?_
    refine WC_region ?_
    refine WL_of (L_move rfl rfl (.pointer (some ⟨g_a0, 0, none⟩)) rfl ?_)
    refine WL_of (L_nilCheck rfl rfl ⟨g_a0, 0, none⟩ rfl ?_)
    refine WL_of (L_field rfl rfl fd63_2 ⟨g_a0, 0, none⟩ rfl ?_)
    refine WL_of (L_load1 rfl rfl Tryd.underlying3 rfl ((hB_a0.el).sub (fun b hb => (show b = g_a0 from hb) ▸ hg_a0)) (M1.agree 0 rfl) 2 rfl (.int .i64 a0.end_) rfl ?_)
    refine WL_of (L_assign rfl rfl (.int .i64 a0.end_) rfl ?_)
    refine WL_nil ?_
    refine thenN ?_
    refine WC_ret ?_
    refine thenR ?_
    obtain rfl := someE H
    refine retR [.int .i64 a0.end_] ⟨rfl, trivial⟩ ?_
    exact ⟨rfl, M1⟩
  · replace H := ifN c2 H
    refine WC_skip ?_
    refine thenN ?_
    refine WC_seq ?_
    refine WD_start (n := 12) (fun w_ => Mem w_ [(Fr, w)]) [] mixed rfl ?_
    have M3 := M1.drawn
    refine WD_take' 0 rfl (by kernel_rfl) (by kernel_rfl) (by kernel_rfl) (by kernel_rfl) (by kernel_rfl) rfl (fun _ _ _ h => h) rfl _ (M3.sub (.cons_cons _ .slnil)) rfl (fun w_ hS => L_move rfl rfl (.pointer (some ⟨g_a0, 0, none⟩)) rfl  ⟨rfl, rfl⟩) ?_
    refine WD_nil 1 rfl (by kernel_rfl) (by kernel_rfl) (by kernel_rfl) (by kernel_rfl) (by kernel_rfl) (fun _ _ _ h => h) rfl ⟨g_a0, 0, none⟩ rfl rfl (M3.sub (.cons_cons _ .slnil)) ?_
    refine WD_take' 2 rfl (by kernel_rfl) (by kernel_rfl) (by kernel_rfl) (by kernel_rfl) (by kernel_rfl) rfl (fun _ _ _ h => h) rfl _ (M3.sub (.cons_cons _ .slnil)) rfl (fun w_ hS => L_field rfl rfl fd63_0 ⟨g_a0, 0, none⟩ rfl  ⟨rfl, rfl⟩) ?_
    refine WD_take' 3 rfl (by kernel_rfl) (by kernel_rfl) (by kernel_rfl) (by kernel_rfl) (by kernel_rfl) rfl (fun _ _ _ h => h) rfl _ (M3.sub (.cons_cons _ .slnil)) rfl (fun w_ hS => L_load1 rfl rfl Tryd.underlying58 rfl ((hB_a0.el).sub (fun b hb => (show b = g_a0 from hb) ▸ hg_a0)) (hS.agree 0 rfl) 0 rfl (.slice Aa0_0 a0.words_.length ca0_0) rfl  ⟨rfl, rfl⟩) ?_
    refine WD_take' 4 rfl (by kernel_rfl) (by kernel_rfl) (by kernel_rfl) (by kernel_rfl) (by kernel_rfl) rfl (fun _ _ _ h => h) rfl _ (M3.sub (.cons_cons _ .slnil)) rfl (fun w_ hS => L_move rfl rfl (.pointer (some ⟨g_a0, 0, none⟩)) rfl  ⟨rfl, rfl⟩) ?_
    refine WD_nil 5 rfl (by kernel_rfl) (by kernel_rfl) (by kernel_rfl) (by kernel_rfl) (by kernel_rfl) (fun _ _ _ h => h) rfl ⟨g_a0, 0, none⟩ rfl rfl (M3.sub (.cons_cons _ .slnil)) ?_
    refine WD_take' 6 rfl (by kernel_rfl) (by kernel_rfl) (by kernel_rfl) (by kernel_rfl) (by kernel_rfl) rfl (fun _ _ _ h => h) rfl _ (M3.sub (.cons_cons _ .slnil)) rfl (fun w_ hS => L_field rfl rfl fd63_1 ⟨g_a0, 0, none⟩ rfl  ⟨rfl, rfl⟩) ?_
    refine WD_take' 7 rfl (by kernel_rfl) (by kernel_rfl) (by kernel_rfl) (by kernel_rfl) (by kernel_rfl) rfl (fun _ _ _ h => h) rfl _ (M3.sub (.cons_cons _ .slnil)) rfl (fun w_ hS => L_load1 rfl rfl Tryd.underlying3 rfl ((hB_a0.el).sub (fun b hb => (show b = g_a0 from hb) ▸ hg_a0)) (hS.agree 0 rfl) 1 rfl (.int .i64 a0.at_) rfl  ⟨rfl, rfl⟩) ?_
    obtain ⟨q4, hq5, H⟩ := bindS H
    obtain ⟨ad6, cs7, hA8, E9, R10⟩ := ha0_0.at hq5
    have hl11 := atL_spec hq5
    refine WD_take' 8 rfl (by kernel_rfl) (by kernel_rfl) (by kernel_rfl) (by kernel_rfl) (by kernel_rfl) rfl (fun _ _ _ h => h) rfl _ (M3.sub (.cons_cons _ .slnil)) rfl (fun w_ hS => L_index rfl rfl Tryd.underlying58 sz88 rfl rfl hA8 hl11.1 hl11.2.1  ⟨rfl, rfl⟩) ?_
    obtain rfl := R10
    have E12 : El w Fr (Addr.add ad6 (Int.toNat a0.at_ * 4)) [.int .i64 q4.Kind, .int .i64 q4.At, .string (sv q4.Text), .int .i64 q4.Num] := E9
    refine WD_take' 9 rfl (by kernel_rfl) (by kernel_rfl) (by kernel_rfl) (by kernel_rfl) (by kernel_rfl) rfl (fun _ _ _ h => h) rfl _ (M3.sub (.cons_cons _ .slnil)) rfl (fun w_ hS => L_field rfl rfl fd88_1 (Addr.add ad6 (Int.toNat a0.at_ * 4)) rfl  ⟨rfl, rfl⟩) ?_
    refine WD_take' 10 rfl (by kernel_rfl) (by kernel_rfl) (by kernel_rfl) (by kernel_rfl) (by kernel_rfl) rfl (fun _ _ _ h => h) rfl _ (M3.sub (.cons_cons _ .slnil)) rfl (fun w_ hS => L_load1 rfl rfl Tryd.underlying3 rfl E12 (hS.agree 0 rfl) 1 rfl (.int .i64 q4.At) rfl  ⟨rfl, rfl⟩) ?_
    refine WD_take' 11 rfl (by kernel_rfl) (by kernel_rfl) (by kernel_rfl) (by kernel_rfl) (by kernel_rfl) rfl (fun _ _ _ h => h) rfl _ (M3.sub (.cons_cons _ .slnil)) rfl (fun w_ hS => L_assign rfl rfl (.int .i64 q4.At) rfl  ⟨rfl, rfl⟩) ?_
    refine WD_done (by kernel_rfl) ?_
    refine thenN ?_
    refine WC_ret ?_
    obtain rfl := someE H
    refine retR [.int .i64 q4.At] ⟨rfl, trivial⟩ ?_
    exact ⟨rfl, M3⟩

/-! ### (*annals/plan.reader).step: function 37 -/
def plan_reader_step.j1 (a0 : plan_reader) (a1 : api_Plan) (r3 : (api_Word × Bool × Int)) (x38 : Bool) (x39 : Int) (x123 : Str) (x124 : Int) (x125 : Int) : Option (Bool × Bool × (List api_Word) × Int × Int × (List api_Step)) := (if List.length a1.Steps + List.length ([(⟨r3.1.Text, x123, x39⟩ : api_Step)] : List api_Step) ≤ 3518437208883 then (some (x38, true, a0.words_, x124, x125, (a1.Steps ++ ([(⟨r3.1.Text, x123, x39⟩ : api_Step)] : List api_Step)))) else none)
def plan_reader_step.j0 (a0 : plan_reader) (a1 : api_Plan) (r3 : (api_Word × Bool × Int)) (x38 : Bool) (x39 : Int) (x40 : Int) : Option (Bool × Bool × (List api_Word) × Int × Int × (List api_Step)) := (plan_reader_take (⟨a0.words_, x40, a0.end_⟩ : plan_reader) 4 (lit [126])).bind (fun (r137 : (api_Word × Bool × Int)) => (if r137.2.1 = true then (plan_reader_take (⟨a0.words_, r137.2.2, a0.end_⟩ : plan_reader) 1 (lit [])).bind (fun (r154 : (api_Word × Bool × Int)) => (if (!r154.2.1) = true then (some (false, false, a0.words_, r154.2.2, a1.Pivot, a1.Steps)) else (plan_reader_step.j1 a0 a1 r3 x38 x39 r154.1.Text r154.2.2 a1.Pivot))) else (if (a1.Pivot : Int) = 0 then (plan_reader_take (⟨a0.words_, r137.2.2, a0.end_⟩ : plan_reader) 4 (lit [33])).bind (fun (r203 : (api_Word × Bool × Int)) => (if r203.2.1 = true then (plan_reader_step.j1 a0 a1 r3 x38 x39 (lit []) r203.2.2 (wrap64 ((a1.Steps.length : Int) + 1))) else (plan_reader_step.j1 a0 a1 r3 x38 x39 (lit []) r203.2.2 a1.Pivot))) else (plan_reader_step.j1 a0 a1 r3 x38 x39 (lit []) r137.2.2 a1.Pivot))))
def plan_reader_step (a0 : plan_reader) (a1 : api_Plan) : Option (Bool × Bool × (List api_Word) × Int × Int × (List api_Step)) :=
  (plan_reader_take a0 1 (lit [])).bind (fun (r3 : (api_Word × Bool × Int)) => (if (!r3.2.1) = true then (some (false, false, a0.words_, r3.2.2, a1.Pivot, a1.Steps)) else (plan_reader_take (⟨a0.words_, r3.2.2, a0.end_⟩ : plan_reader) 4 (lit [42])).bind (fun (r51 : (api_Word × Bool × Int)) => (if r51.2.1 = true then (plan_reader_take (⟨a0.words_, r51.2.2, a0.end_⟩ : plan_reader) 2 (lit [])).bind (fun (r68 : (api_Word × Bool × Int)) => (if (!r68.2.1) = true then (some (false, false, a0.words_, r68.2.2, a1.Pivot, a1.Steps)) else (plan_reader_step.j0 a0 a1 r3 true r68.1.Num r68.2.2))) else (plan_reader_step.j0 a0 a1 r3 false 0 r51.2.2)))))
set_option maxRecDepth 100000 in
set_option maxHeartbeats 4000000 in
theorem plan_reader_step_ok (a0 : plan_reader) (g_a0 : Nat) (Aa0_0 : Option Addr) (ca0_0 : Nat) (Sa0_0 : BS) (a1 : api_Plan) (g_a1 : Nat) (Aa1_0 : Option Addr) (ca1_0 : Nat) (Sa1_0 : BS) (r : Bool × Bool × (List api_Word) × Int × Int × (List api_Step)) (w : World) (Fr : BS) (hG : Gl Fr w) (M0 : Mem w [(one g_a0, w), (Sa0_0, w), (one g_a1, w), (Sa1_0, w), (Fr, w)]) (ha0_0 : OR w Sa0_0 w none0 88 Aa0_0 ca0_0 a0.words_) (hB_a0 : Bx w g_a0 [.slice Aa0_0 a0.words_.length ca0_0, .int .i64 a0.at_, .int .i64 a0.end_] 63) (ha1_0 : OR w Sa1_0 w none0 44 Aa1_0 ca1_0 a1.Steps) (hB_a1 : Bx w g_a1 [.string (sv a1.Name), .int .i64 a1.Pivot, .slice Aa1_0 a1.Steps.length ca1_0] 24) (H : plan_reader_step a0 a1 = some r) :
    CallsR Tryd.prog 37 #[.pointer (some ⟨g_a0, 0, none⟩), .pointer (some ⟨g_a1, 0, none⟩)] w (fun v w' => ∃ (A0 : Option Addr) (c0 : Nat) (S0 : BS) (A1 : Option Addr) (c1 : Nat) (S1 : BS), v = .tuple #[.bool r.1, .bool r.2.1] ∧ Mem w' [(S0, w'), (S1, w'), (one g_a0, w'), (one g_a1, w'), (Fr, w)] ∧ OR w' S0 w' none0 88 A0 c0 r.2.2.1 ∧ OR w' S1 w' none0 44 A1 c1 r.2.2.2.2.2 ∧ Bx w' g_a0 [.slice A0 (List.length r.2.2.1) c0, .int .i64 r.2.2.2.1, .int .i64 a0.end_] 63 ∧ Bx w' g_a1 [.string (sv a1.Name), .int .i64 r.2.2.2.2.1, .slice A1 (List.length r.2.2.2.2.2) c1] 24) := by
  refine enterZ (args := [.pointer (some ⟨g_a0, 0, none⟩), .pointer (some ⟨g_a1, 0, none⟩)]) [.tmp 4, .tmp 5] Tryd.func37 rfl rfl rfl rfl ?_
  unfold plan_reader_step at H
  refine WC_seq ?_
  refine WC_region ?_
  refine WL_of (L_assign rfl rfl (.bool false) rfl ?_)
  refine WL_of (L_assign rfl rfl (.bool false) rfl ?_)
  refine WL_nil ?_
  refine thenN ?_
  refine WC_seq ?_
  refine WC_region ?_
  refine WL_of (L_move rfl rfl (.pointer (some ⟨g_a0, 0, none⟩)) rfl ?_)
  have hs1 := ha0_0.sr
  have M2 : Mem w [(Sa0_0, w), (one g_a1, w), (Sa1_0, w), (Fr, w)] := M0.drop
  obtain ⟨r3, hr4, H⟩ := bindS H
  refine WL_of (L_call' rfl rfl cf36 [.pointer (some ⟨g_a0, 0, none⟩), .int .i64 1, .string (sv (lit []))] rfl (plan_reader_take_ok a0 g_a0 Aa0_0 ca0_0 1 (lit []) r3 _ (Un [(Sa0_0, w), (one g_a1, w), (Sa1_0, w), (Fr, w)]) (hG.call M2 3 rfl) M0.lend ((hs1.agree (M2.agree 0 rfl) (fun _ h => h.elim)).sub (Un.at 0 rfl) (fun _ h => h.elim)) (hB_a0.now (M0.agree 0 rfl)) hr4) ?_)
  rintro _ W5 ⟨rfl, M6, B7⟩
  have M8 : Mem W5 [(one g_a0, W5), (Sa0_0, w), (one g_a1, w), (Sa1_0, w), (Fr, w)] := M2.back (New := [(one g_a0, W5)]) M6
  refine WL_of (L_move rfl rfl (.tuple #[.agg #[.int .i64 r3.1.Kind, .int .i64 r3.1.At, .string (sv r3.1.Text), .int .i64 r3.1.Num], .bool r3.2.1]) rfl ?_)
  refine WL_of (L_extract rfl rfl [.agg #[.int .i64 r3.1.Kind, .int .i64 r3.1.At, .string (sv r3.1.Text), .int .i64 r3.1.Num], .bool r3.2.1] rfl (.agg #[.int .i64 r3.1.Kind, .int .i64 r3.1.At, .string (sv r3.1.Text), .int .i64 r3.1.Num]) rfl ?_)
  refine WL_of (L_extract rfl rfl [.agg #[.int .i64 r3.1.Kind, .int .i64 r3.1.At, .string (sv r3.1.Text), .int .i64 r3.1.Num], .bool r3.2.1] rfl (.bool r3.2.1) rfl ?_)
  refine WL_of (L_alloc M8 rfl rfl zr88 [.int .i64 0, .int .i64 0, .string (sv (lit [])), .int .i64 0] rfl ?_)
  intro g9 W10 B11 M12
  refine WL_of (L_store M12 rfl (.agg #[.int .i64 r3.1.Kind, .int .i64 r3.1.At, .string (sv r3.1.Text), .int .i64 r3.1.Num]) rfl [.int .i64 r3.1.Kind, .int .i64 r3.1.At, .string (sv r3.1.Text), .int .i64 r3.1.Num] rfl 4 sz88 rfl rfl rfl B11 rfl rfl [.int .i64 r3.1.Kind, .int .i64 r3.1.At, .string (sv r3.1.Text), .int .i64 r3.1.Num] rfl ?_)
  intro W13 B14 M15
  refine WL_of (L_assign rfl rfl (.bool r3.2.1) rfl ?_)
  refine WL_nil ?_
  refine thenN ?_
  refine WC_seq ?_
  refine WC_seq ?_
  refine WC_region ?_
  refine WL_of (L_move rfl rfl (.bool r3.2.1) rfl ?_)
  refine WL_of (L_not rfl rfl r3.2.1 rfl ?_)
  refine WL_nil ?_
  refine thenN ?_
  refine WC_ifb rfl (fun c16 => ?_) (fun c16 => ?_)
  · replace H := ifP c16 H
    refine WC_seq ?_
    refine WC_region ?_
    refine WL_of (L_assign rfl rfl (.bool false) rfl ?_)
    refine WL_of (L_assign rfl rfl (.bool false) rfl ?_)
    refine WL_nil ?_
    refine thenN ?_
    refine WC_ret ?_
    refine thenR ?_
    obtain rfl := someE H
    have M17 : Mem W13 [(Sa0_0, w), (one g9, W13), (one g_a0, W5), (one g_a1, w), (Sa1_0, w), (Fr, w)] := M15.front [(one g9, W13), (one g_a0, W5)] rfl
    have M18 : Mem W13 [(Sa0_0, W13), (one g9, W13), (one g_a0, W5), (one g_a1, w), (Sa1_0, w), (Fr, w)] := M17.rebase
    have M19 : Mem W13 [(Sa1_0, w), (Sa0_0, W13), (one g9, W13), (one g_a0, W5), (one g_a1, w), (Fr, w)] := M18.front [(Sa0_0, W13), (one g9, W13), (one g_a0, W5), (one g_a1, w)] rfl
    have M20 : Mem W13 [(Sa1_0, W13), (Sa0_0, W13), (one g9, W13), (one g_a0, W5), (one g_a1, w), (Fr, w)] := M19.rebase
    have M21 : Mem W13 [(one g_a0, W5), (Sa1_0, W13), (Sa0_0, W13), (one g9, W13), (one g_a1, w), (Fr, w)] := M20.front [(Sa1_0, W13), (Sa0_0, W13), (one g9, W13)] rfl
    have M22 : Mem W13 [(one g_a0, W13), (Sa1_0, W13), (Sa0_0, W13), (one g9, W13), (one g_a1, w), (Fr, w)] := M21.rebase
    have M23 : Mem W13 [(one g_a1, w), (one g_a0, W13), (Sa1_0, W13), (Sa0_0, W13), (one g9, W13), (Fr, w)] := M22.front [(one g_a0, W13), (Sa1_0, W13), (Sa0_0, W13), (one g9, W13)] rfl
    have M24 : Mem W13 [(one g_a1, W13), (one g_a0, W13), (Sa1_0, W13), (Sa0_0, W13), (one g9, W13), (Fr, w)] := M23.rebase
    have M25 : Mem W13 [(Fr, w), (one g_a1, W13), (one g_a0, W13), (Sa1_0, W13), (Sa0_0, W13), (one g9, W13)] := M24.front [(one g_a1, W13), (one g_a0, W13), (Sa1_0, W13), (Sa0_0, W13), (one g9, W13)] rfl
    have M26 : Mem W13 [(one g_a1, W13), (Fr, w), (one g_a0, W13), (Sa1_0, W13), (Sa0_0, W13), (one g9, W13)] := M25.front [(Fr, w)] rfl
    have M27 : Mem W13 [(one g_a0, W13), (one g_a1, W13), (Fr, w), (Sa1_0, W13), (Sa0_0, W13), (one g9, W13)] := M26.front [(one g_a1, W13), (Fr, w)] rfl
    have M28 : Mem W13 [(Sa1_0, W13), (one g_a0, W13), (one g_a1, W13), (Fr, w), (Sa0_0, W13), (one g9, W13)] := M27.front [(one g_a0, W13), (one g_a1, W13), (Fr, w)] rfl
    have M29 : Mem W13 [(Sa0_0, W13), (Sa1_0, W13), (one g_a0, W13), (one g_a1, W13), (Fr, w), (one g9, W13)] := M28.front [(Sa1_0, W13), (one g_a0, W13), (one g_a1, W13), (Fr, w)] rfl
    have M30 : Mem W13 [(Sa0_0, W13), (Sa1_0, W13), (one g_a0, W13), (one g_a1, W13), (Fr, w)] := M29.sub (List.prefix_append [(Sa0_0, W13), (Sa1_0, W13), (one g_a0, W13), (one g_a1, W13), (Fr, w)] [(one g9, W13)]).sublist
    refine retR [.bool false, .bool false] ⟨rfl, rfl, trivial⟩ ?_
    exact ⟨Aa0_0, ca0_0, Sa0_0, Aa1_0, ca1_0, Sa1_0, rfl, M30, (ha0_0.agree (M17.agree 0 rfl)).map (fun _ _ h => h), (ha1_0.agree (M19.agree 0 rfl)).map (fun _ _ h => h), B7.now (M21.agree 0 rfl), hB_a1.now (M23.agree 0 rfl)⟩
  · replace H := ifN (by rw [c16]; simp) H
    refine WC_skip ?_
    refine thenN ?_
    refine WC_seq ?_
    refine WC_region ?_
    refine WL_of (L_field rfl rfl fd88_2 ⟨g9, 0, none⟩ rfl ?_)
    refine WL_of (L_load1 rfl rfl Tryd.underlying9 rfl B14.el (M15.agree 0 rfl) 2 rfl (.string (sv r3.1.Text)) rfl ?_)
    refine WL_of (L_build' rfl rfl [(0, .string (sv r3.1.Text))] rfl Tryd.underlying44 zr44 pl44 [.string (sv r3.1.Text), .string (sv (lit [])), .int .i64 0] rfl ?_)
    refine WL_of (L_alloc M15 rfl rfl zr44 [.string (sv (lit [])), .string (sv (lit [])), .int .i64 0] rfl ?_)
    intro g31 W32 B33 M34
    refine WL_of (L_store M34 rfl (.agg #[.string (sv r3.1.Text), .string (sv (lit [])), .int .i64 0]) rfl [.string (sv r3.1.Text), .string (sv (lit [])), .int .i64 0] rfl 3 sz44 rfl rfl rfl B33 rfl rfl [.string (sv r3.1.Text), .string (sv (lit [])), .int .i64 0] rfl ?_)
    intro W35 B36 M37
    refine WL_nil ?_
    refine thenN ?_
    refine WC_cut (fun ρ w_ => ∃ (x38 : Bool) (x39 : Int) (x40 : Int) (ρ0 : Nat → Value), ρ = updL ρ0 [(0, .pointer (some ⟨g_a0, 0, none⟩)), (1, .pointer (some ⟨g_a1, 0, none⟩)), (4, .bool x38), (5, .bool r3.2.1), (7, .pointer (some ⟨g31, 0, none⟩))] ∧ Mem w_ [(one g31, w_), (one g9, W13), (one g_a0, w_), (Sa0_0, w), (one g_a1, w), (Sa1_0, w), (Fr, w)] ∧ Bx w_ g_a0 [.slice Aa0_0 a0.words_.length ca0_0, .int .i64 x40, .int .i64 a0.end_] 63 ∧ Bx w_ g31 [.string (sv r3.1.Text), .string (sv (lit [])), .int .i64 x39] 44 ∧ plan_reader_step.j0 a0 a1 r3 x38 x39 x40 = some r) ?_ ?_
    · refine WC_seq ?_
      refine WC_region ?_
      refine WL_of (L_move rfl rfl (.pointer (some ⟨g_a0, 0, none⟩)) rfl ?_)
      have hs48 := ha0_0.sr
      have M49 : Mem W35 [(one g_a0, W5), (one g31, W35), (one g9, W13), (Sa0_0, w), (one g_a1, w), (Sa1_0, w), (Fr, w)] := M37.front [(one g31, W35), (one g9, W13)] rfl
      have M50 : Mem W35 [(one g31, W35), (one g9, W13), (Sa0_0, w), (one g_a1, w), (Sa1_0, w), (Fr, w)] := M49.drop
      obtain ⟨r51, hr52, H⟩ := bindS H
      refine WL_of (L_call' rfl rfl cf36 [.pointer (some ⟨g_a0, 0, none⟩), .int .i64 4, .string (sv (lit [42]))] rfl (plan_reader_take_ok (⟨a0.words_, r3.2.2, a0.end_⟩ : plan_reader) g_a0 Aa0_0 ca0_0 4 (lit [42]) r51 _ (Un [(one g31, W35), (one g9, W13), (Sa0_0, w), (one g_a1, w), (Sa1_0, w), (Fr, w)]) (hG.call M50 5 rfl) M49.lend ((hs48.agree (M50.agree 2 rfl) (fun _ h => h.elim)).sub (Un.at 2 rfl) (fun _ h => h.elim)) (B7.now (M49.agree 0 rfl)) hr52) ?_)
      rintro _ W53 ⟨rfl, M54, B55⟩
      have M56 : Mem W53 [(one g_a0, W53), (one g31, W35), (one g9, W13), (Sa0_0, w), (one g_a1, w), (Sa1_0, w), (Fr, w)] := M50.back (New := [(one g_a0, W53)]) M54
      refine WL_of (L_move rfl rfl (.tuple #[.agg #[.int .i64 r51.1.Kind, .int .i64 r51.1.At, .string (sv r51.1.Text), .int .i64 r51.1.Num], .bool r51.2.1]) rfl ?_)
      refine WL_of (L_extract rfl rfl [.agg #[.int .i64 r51.1.Kind, .int .i64 r51.1.At, .string (sv r51.1.Text), .int .i64 r51.1.Num], .bool r51.2.1] rfl (.agg #[.int .i64 r51.1.Kind, .int .i64 r51.1.At, .string (sv r51.1.Text), .int .i64 r51.1.Num]) rfl ?_)
      refine WL_of (L_extract rfl rfl [.agg #[.int .i64 r51.1.Kind, .int .i64 r51.1.At, .string (sv r51.1.Text), .int .i64 r51.1.Num], .bool r51.2.1] rfl (.bool r51.2.1) rfl ?_)
      refine WL_of (L_alloc M56 rfl rfl zr88 [.int .i64 0, .int .i64 0, .string (sv (lit [])), .int .i64 0] rfl ?_)
      intro g57 W58 B59 M60
      refine WL_of (L_store M60 rfl (.agg #[.int .i64 r51.1.Kind, .int .i64 r51.1.At, .string (sv r51.1.Text), .int .i64 r51.1.Num]) rfl [.int .i64 r51.1.Kind, .int .i64 r51.1.At, .string (sv r51.1.Text), .int .i64 r51.1.Num] rfl 4 sz88 rfl rfl rfl B59 rfl rfl [.int .i64 r51.1.Kind, .int .i64 r51.1.At, .string (sv r51.1.Text), .int .i64 r51.1.Num] rfl ?_)
      intro W61 B62 M63
      refine WL_of (L_assign rfl rfl (.bool r51.2.1) rfl ?_)
      refine WL_nil ?_
      refine thenN ?_
      refine WC_seq ?_
      refine WC_region ?_
      refine WL_of (L_move rfl rfl (.bool r51.2.1) rfl ?_)
      refine WL_nil ?_
      refine thenN ?_
      refine WC_ifb rfl (fun c64 => ?_) (fun c64 => ?_)
      · replace H := ifP c64 H
        refine WC_seq ?_
        refine WC_region ?_
        refine WL_of (L_move rfl rfl (.pointer (some ⟨g_a0, 0, none⟩)) rfl ?_)
        have hs65 := ha0_0.sr
        have M66 : Mem W61 [(one g_a0, W53), (one g57, W61), (one g31, W35), (one g9, W13), (Sa0_0, w), (one g_a1, w), (Sa1_0, w), (Fr, w)] := M63.front [(one g57, W61)] rfl
        have M67 : Mem W61 [(one g57, W61), (one g31, W35), (one g9, W13), (Sa0_0, w), (one g_a1, w), (Sa1_0, w), (Fr, w)] := M66.drop
        obtain ⟨r68, hr69, H⟩ := bindS H
        refine WL_of (L_call' rfl rfl cf36 [.pointer (some ⟨g_a0, 0, none⟩), .int .i64 2, .string (sv (lit []))] rfl (plan_reader_take_ok (⟨a0.words_, r51.2.2, a0.end_⟩ : plan_reader) g_a0 Aa0_0 ca0_0 2 (lit []) r68 _ (Un [(one g57, W61), (one g31, W35), (one g9, W13), (Sa0_0, w), (one g_a1, w), (Sa1_0, w), (Fr, w)]) (hG.call M67 6 rfl) M66.lend ((hs65.agree (M67.agree 3 rfl) (fun _ h => h.elim)).sub (Un.at 3 rfl) (fun _ h => h.elim)) (B55.now (M66.agree 0 rfl)) hr69) ?_)
        rintro _ W70 ⟨rfl, M71, B72⟩
        have M73 : Mem W70 [(one g_a0, W70), (one g57, W61), (one g31, W35), (one g9, W13), (Sa0_0, w), (one g_a1, w), (Sa1_0, w), (Fr, w)] := M67.back (New := [(one g_a0, W70)]) M71
        refine WL_of (L_move rfl rfl (.tuple #[.agg #[.int .i64 r68.1.Kind, .int .i64 r68.1.At, .string (sv r68.1.Text), .int .i64 r68.1.Num], .bool r68.2.1]) rfl ?_)
        refine WL_of (L_extract rfl rfl [.agg #[.int .i64 r68.1.Kind, .int .i64 r68.1.At, .string (sv r68.1.Text), .int .i64 r68.1.Num], .bool r68.2.1] rfl (.agg #[.int .i64 r68.1.Kind, .int .i64 r68.1.At, .string (sv r68.1.Text), .int .i64 r68.1.Num]) rfl ?_)
        refine WL_of (L_extract rfl rfl [.agg #[.int .i64 r68.1.Kind, .int .i64 r68.1.At, .string (sv r68.1.Text), .int .i64 r68.1.Num], .bool r68.2.1] rfl (.bool r68.2.1) rfl ?_)
        refine WL_of (L_alloc M73 rfl rfl zr88 [.int .i64 0, .int .i64 0, .string (sv (lit [])), .int .i64 0] rfl ?_)
        intro g74 W75 B76 M77
        refine WL_of (L_store M77 rfl (.agg #[.int .i64 r68.1.Kind, .int .i64 r68.1.At, .string (sv r68.1.Text), .int .i64 r68.1.Num]) rfl [.int .i64 r68.1.Kind, .int .i64 r68.1.At, .string (sv r68.1.Text), .int .i64 r68.1.Num] rfl 4 sz88 rfl rfl rfl B76 rfl rfl [.int .i64 r68.1.Kind, .int .i64 r68.1.At, .string (sv r68.1.Text), .int .i64 r68.1.Num] rfl ?_)
        intro W78 B79 M80
        refine WL_of (L_assign rfl rfl (.bool r68.2.1) rfl ?_)
        refine WL_nil ?_
        refine thenN ?_
        refine WC_seq ?_
        refine WC_seq ?_
        refine WC_region ?_
        refine WL_of (L_move rfl rfl (.bool r68.2.1) rfl ?_)
        refine WL_of (L_not rfl rfl r68.2.1 rfl ?_)
        refine WL_nil ?_
        refine thenN ?_
        refine WC_ifb rfl (fun c81 => ?_) (fun c81 => ?_)
        · replace H := ifP c81 H
          refine WC_seq ?_
          refine WC_region ?_
          refine WL_of (L_assign rfl rfl (.bool false) rfl ?_)
          refine WL_of (L_assign rfl rfl (.bool false) rfl ?_)
          refine WL_nil ?_
          refine thenN ?_
          refine WC_ret ?_
          refine thenR ?_
          refine thenR ?_
          obtain rfl := someE H
          have M82 : Mem W78 [(Sa0_0, w), (one g74, W78), (one g_a0, W70), (one g57, W61), (one g31, W35), (one g9, W13), (one g_a1, w), (Sa1_0, w), (Fr, w)] := M80.front [(one g74, W78), (one g_a0, W70), (one g57, W61), (one g31, W35), (one g9, W13)] rfl
          have M83 : Mem W78 [(Sa0_0, W78), (one g74, W78), (one g_a0, W70), (one g57, W61), (one g31, W35), (one g9, W13), (one g_a1, w), (Sa1_0, w), (Fr, w)] := M82.rebase
          have M84 : Mem W78 [(Sa1_0, w), (Sa0_0, W78), (one g74, W78), (one g_a0, W70), (one g57, W61), (one g31, W35), (one g9, W13), (one g_a1, w), (Fr, w)] := M83.front [(Sa0_0, W78), (one g74, W78), (one g_a0, W70), (one g57, W61), (one g31, W35), (one g9, W13), (one g_a1, w)] rfl
          have M85 : Mem W78 [(Sa1_0, W78), (Sa0_0, W78), (one g74, W78), (one g_a0, W70), (one g57, W61), (one g31, W35), (one g9, W13), (one g_a1, w), (Fr, w)] := M84.rebase
          have M86 : Mem W78 [(one g_a0, W70), (Sa1_0, W78), (Sa0_0, W78), (one g74, W78), (one g57, W61), (one g31, W35), (one g9, W13), (one g_a1, w), (Fr, w)] := M85.front [(Sa1_0, W78), (Sa0_0, W78), (one g74, W78)] rfl
          have M87 : Mem W78 [(one g_a0, W78), (Sa1_0, W78), (Sa0_0, W78), (one g74, W78), (one g57, W61), (one g31, W35), (one g9, W13), (one g_a1, w), (Fr, w)] := M86.rebase
          have M88 : Mem W78 [(one g_a1, w), (one g_a0, W78), (Sa1_0, W78), (Sa0_0, W78), (one g74, W78), (one g57, W61), (one g31, W35), (one g9, W13), (Fr, w)] := M87.front [(one g_a0, W78), (Sa1_0, W78), (Sa0_0, W78), (one g74, W78), (one g57, W61), (one g31, W35), (one g9, W13)] rfl
          have M89 : Mem W78 [(one g_a1, W78), (one g_a0, W78), (Sa1_0, W78), (Sa0_0, W78), (one g74, W78), (one g57, W61), (one g31, W35), (one g9, W13), (Fr, w)] := M88.rebase
          have M90 : Mem W78 [(Fr, w), (one g_a1, W78), (one g_a0, W78), (Sa1_0, W78), (Sa0_0, W78), (one g74, W78), (one g57, W61), (one g31, W35), (one g9, W13)] := M89.front [(one g_a1, W78), (one g_a0, W78), (Sa1_0, W78), (Sa0_0, W78), (one g74, W78), (one g57, W61), (one g31, W35), (one g9, W13)] rfl
          have M91 : Mem W78 [(one g_a1, W78), (Fr, w), (one g_a0, W78), (Sa1_0, W78), (Sa0_0, W78), (one g74, W78), (one g57, W61), (one g31, W35), (one g9, W13)] := M90.front [(Fr, w)] rfl
          have M92 : Mem W78 [(one g_a0, W78), (one g_a1, W78), (Fr, w), (Sa1_0, W78), (Sa0_0, W78), (one g74, W78), (one g57, W61), (one g31, W35), (one g9, W13)] := M91.front [(one g_a1, W78), (Fr, w)] rfl
          have M93 : Mem W78 [(Sa1_0, W78), (one g_a0, W78), (one g_a1, W78), (Fr, w), (Sa0_0, W78), (one g74, W78), (one g57, W61), (one g31, W35), (one g9, W13)] := M92.front [(one g_a0, W78), (one g_a1, W78), (Fr, w)] rfl
          have M94 : Mem W78 [(Sa0_0, W78), (Sa1_0, W78), (one g_a0, W78), (one g_a1, W78), (Fr, w), (one g74, W78), (one g57, W61), (one g31, W35), (one g9, W13)] := M93.front [(Sa1_0, W78), (one g_a0, W78), (one g_a1, W78), (Fr, w)] rfl
          have M95 : Mem W78 [(Sa0_0, W78), (Sa1_0, W78), (one g_a0, W78), (one g_a1, W78), (Fr, w)] := M94.sub (List.prefix_append [(Sa0_0, W78), (Sa1_0, W78), (one g_a0, W78), (one g_a1, W78), (Fr, w)] [(one g74, W78), (one g57, W61), (one g31, W35), (one g9, W13)]).sublist
          refine retR [.bool false, .bool false] ⟨rfl, rfl, trivial⟩ ?_
          exact ⟨Aa0_0, ca0_0, Sa0_0, Aa1_0, ca1_0, Sa1_0, rfl, M95, (ha0_0.agree (M82.agree 0 rfl)).map (fun _ _ h => h), (ha1_0.agree (M84.agree 0 rfl)).map (fun _ _ h => h), B72.now (M86.agree 0 rfl), hB_a1.now (M88.agree 0 rfl)⟩
        · replace H := ifN (by rw [c81]; simp) H
          refine WC_skip ?_
          refine thenN ?_
          refine WC_region ?_
          refine WL_of (L_field rfl rfl fd88_3 ⟨g74, 0, none⟩ rfl ?_)
          refine WL_of (L_load1 rfl rfl Tryd.underlying3 rfl B79.el (M80.agree 0 rfl) 3 rfl (.int .i64 r68.1.Num) rfl ?_)
          refine WL_of (L_field rfl rfl fd44_2 ⟨g31, 0, none⟩ rfl ?_)
          have M96 : Mem W78 [(one g31, W35), (one g74, W78), (one g_a0, W70), (one g57, W61), (one g9, W13), (Sa0_0, w), (one g_a1, w), (Sa1_0, w), (Fr, w)] := M80.front [(one g74, W78), (one g_a0, W70), (one g57, W61)] rfl
          refine WL_of (L_store M96 rfl (.int .i64 r68.1.Num) rfl [.int .i64 r68.1.Num] rfl 1 sz3 rfl rfl rfl B36 rfl rfl [.string (sv r3.1.Text), .string (sv (lit [])), .int .i64 r68.1.Num] rfl ?_)
          intro W97 B98 M99
          refine WL_of (L_assign rfl rfl (.bool true) rfl ?_)
          refine WL_nil ?_
          refine thenN ?_
          have M100 : Mem W97 [(one g_a0, W70), (one g31, W97), (one g74, W78), (one g57, W61), (one g9, W13), (Sa0_0, w), (one g_a1, w), (Sa1_0, w), (Fr, w)] := M99.front [(one g31, W97), (one g74, W78)] rfl
          have M101 : Mem W97 [(one g_a0, W97), (one g31, W97), (one g74, W78), (one g57, W61), (one g9, W13), (Sa0_0, w), (one g_a1, w), (Sa1_0, w), (Fr, w)] := M100.rebase
          have M102 : Mem W97 [(one g31, W97), (one g_a0, W97), (one g74, W78), (one g57, W61), (one g9, W13), (Sa0_0, w), (one g_a1, w), (Sa1_0, w), (Fr, w)] := M101.front [(one g_a0, W97)] rfl
          have M103 : Mem W97 [(Fr, w), (one g31, W97), (one g_a0, W97), (one g74, W78), (one g57, W61), (one g9, W13), (Sa0_0, w), (one g_a1, w), (Sa1_0, w)] := M102.front [(one g31, W97), (one g_a0, W97), (one g74, W78), (one g57, W61), (one g9, W13), (Sa0_0, w), (one g_a1, w), (Sa1_0, w)] rfl
          have M104 : Mem W97 [(Sa1_0, w), (Fr, w), (one g31, W97), (one g_a0, W97), (one g74, W78), (one g57, W61), (one g9, W13), (Sa0_0, w), (one g_a1, w)] := M103.front [(Fr, w), (one g31, W97), (one g_a0, W97), (one g74, W78), (one g57, W61), (one g9, W13), (Sa0_0, w), (one g_a1, w)] rfl
          have M105 : Mem W97 [(one g_a1, w), (Sa1_0, w), (Fr, w), (one g31, W97), (one g_a0, W97), (one g74, W78), (one g57, W61), (one g9, W13), (Sa0_0, w)] := M104.front [(Sa1_0, w), (Fr, w), (one g31, W97), (one g_a0, W97), (one g74, W78), (one g57, W61), (one g9, W13), (Sa0_0, w)] rfl
          have M106 : Mem W97 [(Sa0_0, w), (one g_a1, w), (Sa1_0, w), (Fr, w), (one g31, W97), (one g_a0, W97), (one g74, W78), (one g57, W61), (one g9, W13)] := M105.front [(one g_a1, w), (Sa1_0, w), (Fr, w), (one g31, W97), (one g_a0, W97), (one g74, W78), (one g57, W61), (one g9, W13)] rfl
          have M107 : Mem W97 [(one g_a0, W97), (Sa0_0, w), (one g_a1, w), (Sa1_0, w), (Fr, w), (one g31, W97), (one g74, W78), (one g57, W61), (one g9, W13)] := M106.front [(Sa0_0, w), (one g_a1, w), (Sa1_0, w), (Fr, w), (one g31, W97)] rfl
          have M108 : Mem W97 [(one g9, W13), (one g_a0, W97), (Sa0_0, w), (one g_a1, w), (Sa1_0, w), (Fr, w), (one g31, W97), (one g74, W78), (one g57, W61)] := M107.front [(one g_a0, W97), (Sa0_0, w), (one g_a1, w), (Sa1_0, w), (Fr, w), (one g31, W97), (one g74, W78), (one g57, W61)] rfl
          have M109 : Mem W97 [(one g31, W97), (one g9, W13), (one g_a0, W97), (Sa0_0, w), (one g_a1, w), (Sa1_0, w), (Fr, w), (one g74, W78), (one g57, W61)] := M108.front [(one g9, W13), (one g_a0, W97), (Sa0_0, w), (one g_a1, w), (Sa1_0, w), (Fr, w)] rfl
          have M110 : Mem W97 [(one g31, W97), (one g9, W13), (one g_a0, W97), (Sa0_0, w), (one g_a1, w), (Sa1_0, w), (Fr, w)] := M109.sub (List.prefix_append [(one g31, W97), (one g9, W13), (one g_a0, W97), (Sa0_0, w), (one g_a1, w), (Sa1_0, w), (Fr, w)] [(one g74, W78), (one g57, W61)]).sublist
          exact ⟨true, r68.1.Num, r68.2.2, _, updL_same _ _ ⟨rfl, rfl, rfl, rfl, rfl, trivial⟩, M110, B72.now (M100.agree 0 rfl), B98, H⟩
      · replace H := ifN (by rw [c64]; simp) H
        refine WC_skip ?_
        refine thenN ?_
        have M111 : Mem W61 [(one g_a0, W53), (one g57, W61), (one g31, W35), (one g9, W13), (Sa0_0, w), (one g_a1, w), (Sa1_0, w), (Fr, w)] := M63.front [(one g57, W61)] rfl
        have M112 : Mem W61 [(one g_a0, W61), (one g57, W61), (one g31, W35), (one g9, W13), (Sa0_0, w), (one g_a1, w), (Sa1_0, w), (Fr, w)] := M111.rebase
        have M113 : Mem W61 [(one g31, W35), (one g_a0, W61), (one g57, W61), (one g9, W13), (Sa0_0, w), (one g_a1, w), (Sa1_0, w), (Fr, w)] := M112.front [(one g_a0, W61), (one g57, W61)] rfl
        have M114 : Mem W61 [(one g31, W61), (one g_a0, W61), (one g57, W61), (one g9, W13), (Sa0_0, w), (one g_a1, w), (Sa1_0, w), (Fr, w)] := M113.rebase
        have M115 : Mem W61 [(Fr, w), (one g31, W61), (one g_a0, W61), (one g57, W61), (one g9, W13), (Sa0_0, w), (one g_a1, w), (Sa1_0, w)] := M114.front [(one g31, W61), (one g_a0, W61), (one g57, W61), (one g9, W13), (Sa0_0, w), (one g_a1, w), (Sa1_0, w)] rfl
        have M116 : Mem W61 [(Sa1_0, w), (Fr, w), (one g31, W61), (one g_a0, W61), (one g57, W61), (one g9, W13), (Sa0_0, w), (one g_a1, w)] := M115.front [(Fr, w), (one g31, W61), (one g_a0, W61), (one g57, W61), (one g9, W13), (Sa0_0, w), (one g_a1, w)] rfl
        have M117 : Mem W61 [(one g_a1, w), (Sa1_0, w), (Fr, w), (one g31, W61), (one g_a0, W61), (one g57, W61), (one g9, W13), (Sa0_0, w)] := M116.front [(Sa1_0, w), (Fr, w), (one g31, W61), (one g_a0, W61), (one g57, W61), (one g9, W13), (Sa0_0, w)] rfl
        have M118 : Mem W61 [(Sa0_0, w), (one g_a1, w), (Sa1_0, w), (Fr, w), (one g31, W61), (one g_a0, W61), (one g57, W61), (one g9, W13)] := M117.front [(one g_a1, w), (Sa1_0, w), (Fr, w), (one g31, W61), (one g_a0, W61), (one g57, W61), (one g9, W13)] rfl
        have M119 : Mem W61 [(one g_a0, W61), (Sa0_0, w), (one g_a1, w), (Sa1_0, w), (Fr, w), (one g31, W61), (one g57, W61), (one g9, W13)] := M118.front [(Sa0_0, w), (one g_a1, w), (Sa1_0, w), (Fr, w), (one g31, W61)] rfl
        have M120 : Mem W61 [(one g9, W13), (one g_a0, W61), (Sa0_0, w), (one g_a1, w), (Sa1_0, w), (Fr, w), (one g31, W61), (one g57, W61)] := M119.front [(one g_a0, W61), (Sa0_0, w), (one g_a1, w), (Sa1_0, w), (Fr, w), (one g31, W61), (one g57, W61)] rfl
        have M121 : Mem W61 [(one g31, W61), (one g9, W13), (one g_a0, W61), (Sa0_0, w), (one g_a1, w), (Sa1_0, w), (Fr, w), (one g57, W61)] := M120.front [(one g9, W13), (one g_a0, W61), (Sa0_0, w), (one g_a1, w), (Sa1_0, w), (Fr, w)] rfl
        have M122 : Mem W61 [(one g31, W61), (one g9, W13), (one g_a0, W61), (Sa0_0, w), (one g_a1, w), (Sa1_0, w), (Fr, w)] := M121.sub (List.prefix_append [(one g31, W61), (one g9, W13), (one g_a0, W61), (Sa0_0, w), (one g_a1, w), (Sa1_0, w), (Fr, w)] [(one g57, W61)]).sublist
        exact ⟨false, 0, r51.2.2, _, updL_same _ _ ⟨rfl, rfl, rfl, rfl, rfl, trivial⟩, M122, B55.now (M111.agree 0 rfl), B36.now (M113.agree 0 rfl), H⟩
    · rintro _ W43 ⟨x38, x39, x40, ρ45, rfl, M44, B41, B42, H47⟩
      rw [plan_reader_step.j0] at H47
      refine WC_cut (fun ρ w_ => ∃ (x123 : Str) (x124 : Int) (x125 : Int) (ρ0 : Nat → Value), ρ = updL ρ0 [(1, .pointer (some ⟨g_a1, 0, none⟩)), (4, .bool x38), (5, .bool r3.2.1), (7, .pointer (some ⟨g31, 0, none⟩))] ∧ Mem w_ [(one g31, w_), (one g9, W13), (one g_a0, w_), (Sa0_0, w), (one g_a1, w_), (Sa1_0, w), (Fr, w)] ∧ Bx w_ g_a0 [.slice Aa0_0 a0.words_.length ca0_0, .int .i64 x124, .int .i64 a0.end_] 63 ∧ Bx w_ g_a1 [.string (sv a1.Name), .int .i64 x125, .slice Aa1_0 a1.Steps.length ca1_0] 24 ∧ Bx w_ g31 [.string (sv r3.1.Text), .string (sv x123), .int .i64 x39] 44 ∧ plan_reader_step.j1 a0 a1 r3 x38 x39 x123 x124 x125 = some r) ?_ ?_
      · refine WC_seq ?_
        refine WC_region ?_
        refine WL_of (L_move rfl rfl (.pointer (some ⟨g_a0, 0, none⟩)) rfl ?_)
        have hs134 := ha0_0.sr
        have M135 : Mem W43 [(one g_a0, W43), (one g31, W43), (one g9, W13), (Sa0_0, w), (one g_a1, w), (Sa1_0, w), (Fr, w)] := M44.front [(one g31, W43), (one g9, W13)] rfl
        have M136 : Mem W43 [(one g31, W43), (one g9, W13), (Sa0_0, w), (one g_a1, w), (Sa1_0, w), (Fr, w)] := M135.drop
        obtain ⟨r137, hr138, H47⟩ := bindS H47
        refine WL_of (L_call' rfl rfl cf36 [.pointer (some ⟨g_a0, 0, none⟩), .int .i64 4, .string (sv (lit [126]))] rfl (plan_reader_take_ok (⟨a0.words_, x40, a0.end_⟩ : plan_reader) g_a0 Aa0_0 ca0_0 4 (lit [126]) r137 _ (Un [(one g31, W43), (one g9, W13), (Sa0_0, w), (one g_a1, w), (Sa1_0, w), (Fr, w)]) (hG.call M136 5 rfl) M135.lend ((hs134.agree (M136.agree 2 rfl) (fun _ h => h.elim)).sub (Un.at 2 rfl) (fun _ h => h.elim)) (B41.now (M135.agree 0 rfl)) hr138) ?_)
        rintro _ W139 ⟨rfl, M140, B141⟩
        have M142 : Mem W139 [(one g_a0, W139), (one g31, W43), (one g9, W13), (Sa0_0, w), (one g_a1, w), (Sa1_0, w), (Fr, w)] := M136.back (New := [(one g_a0, W139)]) M140
        refine WL_of (L_move rfl rfl (.tuple #[.agg #[.int .i64 r137.1.Kind, .int .i64 r137.1.At, .string (sv r137.1.Text), .int .i64 r137.1.Num], .bool r137.2.1]) rfl ?_)
        refine WL_of (L_extract rfl rfl [.agg #[.int .i64 r137.1.Kind, .int .i64 r137.1.At, .string (sv r137.1.Text), .int .i64 r137.1.Num], .bool r137.2.1] rfl (.agg #[.int .i64 r137.1.Kind, .int .i64 r137.1.At, .string (sv r137.1.Text), .int .i64 r137.1.Num]) rfl ?_)
        refine WL_of (L_extract rfl rfl [.agg #[.int .i64 r137.1.Kind, .int .i64 r137.1.At, .string (sv r137.1.Text), .int .i64 r137.1.Num], .bool r137.2.1] rfl (.bool r137.2.1) rfl ?_)
        refine WL_of (L_alloc M142 rfl rfl zr88 [.int .i64 0, .int .i64 0, .string (sv (lit [])), .int .i64 0] rfl ?_)
        intro g143 W144 B145 M146
        refine WL_of (L_store M146 rfl (.agg #[.int .i64 r137.1.Kind, .int .i64 r137.1.At, .string (sv r137.1.Text), .int .i64 r137.1.Num]) rfl [.int .i64 r137.1.Kind, .int .i64 r137.1.At, .string (sv r137.1.Text), .int .i64 r137.1.Num] rfl 4 sz88 rfl rfl rfl B145 rfl rfl [.int .i64 r137.1.Kind, .int .i64 r137.1.At, .string (sv r137.1.Text), .int .i64 r137.1.Num] rfl ?_)
        intro W147 B148 M149
        refine WL_of (L_assign rfl rfl (.bool r137.2.1) rfl ?_)
        refine WL_nil ?_
        refine thenN ?_
        refine WC_seq ?_
        refine WC_region ?_
        refine WL_of (L_move rfl rfl (.bool r137.2.1) rfl ?_)
        refine WL_nil ?_
        refine thenN ?_
        refine WC_ifb rfl (fun c150 => ?_) (fun c150 => ?_)
        · replace H47 := ifP c150 H47
          refine WC_seq ?_
          refine WC_region ?_
          refine WL_of (L_move rfl rfl (.pointer (some ⟨g_a0, 0, none⟩)) rfl ?_)
          have hs151 := ha0_0.sr
          have M152 : Mem W147 [(one g_a0, W139), (one g143, W147), (one g31, W43), (one g9, W13), (Sa0_0, w), (one g_a1, w), (Sa1_0, w), (Fr, w)] := M149.front [(one g143, W147)] rfl
          have M153 : Mem W147 [(one g143, W147), (one g31, W43), (one g9, W13), (Sa0_0, w), (one g_a1, w), (Sa1_0, w), (Fr, w)] := M152.drop
          obtain ⟨r154, hr155, H47⟩ := bindS H47
          refine WL_of (L_call' rfl rfl cf36 [.pointer (some ⟨g_a0, 0, none⟩), .int .i64 1, .string (sv (lit []))] rfl (plan_reader_take_ok (⟨a0.words_, r137.2.2, a0.end_⟩ : plan_reader) g_a0 Aa0_0 ca0_0 1 (lit []) r154 _ (Un [(one g143, W147), (one g31, W43), (one g9, W13), (Sa0_0, w), (one g_a1, w), (Sa1_0, w), (Fr, w)]) (hG.call M153 6 rfl) M152.lend ((hs151.agree (M153.agree 3 rfl) (fun _ h => h.elim)).sub (Un.at 3 rfl) (fun _ h => h.elim)) (B141.now (M152.agree 0 rfl)) hr155) ?_)
          rintro _ W156 ⟨rfl, M157, B158⟩
          have M159 : Mem W156 [(one g_a0, W156), (one g143, W147), (one g31, W43), (one g9, W13), (Sa0_0, w), (one g_a1, w), (Sa1_0, w), (Fr, w)] := M153.back (New := [(one g_a0, W156)]) M157
          refine WL_of (L_move rfl rfl (.tuple #[.agg #[.int .i64 r154.1.Kind, .int .i64 r154.1.At, .string (sv r154.1.Text), .int .i64 r154.1.Num], .bool r154.2.1]) rfl ?_)
          refine WL_of (L_extract rfl rfl [.agg #[.int .i64 r154.1.Kind, .int .i64 r154.1.At, .string (sv r154.1.Text), .int .i64 r154.1.Num], .bool r154.2.1] rfl (.agg #[.int .i64 r154.1.Kind, .int .i64 r154.1.At, .string (sv r154.1.Text), .int .i64 r154.1.Num]) rfl ?_)
          refine WL_of (L_extract rfl rfl [.agg #[.int .i64 r154.1.Kind, .int .i64 r154.1.At, .string (sv r154.1.Text), .int .i64 r154.1.Num], .bool r154.2.1] rfl (.bool r154.2.1) rfl ?_)
          refine WL_of (L_alloc M159 rfl rfl zr88 [.int .i64 0, .int .i64 0, .string (sv (lit [])), .int .i64 0] rfl ?_)
          intro g160 W161 B162 M163
          refine WL_of (L_store M163 rfl (.agg #[.int .i64 r154.1.Kind, .int .i64 r154.1.At, .string (sv r154.1.Text), .int .i64 r154.1.Num]) rfl [.int .i64 r154.1.Kind, .int .i64 r154.1.At, .string (sv r154.1.Text), .int .i64 r154.1.Num] rfl 4 sz88 rfl rfl rfl B162 rfl rfl [.int .i64 r154.1.Kind, .int .i64 r154.1.At, .string (sv r154.1.Text), .int .i64 r154.1.Num] rfl ?_)
          intro W164 B165 M166
          refine WL_of (L_assign rfl rfl (.bool r154.2.1) rfl ?_)
          refine WL_nil ?_
          refine thenN ?_
          refine WC_seq ?_
          refine WC_seq ?_
          refine WC_region ?_
          refine WL_of (L_move rfl rfl (.bool r154.2.1) rfl ?_)
          refine WL_of (L_not rfl rfl r154.2.1 rfl ?_)
          refine WL_nil ?_
          refine thenN ?_
          refine WC_ifb rfl (fun c167 => ?_) (fun c167 => ?_)
          · replace H47 := ifP c167 H47
            refine WC_seq ?_
            refine WC_region ?_
            refine WL_of (L_assign rfl rfl (.bool false) rfl ?_)
            refine WL_of (L_assign rfl rfl (.bool false) rfl ?_)
            refine WL_nil ?_
            refine thenN ?_
            refine WC_ret ?_
            refine thenR ?_
            refine thenR ?_
            obtain rfl := someE H47
            have M168 : Mem W164 [(Sa0_0, w), (one g160, W164), (one g_a0, W156), (one g143, W147), (one g31, W43), (one g9, W13), (one g_a1, w), (Sa1_0, w), (Fr, w)] := M166.front [(one g160, W164), (one g_a0, W156), (one g143, W147), (one g31, W43), (one g9, W13)] rfl
            have M169 : Mem W164 [(Sa0_0, W164), (one g160, W164), (one g_a0, W156), (one g143, W147), (one g31, W43), (one g9, W13), (one g_a1, w), (Sa1_0, w), (Fr, w)] := M168.rebase
            have M170 : Mem W164 [(Sa1_0, w), (Sa0_0, W164), (one g160, W164), (one g_a0, W156), (one g143, W147), (one g31, W43), (one g9, W13), (one g_a1, w), (Fr, w)] := M169.front [(Sa0_0, W164), (one g160, W164), (one g_a0, W156), (one g143, W147), (one g31, W43), (one g9, W13), (one g_a1, w)] rfl
            have M171 : Mem W164 [(Sa1_0, W164), (Sa0_0, W164), (one g160, W164), (one g_a0, W156), (one g143, W147), (one g31, W43), (one g9, W13), (one g_a1, w), (Fr, w)] := M170.rebase
            have M172 : Mem W164 [(one g_a0, W156), (Sa1_0, W164), (Sa0_0, W164), (one g160, W164), (one g143, W147), (one g31, W43), (one g9, W13), (one g_a1, w), (Fr, w)] := M171.front [(Sa1_0, W164), (Sa0_0, W164), (one g160, W164)] rfl
            have M173 : Mem W164 [(one g_a0, W164), (Sa1_0, W164), (Sa0_0, W164), (one g160, W164), (one g143, W147), (one g31, W43), (one g9, W13), (one g_a1, w), (Fr, w)] := M172.rebase
            have M174 : Mem W164 [(one g_a1, w), (one g_a0, W164), (Sa1_0, W164), (Sa0_0, W164), (one g160, W164), (one g143, W147), (one g31, W43), (one g9, W13), (Fr, w)] := M173.front [(one g_a0, W164), (Sa1_0, W164), (Sa0_0, W164), (one g160, W164), (one g143, W147), (one g31, W43), (one g9, W13)] rfl
            have M175 : Mem W164 [(one g_a1, W164), (one g_a0, W164), (Sa1_0, W164), (Sa0_0, W164), (one g160, W164), (one g143, W147), (one g31, W43), (one g9, W13), (Fr, w)] := M174.rebase
            have M176 : Mem W164 [(Fr, w), (one g_a1, W164), (one g_a0, W164), (Sa1_0, W164), (Sa0_0, W164), (one g160, W164), (one g143, W147), (one g31, W43), (one g9, W13)] := M175.front [(one g_a1, W164), (one g_a0, W164), (Sa1_0, W164), (Sa0_0, W164), (one g160, W164), (one g143, W147), (one g31, W43), (one g9, W13)] rfl
            have M177 : Mem W164 [(one g_a1, W164), (Fr, w), (one g_a0, W164), (Sa1_0, W164), (Sa0_0, W164), (one g160, W164), (one g143, W147), (one g31, W43), (one g9, W13)] := M176.front [(Fr, w)] rfl
            have M178 : Mem W164 [(one g_a0, W164), (one g_a1, W164), (Fr, w), (Sa1_0, W164), (Sa0_0, W164), (one g160, W164), (one g143, W147), (one g31, W43), (one g9, W13)] := M177.front [(one g_a1, W164), (Fr, w)] rfl
            have M179 : Mem W164 [(Sa1_0, W164), (one g_a0, W164), (one g_a1, W164), (Fr, w), (Sa0_0, W164), (one g160, W164), (one g143, W147), (one g31, W43), (one g9, W13)] := M178.front [(one g_a0, W164), (one g_a1, W164), (Fr, w)] rfl
            have M180 : Mem W164 [(Sa0_0, W164), (Sa1_0, W164), (one g_a0, W164), (one g_a1, W164), (Fr, w), (one g160, W164), (one g143, W147), (one g31, W43), (one g9, W13)] := M179.front [(Sa1_0, W164), (one g_a0, W164), (one g_a1, W164), (Fr, w)] rfl
            have M181 : Mem W164 [(Sa0_0, W164), (Sa1_0, W164), (one g_a0, W164), (one g_a1, W164), (Fr, w)] := M180.sub (List.prefix_append [(Sa0_0, W164), (Sa1_0, W164), (one g_a0, W164), (one g_a1, W164), (Fr, w)] [(one g160, W164), (one g143, W147), (one g31, W43), (one g9, W13)]).sublist
            refine retR [.bool false, .bool false] ⟨rfl, rfl, trivial⟩ ?_
            exact ⟨Aa0_0, ca0_0, Sa0_0, Aa1_0, ca1_0, Sa1_0, rfl, M181, (ha0_0.agree (M168.agree 0 rfl)).map (fun _ _ h => h), (ha1_0.agree (M170.agree 0 rfl)).map (fun _ _ h => h), B158.now (M172.agree 0 rfl), hB_a1.now (M174.agree 0 rfl)⟩
          · replace H47 := ifN (by rw [c167]; simp) H47
            refine WC_skip ?_
            refine thenN ?_
            refine WC_region ?_
            refine WL_of (L_field rfl rfl fd88_2 ⟨g160, 0, none⟩ rfl ?_)
            refine WL_of (L_load1 rfl rfl Tryd.underlying9 rfl B165.el (M166.agree 0 rfl) 2 rfl (.string (sv r154.1.Text)) rfl ?_)
            refine WL_of (L_field rfl rfl fd44_1 ⟨g31, 0, none⟩ rfl ?_)
            have M182 : Mem W164 [(one g31, W43), (one g160, W164), (one g_a0, W156), (one g143, W147), (one g9, W13), (Sa0_0, w), (one g_a1, w), (Sa1_0, w), (Fr, w)] := M166.front [(one g160, W164), (one g_a0, W156), (one g143, W147)] rfl
            refine WL_of (L_store M182 rfl (.string (sv r154.1.Text)) rfl [.string (sv r154.1.Text)] rfl 1 sz9 rfl rfl rfl B42 rfl rfl [.string (sv r3.1.Text), .string (sv r154.1.Text), .int .i64 x39] rfl ?_)
            intro W183 B184 M185
            refine WL_nil ?_
            refine thenN ?_
            have M186 : Mem W183 [(one g_a0, W156), (one g31, W183), (one g160, W164), (one g143, W147), (one g9, W13), (Sa0_0, w), (one g_a1, w), (Sa1_0, w), (Fr, w)] := M185.front [(one g31, W183), (one g160, W164)] rfl
            have M187 : Mem W183 [(one g_a0, W183), (one g31, W183), (one g160, W164), (one g143, W147), (one g9, W13), (Sa0_0, w), (one g_a1, w), (Sa1_0, w), (Fr, w)] := M186.rebase
            have M188 : Mem W183 [(one g_a1, w), (one g_a0, W183), (one g31, W183), (one g160, W164), (one g143, W147), (one g9, W13), (Sa0_0, w), (Sa1_0, w), (Fr, w)] := M187.front [(one g_a0, W183), (one g31, W183), (one g160, W164), (one g143, W147), (one g9, W13), (Sa0_0, w)] rfl
            have M189 : Mem W183 [(one g_a1, W183), (one g_a0, W183), (one g31, W183), (one g160, W164), (one g143, W147), (one g9, W13), (Sa0_0, w), (Sa1_0, w), (Fr, w)] := M188.rebase
            have M190 : Mem W183 [(one g31, W183), (one g_a1, W183), (one g_a0, W183), (one g160, W164), (one g143, W147), (one g9, W13), (Sa0_0, w), (Sa1_0, w), (Fr, w)] := M189.front [(one g_a1, W183), (one g_a0, W183)] rfl
            have M191 : Mem W183 [(Fr, w), (one g31, W183), (one g_a1, W183), (one g_a0, W183), (one g160, W164), (one g143, W147), (one g9, W13), (Sa0_0, w), (Sa1_0, w)] := M190.front [(one g31, W183), (one g_a1, W183), (one g_a0, W183), (one g160, W164), (one g143, W147), (one g9, W13), (Sa0_0, w), (Sa1_0, w)] rfl
            have M192 : Mem W183 [(Sa1_0, w), (Fr, w), (one g31, W183), (one g_a1, W183), (one g_a0, W183), (one g160, W164), (one g143, W147), (one g9, W13), (Sa0_0, w)] := M191.front [(Fr, w), (one g31, W183), (one g_a1, W183), (one g_a0, W183), (one g160, W164), (one g143, W147), (one g9, W13), (Sa0_0, w)] rfl
            have M193 : Mem W183 [(one g_a1, W183), (Sa1_0, w), (Fr, w), (one g31, W183), (one g_a0, W183), (one g160, W164), (one g143, W147), (one g9, W13), (Sa0_0, w)] := M192.front [(Sa1_0, w), (Fr, w), (one g31, W183)] rfl
            have M194 : Mem W183 [(Sa0_0, w), (one g_a1, W183), (Sa1_0, w), (Fr, w), (one g31, W183), (one g_a0, W183), (one g160, W164), (one g143, W147), (one g9, W13)] := M193.front [(one g_a1, W183), (Sa1_0, w), (Fr, w), (one g31, W183), (one g_a0, W183), (one g160, W164), (one g143, W147), (one g9, W13)] rfl
            have M195 : Mem W183 [(one g_a0, W183), (Sa0_0, w), (one g_a1, W183), (Sa1_0, w), (Fr, w), (one g31, W183), (one g160, W164), (one g143, W147), (one g9, W13)] := M194.front [(Sa0_0, w), (one g_a1, W183), (Sa1_0, w), (Fr, w), (one g31, W183)] rfl
            have M196 : Mem W183 [(one g9, W13), (one g_a0, W183), (Sa0_0, w), (one g_a1, W183), (Sa1_0, w), (Fr, w), (one g31, W183), (one g160, W164), (one g143, W147)] := M195.front [(one g_a0, W183), (Sa0_0, w), (one g_a1, W183), (Sa1_0, w), (Fr, w), (one g31, W183), (one g160, W164), (one g143, W147)] rfl
            have M197 : Mem W183 [(one g31, W183), (one g9, W13), (one g_a0, W183), (Sa0_0, w), (one g_a1, W183), (Sa1_0, w), (Fr, w), (one g160, W164), (one g143, W147)] := M196.front [(one g9, W13), (one g_a0, W183), (Sa0_0, w), (one g_a1, W183), (Sa1_0, w), (Fr, w)] rfl
            have M198 : Mem W183 [(one g31, W183), (one g9, W13), (one g_a0, W183), (Sa0_0, w), (one g_a1, W183), (Sa1_0, w), (Fr, w)] := M197.sub (List.prefix_append [(one g31, W183), (one g9, W13), (one g_a0, W183), (Sa0_0, w), (one g_a1, W183), (Sa1_0, w), (Fr, w)] [(one g160, W164), (one g143, W147)]).sublist
            exact ⟨r154.1.Text, r154.2.2, a1.Pivot, _, updL_same _ _ ⟨rfl, rfl, rfl, rfl, trivial⟩, M198, B158.now (M186.agree 0 rfl), hB_a1.now (M188.agree 0 rfl), B184, H47⟩
        · replace H47 := ifN (by rw [c150]; simp) H47
          refine WC_seq ?_
          refine WC_region ?_
          refine WL_of (L_move rfl rfl (.pointer (some ⟨g_a1, 0, none⟩)) rfl ?_)
          refine WL_of (L_nilCheck rfl rfl ⟨g_a1, 0, none⟩ rfl ?_)
          refine WL_of (L_field rfl rfl fd24_1 ⟨g_a1, 0, none⟩ rfl ?_)
          refine WL_of (L_load1 rfl rfl Tryd.underlying3 rfl hB_a1.el (M149.agree 5 rfl) 1 rfl (.int .i64 a1.Pivot) rfl ?_)
          refine WL_of (L_bin rfl rfl (.int .i64 a1.Pivot) (.int .i64 0) rfl rfl (.bool (decide ((a1.Pivot : Int) = 0))) (B_eql _ _ _ _ a1.Pivot 0) ?_)
          refine WL_nil ?_
          refine thenN ?_
          refine WC_if (p := (a1.Pivot : Int) = 0) rfl (fun c199 => ?_) (fun c199 => ?_)
          · replace H47 := ifP c199 H47
            refine WC_seq ?_
            refine WC_region ?_
            refine WL_of (L_move rfl rfl (.pointer (some ⟨g_a0, 0, none⟩)) rfl ?_)
            have hs200 := ha0_0.sr
            have M201 : Mem W147 [(one g_a0, W139), (one g143, W147), (one g31, W43), (one g9, W13), (Sa0_0, w), (one g_a1, w), (Sa1_0, w), (Fr, w)] := M149.front [(one g143, W147)] rfl
            have M202 : Mem W147 [(one g143, W147), (one g31, W43), (one g9, W13), (Sa0_0, w), (one g_a1, w), (Sa1_0, w), (Fr, w)] := M201.drop
            obtain ⟨r203, hr204, H47⟩ := bindS H47
            refine WL_of (L_call' rfl rfl cf36 [.pointer (some ⟨g_a0, 0, none⟩), .int .i64 4, .string (sv (lit [33]))] rfl (plan_reader_take_ok (⟨a0.words_, r137.2.2, a0.end_⟩ : plan_reader) g_a0 Aa0_0 ca0_0 4 (lit [33]) r203 _ (Un [(one g143, W147), (one g31, W43), (one g9, W13), (Sa0_0, w), (one g_a1, w), (Sa1_0, w), (Fr, w)]) (hG.call M202 6 rfl) M201.lend ((hs200.agree (M202.agree 3 rfl) (fun _ h => h.elim)).sub (Un.at 3 rfl) (fun _ h => h.elim)) (B141.now (M201.agree 0 rfl)) hr204) ?_)
            rintro _ W205 ⟨rfl, M206, B207⟩
            have M208 : Mem W205 [(one g_a0, W205), (one g143, W147), (one g31, W43), (one g9, W13), (Sa0_0, w), (one g_a1, w), (Sa1_0, w), (Fr, w)] := M202.back (New := [(one g_a0, W205)]) M206
            refine WL_of (L_move rfl rfl (.tuple #[.agg #[.int .i64 r203.1.Kind, .int .i64 r203.1.At, .string (sv r203.1.Text), .int .i64 r203.1.Num], .bool r203.2.1]) rfl ?_)
            refine WL_of (L_extract rfl rfl [.agg #[.int .i64 r203.1.Kind, .int .i64 r203.1.At, .string (sv r203.1.Text), .int .i64 r203.1.Num], .bool r203.2.1] rfl (.agg #[.int .i64 r203.1.Kind, .int .i64 r203.1.At, .string (sv r203.1.Text), .int .i64 r203.1.Num]) rfl ?_)
            refine WL_of (L_extract rfl rfl [.agg #[.int .i64 r203.1.Kind, .int .i64 r203.1.At, .string (sv r203.1.Text), .int .i64 r203.1.Num], .bool r203.2.1] rfl (.bool r203.2.1) rfl ?_)
            refine WL_of (L_alloc M208 rfl rfl zr88 [.int .i64 0, .int .i64 0, .string (sv (lit [])), .int .i64 0] rfl ?_)
            intro g209 W210 B211 M212
            refine WL_of (L_store M212 rfl (.agg #[.int .i64 r203.1.Kind, .int .i64 r203.1.At, .string (sv r203.1.Text), .int .i64 r203.1.Num]) rfl [.int .i64 r203.1.Kind, .int .i64 r203.1.At, .string (sv r203.1.Text), .int .i64 r203.1.Num] rfl 4 sz88 rfl rfl rfl B211 rfl rfl [.int .i64 r203.1.Kind, .int .i64 r203.1.At, .string (sv r203.1.Text), .int .i64 r203.1.Num] rfl ?_)
            intro W213 B214 M215
            refine WL_of (L_assign rfl rfl (.bool r203.2.1) rfl ?_)
            refine WL_nil ?_
            refine thenN ?_
            refine WC_seq ?_
            refine WC_region ?_
            refine WL_of (L_move rfl rfl (.bool r203.2.1) rfl ?_)
            refine WL_nil ?_
            refine thenN ?_
            refine WC_ifb rfl (fun c216 => ?_) (fun c216 => ?_)
            · replace H47 := ifP c216 H47
              refine WC_region ?_
              refine WL_of (L_move rfl rfl (.pointer (some ⟨g_a1, 0, none⟩)) rfl ?_)
              refine WL_of (L_move rfl rfl (.pointer (some ⟨g_a1, 0, none⟩)) rfl ?_)
              refine WL_of (L_nilCheck rfl rfl ⟨g_a1, 0, none⟩ rfl ?_)
              refine WL_of (L_field rfl rfl fd24_2 ⟨g_a1, 0, none⟩ rfl ?_)
              refine WL_of (L_load1 rfl rfl Tryd.underlying22 rfl hB_a1.el (M215.agree 6 rfl) 2 rfl (.slice Aa1_0 a1.Steps.length ca1_0) rfl ?_)
              refine WL_of (L_len rfl rfl (.slice Aa1_0 a1.Steps.length ca1_0) rfl (a1.Steps.length) (N_slice Tryd.underlying22 _ _ _) ?_)
              refine WL_of (L_bin rfl rfl (.int .i64 (a1.Steps.length : Int)) (.int .i64 1) rfl rfl (.int .i64 (wrap64 ((a1.Steps.length : Int) + 1))) (B_add _ _ _ (a1.Steps.length : Int) 1) ?_)
              refine WL_of (L_nilCheck rfl rfl ⟨g_a1, 0, none⟩ rfl ?_)
              refine WL_of (L_field rfl rfl fd24_1 ⟨g_a1, 0, none⟩ rfl ?_)
              have M217 : Mem W213 [(one g_a1, w), (one g209, W213), (one g_a0, W205), (one g143, W147), (one g31, W43), (one g9, W13), (Sa0_0, w), (Sa1_0, w), (Fr, w)] := M215.front [(one g209, W213), (one g_a0, W205), (one g143, W147), (one g31, W43), (one g9, W13), (Sa0_0, w)] rfl
              refine WL_of (L_store M217 rfl (.int .i64 (wrap64 ((a1.Steps.length : Int) + 1))) rfl [.int .i64 (wrap64 ((a1.Steps.length : Int) + 1))] rfl 1 sz3 rfl rfl rfl hB_a1 rfl rfl [.string (sv a1.Name), .int .i64 (wrap64 ((a1.Steps.length : Int) + 1)), .slice Aa1_0 a1.Steps.length ca1_0] rfl ?_)
              intro W218 B219 M220
              refine WL_nil ?_
              refine thenN ?_
              have M221 : Mem W218 [(one g_a0, W205), (one g_a1, W218), (one g209, W213), (one g143, W147), (one g31, W43), (one g9, W13), (Sa0_0, w), (Sa1_0, w), (Fr, w)] := M220.front [(one g_a1, W218), (one g209, W213)] rfl
              have M222 : Mem W218 [(one g_a0, W218), (one g_a1, W218), (one g209, W213), (one g143, W147), (one g31, W43), (one g9, W13), (Sa0_0, w), (Sa1_0, w), (Fr, w)] := M221.rebase
              have M223 : Mem W218 [(one g_a1, W218), (one g_a0, W218), (one g209, W213), (one g143, W147), (one g31, W43), (one g9, W13), (Sa0_0, w), (Sa1_0, w), (Fr, w)] := M222.front [(one g_a0, W218)] rfl
              have M224 : Mem W218 [(one g31, W43), (one g_a1, W218), (one g_a0, W218), (one g209, W213), (one g143, W147), (one g9, W13), (Sa0_0, w), (Sa1_0, w), (Fr, w)] := M223.front [(one g_a1, W218), (one g_a0, W218), (one g209, W213), (one g143, W147)] rfl
              have M225 : Mem W218 [(one g31, W218), (one g_a1, W218), (one g_a0, W218), (one g209, W213), (one g143, W147), (one g9, W13), (Sa0_0, w), (Sa1_0, w), (Fr, w)] := M224.rebase
              have M226 : Mem W218 [(Fr, w), (one g31, W218), (one g_a1, W218), (one g_a0, W218), (one g209, W213), (one g143, W147), (one g9, W13), (Sa0_0, w), (Sa1_0, w)] := M225.front [(one g31, W218), (one g_a1, W218), (one g_a0, W218), (one g209, W213), (one g143, W147), (one g9, W13), (Sa0_0, w), (Sa1_0, w)] rfl
              have M227 : Mem W218 [(Sa1_0, w), (Fr, w), (one g31, W218), (one g_a1, W218), (one g_a0, W218), (one g209, W213), (one g143, W147), (one g9, W13), (Sa0_0, w)] := M226.front [(Fr, w), (one g31, W218), (one g_a1, W218), (one g_a0, W218), (one g209, W213), (one g143, W147), (one g9, W13), (Sa0_0, w)] rfl
              have M228 : Mem W218 [(one g_a1, W218), (Sa1_0, w), (Fr, w), (one g31, W218), (one g_a0, W218), (one g209, W213), (one g143, W147), (one g9, W13), (Sa0_0, w)] := M227.front [(Sa1_0, w), (Fr, w), (one g31, W218)] rfl
              have M229 : Mem W218 [(Sa0_0, w), (one g_a1, W218), (Sa1_0, w), (Fr, w), (one g31, W218), (one g_a0, W218), (one g209, W213), (one g143, W147), (one g9, W13)] := M228.front [(one g_a1, W218), (Sa1_0, w), (Fr, w), (one g31, W218), (one g_a0, W218), (one g209, W213), (one g143, W147), (one g9, W13)] rfl
              have M230 : Mem W218 [(one g_a0, W218), (Sa0_0, w), (one g_a1, W218), (Sa1_0, w), (Fr, w), (one g31, W218), (one g209, W213), (one g143, W147), (one g9, W13)] := M229.front [(Sa0_0, w), (one g_a1, W218), (Sa1_0, w), (Fr, w), (one g31, W218)] rfl
              have M231 : Mem W218 [(one g9, W13), (one g_a0, W218), (Sa0_0, w), (one g_a1, W218), (Sa1_0, w), (Fr, w), (one g31, W218), (one g209, W213), (one g143, W147)] := M230.front [(one g_a0, W218), (Sa0_0, w), (one g_a1, W218), (Sa1_0, w), (Fr, w), (one g31, W218), (one g209, W213), (one g143, W147)] rfl
              have M232 : Mem W218 [(one g31, W218), (one g9, W13), (one g_a0, W218), (Sa0_0, w), (one g_a1, W218), (Sa1_0, w), (Fr, w), (one g209, W213), (one g143, W147)] := M231.front [(one g9, W13), (one g_a0, W218), (Sa0_0, w), (one g_a1, W218), (Sa1_0, w), (Fr, w)] rfl
              have M233 : Mem W218 [(one g31, W218), (one g9, W13), (one g_a0, W218), (Sa0_0, w), (one g_a1, W218), (Sa1_0, w), (Fr, w)] := M232.sub (List.prefix_append [(one g31, W218), (one g9, W13), (one g_a0, W218), (Sa0_0, w), (one g_a1, W218), (Sa1_0, w), (Fr, w)] [(one g209, W213), (one g143, W147)]).sublist
              exact ⟨(lit []), r203.2.2, wrap64 ((a1.Steps.length : Int) + 1), _, updL_same _ _ ⟨rfl, rfl, rfl, rfl, trivial⟩, M233, B207.now (M221.agree 0 rfl), B219, B42.now (M224.agree 0 rfl), H47⟩
            · replace H47 := ifN (by rw [c216]; simp) H47
              refine WC_skip ?_
              refine thenN ?_
              have M234 : Mem W213 [(one g_a0, W205), (one g209, W213), (one g143, W147), (one g31, W43), (one g9, W13), (Sa0_0, w), (one g_a1, w), (Sa1_0, w), (Fr, w)] := M215.front [(one g209, W213)] rfl
              have M235 : Mem W213 [(one g_a0, W213), (one g209, W213), (one g143, W147), (one g31, W43), (one g9, W13), (Sa0_0, w), (one g_a1, w), (Sa1_0, w), (Fr, w)] := M234.rebase
              have M236 : Mem W213 [(one g_a1, w), (one g_a0, W213), (one g209, W213), (one g143, W147), (one g31, W43), (one g9, W13), (Sa0_0, w), (Sa1_0, w), (Fr, w)] := M235.front [(one g_a0, W213), (one g209, W213), (one g143, W147), (one g31, W43), (one g9, W13), (Sa0_0, w)] rfl
              have M237 : Mem W213 [(one g_a1, W213), (one g_a0, W213), (one g209, W213), (one g143, W147), (one g31, W43), (one g9, W13), (Sa0_0, w), (Sa1_0, w), (Fr, w)] := M236.rebase
              have M238 : Mem W213 [(one g31, W43), (one g_a1, W213), (one g_a0, W213), (one g209, W213), (one g143, W147), (one g9, W13), (Sa0_0, w), (Sa1_0, w), (Fr, w)] := M237.front [(one g_a1, W213), (one g_a0, W213), (one g209, W213), (one g143, W147)] rfl
              have M239 : Mem W213 [(one g31, W213), (one g_a1, W213), (one g_a0, W213), (one g209, W213), (one g143, W147), (one g9, W13), (Sa0_0, w), (Sa1_0, w), (Fr, w)] := M238.rebase
              have M240 : Mem W213 [(Fr, w), (one g31, W213), (one g_a1, W213), (one g_a0, W213), (one g209, W213), (one g143, W147), (one g9, W13), (Sa0_0, w), (Sa1_0, w)] := M239.front [(one g31, W213), (one g_a1, W213), (one g_a0, W213), (one g209, W213), (one g143, W147), (one g9, W13), (Sa0_0, w), (Sa1_0, w)] rfl
              have M241 : Mem W213 [(Sa1_0, w), (Fr, w), (one g31, W213), (one g_a1, W213), (one g_a0, W213), (one g209, W213), (one g143, W147), (one g9, W13), (Sa0_0, w)] := M240.front [(Fr, w), (one g31, W213), (one g_a1, W213), (one g_a0, W213), (one g209, W213), (one g143, W147), (one g9, W13), (Sa0_0, w)] rfl
              have M242 : Mem W213 [(one g_a1, W213), (Sa1_0, w), (Fr, w), (one g31, W213), (one g_a0, W213), (one g209, W213), (one g143, W147), (one g9, W13), (Sa0_0, w)] := M241.front [(Sa1_0, w), (Fr, w), (one g31, W213)] rfl
              have M243 : Mem W213 [(Sa0_0, w), (one g_a1, W213), (Sa1_0, w), (Fr, w), (one g31, W213), (one g_a0, W213), (one g209, W213), (one g143, W147), (one g9, W13)] := M242.front [(one g_a1, W213), (Sa1_0, w), (Fr, w), (one g31, W213), (one g_a0, W213), (one g209, W213), (one g143, W147), (one g9, W13)] rfl
              have M244 : Mem W213 [(one g_a0, W213), (Sa0_0, w), (one g_a1, W213), (Sa1_0, w), (Fr, w), (one g31, W213), (one g209, W213), (one g143, W147), (one g9, W13)] := M243.front [(Sa0_0, w), (one g_a1, W213), (Sa1_0, w), (Fr, w), (one g31, W213)] rfl
              have M245 : Mem W213 [(one g9, W13), (one g_a0, W213), (Sa0_0, w), (one g_a1, W213), (Sa1_0, w), (Fr, w), (one g31, W213), (one g209, W213), (one g143, W147)] := M244.front [(one g_a0, W213), (Sa0_0, w), (one g_a1, W213), (Sa1_0, w), (Fr, w), (one g31, W213), (one g209, W213), (one g143, W147)] rfl
              have M246 : Mem W213 [(one g31, W213), (one g9, W13), (one g_a0, W213), (Sa0_0, w), (one g_a1, W213), (Sa1_0, w), (Fr, w), (one g209, W213), (one g143, W147)] := M245.front [(one g9, W13), (one g_a0, W213), (Sa0_0, w), (one g_a1, W213), (Sa1_0, w), (Fr, w)] rfl
              have M247 : Mem W213 [(one g31, W213), (one g9, W13), (one g_a0, W213), (Sa0_0, w), (one g_a1, W213), (Sa1_0, w), (Fr, w)] := M246.sub (List.prefix_append [(one g31, W213), (one g9, W13), (one g_a0, W213), (Sa0_0, w), (one g_a1, W213), (Sa1_0, w), (Fr, w)] [(one g209, W213), (one g143, W147)]).sublist
              exact ⟨(lit []), r203.2.2, a1.Pivot, _, updL_same _ _ ⟨rfl, rfl, rfl, rfl, trivial⟩, M247, B207.now (M234.agree 0 rfl), hB_a1.now (M236.agree 0 rfl), B42.now (M238.agree 0 rfl), H47⟩
          · replace H47 := ifN c199 H47
            refine WC_skip ?_
            refine thenN ?_
            have M248 : Mem W147 [(one g_a0, W139), (one g143, W147), (one g31, W43), (one g9, W13), (Sa0_0, w), (one g_a1, w), (Sa1_0, w), (Fr, w)] := M149.front [(one g143, W147)] rfl
            have M249 : Mem W147 [(one g_a0, W147), (one g143, W147), (one g31, W43), (one g9, W13), (Sa0_0, w), (one g_a1, w), (Sa1_0, w), (Fr, w)] := M248.rebase
            have M250 : Mem W147 [(one g_a1, w), (one g_a0, W147), (one g143, W147), (one g31, W43), (one g9, W13), (Sa0_0, w), (Sa1_0, w), (Fr, w)] := M249.front [(one g_a0, W147), (one g143, W147), (one g31, W43), (one g9, W13), (Sa0_0, w)] rfl
            have M251 : Mem W147 [(one g_a1, W147), (one g_a0, W147), (one g143, W147), (one g31, W43), (one g9, W13), (Sa0_0, w), (Sa1_0, w), (Fr, w)] := M250.rebase
            have M252 : Mem W147 [(one g31, W43), (one g_a1, W147), (one g_a0, W147), (one g143, W147), (one g9, W13), (Sa0_0, w), (Sa1_0, w), (Fr, w)] := M251.front [(one g_a1, W147), (one g_a0, W147), (one g143, W147)] rfl
            have M253 : Mem W147 [(one g31, W147), (one g_a1, W147), (one g_a0, W147), (one g143, W147), (one g9, W13), (Sa0_0, w), (Sa1_0, w), (Fr, w)] := M252.rebase
            have M254 : Mem W147 [(Fr, w), (one g31, W147), (one g_a1, W147), (one g_a0, W147), (one g143, W147), (one g9, W13), (Sa0_0, w), (Sa1_0, w)] := M253.front [(one g31, W147), (one g_a1, W147), (one g_a0, W147), (one g143, W147), (one g9, W13), (Sa0_0, w), (Sa1_0, w)] rfl
            have M255 : Mem W147 [(Sa1_0, w), (Fr, w), (one g31, W147), (one g_a1, W147), (one g_a0, W147), (one g143, W147), (one g9, W13), (Sa0_0, w)] := M254.front [(Fr, w), (one g31, W147), (one g_a1, W147), (one g_a0, W147), (one g143, W147), (one g9, W13), (Sa0_0, w)] rfl
            have M256 : Mem W147 [(one g_a1, W147), (Sa1_0, w), (Fr, w), (one g31, W147), (one g_a0, W147), (one g143, W147), (one g9, W13), (Sa0_0, w)] := M255.front [(Sa1_0, w), (Fr, w), (one g31, W147)] rfl
            have M257 : Mem W147 [(Sa0_0, w), (one g_a1, W147), (Sa1_0, w), (Fr, w), (one g31, W147), (one g_a0, W147), (one g143, W147), (one g9, W13)] := M256.front [(one g_a1, W147), (Sa1_0, w), (Fr, w), (one g31, W147), (one g_a0, W147), (one g143, W147), (one g9, W13)] rfl
            have M258 : Mem W147 [(one g_a0, W147), (Sa0_0, w), (one g_a1, W147), (Sa1_0, w), (Fr, w), (one g31, W147), (one g143, W147), (one g9, W13)] := M257.front [(Sa0_0, w), (one g_a1, W147), (Sa1_0, w), (Fr, w), (one g31, W147)] rfl
            have M259 : Mem W147 [(one g9, W13), (one g_a0, W147), (Sa0_0, w), (one g_a1, W147), (Sa1_0, w), (Fr, w), (one g31, W147), (one g143, W147)] := M258.front [(one g_a0, W147), (Sa0_0, w), (one g_a1, W147), (Sa1_0, w), (Fr, w), (one g31, W147), (one g143, W147)] rfl
            have M260 : Mem W147 [(one g31, W147), (one g9, W13), (one g_a0, W147), (Sa0_0, w), (one g_a1, W147), (Sa1_0, w), (Fr, w), (one g143, W147)] := M259.front [(one g9, W13), (one g_a0, W147), (Sa0_0, w), (one g_a1, W147), (Sa1_0, w), (Fr, w)] rfl
            have M261 : Mem W147 [(one g31, W147), (one g9, W13), (one g_a0, W147), (Sa0_0, w), (one g_a1, W147), (Sa1_0, w), (Fr, w)] := M260.sub (List.prefix_append [(one g31, W147), (one g9, W13), (one g_a0, W147), (Sa0_0, w), (one g_a1, W147), (Sa1_0, w), (Fr, w)] [(one g143, W147)]).sublist
            exact ⟨(lit []), r137.2.2, a1.Pivot, _, updL_same _ _ ⟨rfl, rfl, rfl, rfl, trivial⟩, M261, B141.now (M248.agree 0 rfl), hB_a1.now (M250.agree 0 rfl), B42.now (M252.agree 0 rfl), H47⟩
      · rintro _ W129 ⟨x123, x124, x125, ρ131, rfl, M130, B126, B127, B128, H133⟩
        rw [plan_reader_step.j1] at H133
        refine WC_seq ?_
        refine WD_start (n := 11) (fun w_ => Mem w_ [(one g31, W129), (one g9, W13), (one g_a0, W129), (one g_a1, W129), (Fr, w)]) [10] mixed rfl ?_
        have M262 := M130.drawn
        refine WD_take' 0 rfl (by kernel_rfl) (by kernel_rfl) (by kernel_rfl) (by kernel_rfl) (by kernel_rfl) rfl (fun _ _ _ h => h) rfl _ (M262.sub (.cons_cons _ (.cons_cons _ (.cons_cons _ (.cons _ (.cons_cons _ (.cons _ (.cons_cons _ .slnil)))))))) rfl (fun w_ hS => L_move rfl rfl (.pointer (some ⟨g_a1, 0, none⟩)) rfl  ⟨rfl, rfl⟩) ?_
        refine WD_take' 1 rfl (by kernel_rfl) (by kernel_rfl) (by kernel_rfl) (by kernel_rfl) (by kernel_rfl) rfl (fun _ _ _ h => h) rfl _ (M262.sub (.cons_cons _ (.cons_cons _ (.cons_cons _ (.cons _ (.cons_cons _ (.cons _ (.cons_cons _ .slnil)))))))) rfl (fun w_ hS => L_move rfl rfl (.pointer (some ⟨g_a1, 0, none⟩)) rfl  ⟨rfl, rfl⟩) ?_
        refine WD_nil 2 rfl (by kernel_rfl) (by kernel_rfl) (by kernel_rfl) (by kernel_rfl) (by kernel_rfl) (fun _ _ _ h => h) rfl ⟨g_a1, 0, none⟩ rfl rfl (M262.sub (.cons_cons _ (.cons_cons _ (.cons_cons _ (.cons _ (.cons_cons _ (.cons _ (.cons_cons _ .slnil)))))))) ?_
        refine WD_take' 3 rfl (by kernel_rfl) (by kernel_rfl) (by kernel_rfl) (by kernel_rfl) (by kernel_rfl) rfl (fun _ _ _ h => h) rfl _ (M262.sub (.cons_cons _ (.cons_cons _ (.cons_cons _ (.cons _ (.cons_cons _ (.cons _ (.cons_cons _ .slnil)))))))) rfl (fun w_ hS => L_field rfl rfl fd24_2 ⟨g_a1, 0, none⟩ rfl  ⟨rfl, rfl⟩) ?_
        refine WD_take' 4 rfl (by kernel_rfl) (by kernel_rfl) (by kernel_rfl) (by kernel_rfl) (by kernel_rfl) rfl (fun _ _ _ h => h) rfl _ (M262.sub (.cons_cons _ (.cons_cons _ (.cons_cons _ (.cons _ (.cons_cons _ (.cons _ (.cons_cons _ .slnil)))))))) rfl (fun w_ hS => L_load1 rfl rfl Tryd.underlying22 rfl B127.el (hS.agree 3 rfl) 2 rfl (.slice Aa1_0 a1.Steps.length ca1_0) rfl  ⟨rfl, rfl⟩) ?_
        refine WD_take' 5 rfl (by kernel_rfl) (by kernel_rfl) (by kernel_rfl) (by kernel_rfl) (by kernel_rfl) rfl (fun _ _ _ h => h) rfl _ (M262.sub (.cons_cons _ (.cons_cons _ (.cons_cons _ (.cons _ (.cons_cons _ (.cons _ (.cons_cons _ .slnil)))))))) rfl (fun w_ hS => L_loadN rfl rfl Tryd.underlying44 rfl B128.el (hS.agree 0 rfl) 0 rfl 3 sz44 [.string (sv r3.1.Text), .string (sv x123), .int .i64 x39] rfl rfl  ⟨rfl, rfl⟩) ?_
        refine WD_one 6 rfl (by kernel_rfl) (L_buildSlice' M262 rfl rfl [(0, .agg #[.string (sv r3.1.Text), .string (sv x123), .int .i64 x39])] rfl Tryd.underlying22 sz44 zr44 rfl rfl [.string (sv r3.1.Text), .string (sv x123), .int .i64 x39] (by kernel_rfl) ?_)
        intro g263 W264 B265 M266
        refine ⟨fun _ => (M266.sub (.cons _ (.cons_cons _ (.cons_cons _ (.cons_cons _ (.cons _ (.cons_cons _ (.cons _ (.cons_cons _ .slnil))))))))), ?_⟩
        have M267 : Mem W264 [(Sa1_0, w), (one g263, W264), (one g31, W129), (one g9, W13), (one g_a0, W129), (Sa0_0, w), (one g_a1, W129), (Fr, w)] := M266.front [(one g263, W264), (one g31, W129), (one g9, W13), (one g_a0, W129), (Sa0_0, w), (one g_a1, W129)] rfl
        by_cases c268 : List.length a1.Steps + List.length ([(⟨r3.1.Text, x123, x39⟩ : api_Step)] : List api_Step) ≤ 3518437208883
        · replace H133 := ifP c268 H133
          refine WD_one 7 rfl (by kernel_rfl) (L_append (ys := ([(⟨r3.1.Text, x123, x39⟩ : api_Step)] : List api_Step)) (v := w) (E := none0) M267 rfl rfl Tryd.underlying22 el44 rfl rfl ha1_0 (.inr ⟨⟨g263, 0, none⟩, rfl, Src.box (css := [[.string (sv r3.1.Text), .string (sv x123), .int .i64 x39]]) (B265.now (M267.agree 1 rfl)) (⟨rfl, trivial⟩) rfl⟩) (by omega) (by decide) ?_)
          intro W269 S270 A271 c272 ho273 M274
          refine ⟨fun _ => (M274.sub (.cons _ (.cons _ (.cons_cons _ (.cons_cons _ (.cons_cons _ (.cons _ (.cons_cons _ (.cons_cons _ .slnil))))))))), ?_⟩
          refine WD_one 8 rfl (by kernel_rfl) (L_nilCheck rfl rfl ⟨g_a1, 0, none⟩ rfl ?_)
          refine ⟨fun _ => (M274.sub (.cons _ (.cons _ (.cons_cons _ (.cons_cons _ (.cons_cons _ (.cons _ (.cons_cons _ (.cons_cons _ .slnil))))))))), ?_⟩
          refine WD_take' 9 rfl (by kernel_rfl) (by kernel_rfl) (by kernel_rfl) (by kernel_rfl) (by kernel_rfl) rfl (fun _ _ _ h => h) rfl _ (M274.sub (.cons _ (.cons _ (.cons_cons _ (.cons_cons _ (.cons_cons _ (.cons _ (.cons_cons _ (.cons_cons _ .slnil))))))))) rfl (fun w_ hS => L_field rfl rfl fd24_2 ⟨g_a1, 0, none⟩ rfl  ⟨rfl, rfl⟩) ?_
          have M275 : Mem W269 [(one g_a1, W129), (S270, W269), (one g263, W264), (one g31, W129), (one g9, W13), (one g_a0, W129), (Sa0_0, w), (Fr, w)] := M274.front [(S270, W269), (one g263, W264), (one g31, W129), (one g9, W13), (one g_a0, W129), (Sa0_0, w)] rfl
          refine WD_one 10 rfl (by kernel_rfl) (L_store M275 rfl (.slice A271 (a1.Steps ++ ([(⟨r3.1.Text, x123, x39⟩ : api_Step)] : List api_Step)).length c272) rfl [.slice A271 (a1.Steps ++ ([(⟨r3.1.Text, x123, x39⟩ : api_Step)] : List api_Step)).length c272] rfl 1 sz22 rfl rfl rfl B127 rfl rfl [.string (sv a1.Name), .int .i64 x125, .slice A271 (a1.Steps ++ ([(⟨r3.1.Text, x123, x39⟩ : api_Step)] : List api_Step)).length c272] rfl ?_)
          intro W276 B277 M278
          refine ⟨fun h => (by cases h), ?_⟩
          refine WD_done (by kernel_rfl) ?_
          refine thenN ?_
          refine WC_seq ?_
          refine WC_region ?_
          refine WL_of (L_move rfl rfl (.bool x38) rfl ?_)
          refine WL_of (L_assign rfl rfl (.bool x38) rfl ?_)
          refine WL_of (L_assign rfl rfl (.bool true) rfl ?_)
          refine WL_nil ?_
          refine thenN ?_
          refine WC_ret ?_
          obtain rfl := someE H133
          have M279 : Mem W276 [(Sa0_0, w), (one g_a1, W276), (S270, W269), (one g263, W264), (one g31, W129), (one g9, W13), (one g_a0, W129), (Fr, w)] := M278.front [(one g_a1, W276), (S270, W269), (one g263, W264), (one g31, W129), (one g9, W13), (one g_a0, W129)] rfl
          have M280 : Mem W276 [(Sa0_0, W276), (one g_a1, W276), (S270, W269), (one g263, W264), (one g31, W129), (one g9, W13), (one g_a0, W129), (Fr, w)] := M279.rebase
          have M281 : Mem W276 [(S270, W269), (Sa0_0, W276), (one g_a1, W276), (one g263, W264), (one g31, W129), (one g9, W13), (one g_a0, W129), (Fr, w)] := M280.front [(Sa0_0, W276), (one g_a1, W276)] rfl
          have M282 : Mem W276 [(S270, W276), (Sa0_0, W276), (one g_a1, W276), (one g263, W264), (one g31, W129), (one g9, W13), (one g_a0, W129), (Fr, w)] := M281.rebase
          have M283 : Mem W276 [(one g_a0, W129), (S270, W276), (Sa0_0, W276), (one g_a1, W276), (one g263, W264), (one g31, W129), (one g9, W13), (Fr, w)] := M282.front [(S270, W276), (Sa0_0, W276), (one g_a1, W276), (one g263, W264), (one g31, W129), (one g9, W13)] rfl
          have M284 : Mem W276 [(one g_a0, W276), (S270, W276), (Sa0_0, W276), (one g_a1, W276), (one g263, W264), (one g31, W129), (one g9, W13), (Fr, w)] := M283.rebase
          have M285 : Mem W276 [(one g_a1, W276), (one g_a0, W276), (S270, W276), (Sa0_0, W276), (one g263, W264), (one g31, W129), (one g9, W13), (Fr, w)] := M284.front [(one g_a0, W276), (S270, W276), (Sa0_0, W276)] rfl
          have M286 : Mem W276 [(Fr, w), (one g_a1, W276), (one g_a0, W276), (S270, W276), (Sa0_0, W276), (one g263, W264), (one g31, W129), (one g9, W13)] := M285.front [(one g_a1, W276), (one g_a0, W276), (S270, W276), (Sa0_0, W276), (one g263, W264), (one g31, W129), (one g9, W13)] rfl
          have M287 : Mem W276 [(one g_a1, W276), (Fr, w), (one g_a0, W276), (S270, W276), (Sa0_0, W276), (one g263, W264), (one g31, W129), (one g9, W13)] := M286.front [(Fr, w)] rfl
          have M288 : Mem W276 [(one g_a0, W276), (one g_a1, W276), (Fr, w), (S270, W276), (Sa0_0, W276), (one g263, W264), (one g31, W129), (one g9, W13)] := M287.front [(one g_a1, W276), (Fr, w)] rfl
          have M289 : Mem W276 [(S270, W276), (one g_a0, W276), (one g_a1, W276), (Fr, w), (Sa0_0, W276), (one g263, W264), (one g31, W129), (one g9, W13)] := M288.front [(one g_a0, W276), (one g_a1, W276), (Fr, w)] rfl
          have M290 : Mem W276 [(Sa0_0, W276), (S270, W276), (one g_a0, W276), (one g_a1, W276), (Fr, w), (one g263, W264), (one g31, W129), (one g9, W13)] := M289.front [(S270, W276), (one g_a0, W276), (one g_a1, W276), (Fr, w)] rfl
          have M291 : Mem W276 [(Sa0_0, W276), (S270, W276), (one g_a0, W276), (one g_a1, W276), (Fr, w)] := M290.sub (List.prefix_append [(Sa0_0, W276), (S270, W276), (one g_a0, W276), (one g_a1, W276), (Fr, w)] [(one g263, W264), (one g31, W129), (one g9, W13)]).sublist
          refine retR [.bool x38, .bool true] ⟨rfl, rfl, trivial⟩ ?_
          exact ⟨Aa0_0, ca0_0, Sa0_0, A271, c272, S270, rfl, M291, (ha0_0.agree (M279.agree 0 rfl)).map (fun _ _ h => h), (ho273.agree (M281.agree 0 rfl)).map (fun _ _ h => h), B126.now (M283.agree 0 rfl), B277.now (M285.agree 0 rfl)⟩
        · exact noneS (ifN c268 H133)

/-! ### annals/plan.place: function 25 -/
def plan_place (a0 : api_Plan) (a1 : Int) : Option Int :=
  ((if (a0.Pivot : Int) = 0 then (some true) else (some (decide ((wrap64 (a1 + 1) : Int) < a0.Pivot))))).bind (fun (z5 : Bool) => (if z5 = true then (some 0) else (if (wrap64 (a1 + 1) : Int) = a0.Pivot then (some 1) else (some 2))))
set_option maxRecDepth 100000 in
set_option maxHeartbeats 4000000 in
theorem plan_place_ok (a0 : api_Plan) (Aa0_0 : Option Addr) (ca0_0 : Nat) (a1 : Int) (r : Int) (w : World) (Fr : BS) (hG : Gl Fr w) (hF : ∀ b, Fr b → b < w.heap.size) (ha0_0 : SR w Fr w Fr Aa0_0 ca0_0 a0.Steps) (H : plan_place a0 a1 = some r) :
    CallsR Tryd.prog 25 #[.agg #[.string (sv a0.Name), .int .i64 a0.Pivot, .slice Aa0_0 a0.Steps.length ca0_0], .int .i64 a1] w (fun v w' => v = .int .i64 r ∧ Mem w' [(Fr, w)]) := by
  have M0 := Mem.start w Fr hF
  refine enterZ (args := [.agg #[.string (sv a0.Name), .int .i64 a0.Pivot, .slice Aa0_0 a0.Steps.length ca0_0], .int .i64 a1]) [.tmp 4] Tryd.func25 rfl rfl rfl rfl ?_
  unfold plan_place at H
  refine WC_seq ?_
  refine WC_region ?_
  refine WL_of (L_box M0 rfl rfl (.agg #[.string (sv a0.Name), .int .i64 a0.Pivot, .slice Aa0_0 a0.Steps.length ca0_0]) rfl [.string (sv a0.Name), .int .i64 a0.Pivot, .slice Aa0_0 a0.Steps.length ca0_0] rfl ?_)
  intro g1 W2 B3 M4
  refine WL_of (L_assign rfl rfl (.int .i64 0) rfl ?_)
  refine WL_nil ?_
  refine thenN ?_
  refine WC_seq ?_
  refine WC_block ?_
  obtain ⟨z5, hz6, H⟩ := bindS H
  refine WC_cut (fun ρ w_ => ∃  (ρ0 : Nat → Value), ρ = updL ρ0 [(1, .int .i64 a1), (2, .pointer (some ⟨g1, 0, none⟩)), (4, .int .i64 0), (5, .bool z5)] ∧ Mem w_ [(one g1, W2), (Fr, w)]) ?_ ?_
  · refine WC_region ?_
    refine WL_of (L_field rfl rfl fd24_1 ⟨g1, 0, none⟩ rfl ?_)
    refine WL_of (L_load1 rfl rfl Tryd.underlying3 rfl B3.el (M4.agree 0 rfl) 1 rfl (.int .i64 a0.Pivot) rfl ?_)
    refine WL_of (L_bin rfl rfl (.int .i64 a0.Pivot) (.int .i64 0) rfl rfl (.bool (decide ((a0.Pivot : Int) = 0))) (B_eql _ _ _ _ a0.Pivot 0) ?_)
    refine WL_of (L_move rfl rfl (.bool (decide ((a0.Pivot : Int) = 0))) rfl ?_)
    by_cases c7 : (a0.Pivot : Int) = 0
    · replace hz6 := ifP c7 hz6
      refine WL_known 9 true (vtrue c7) ?_
      refine WL_of (WO_off rfl rfl ?_)
      refine WL_of (WO_off rfl rfl ?_)
      refine WL_of (WO_off rfl rfl ?_)
      refine WL_of (WO_off rfl rfl ?_)
      refine WL_of (WO_off rfl rfl ?_)
      refine WL_of (L_pick rfl rfl true rfl (.bool true) rfl ?_)
      refine WL_of (L_assign rfl rfl (.bool true) rfl ?_)
      refine WL_nil ?_
      refine thenN ?_
      obtain rfl := someE hz6
      exact ⟨_, updL_same _ _ ⟨rfl, rfl, rfl, rfl, trivial⟩, M4⟩
    · replace hz6 := ifN c7 hz6
      refine WL_known 9 false (vfalse c7) ?_
      refine WL_of (L_move rfl rfl (.int .i64 a1) rfl ?_)
      refine WL_of (L_bin rfl rfl (.int .i64 a1) (.int .i64 1) rfl rfl (.int .i64 (wrap64 (a1 + 1))) (B_add _ _ _ a1 1) ?_)
      refine WL_of (L_field rfl rfl fd24_1 ⟨g1, 0, none⟩ rfl ?_)
      refine WL_of (L_load1 rfl rfl Tryd.underlying3 rfl B3.el (M4.agree 0 rfl) 1 rfl (.int .i64 a0.Pivot) rfl ?_)
      refine WL_of (L_bin rfl rfl (.int .i64 (wrap64 (a1 + 1))) (.int .i64 a0.Pivot) rfl rfl (.bool (decide ((wrap64 (a1 + 1) : Int) < a0.Pivot))) (B_lss _ _ _ _ (wrap64 (a1 + 1)) a0.Pivot) ?_)
      refine WL_of (L_pick rfl rfl false rfl (.bool (decide ((wrap64 (a1 + 1) : Int) < a0.Pivot))) rfl ?_)
      refine WL_of (L_assign rfl rfl (.bool (decide ((wrap64 (a1 + 1) : Int) < a0.Pivot))) rfl ?_)
      refine WL_nil ?_
      refine thenN ?_
      obtain rfl := someE hz6
      exact ⟨_, updL_same _ _ ⟨rfl, rfl, rfl, rfl, trivial⟩, M4⟩
  · rintro _ W8 ⟨ρ10, rfl, M9⟩
    refine WC_ifb rfl (fun c11 => ?_) (fun c11 => ?_)
    · replace H := ifP c11 H
      refine WC_seq ?_
      refine WC_region ?_
      refine WL_of (L_assign rfl rfl (.int .i64 0) rfl ?_)
      refine WL_nil ?_
      refine thenN ?_
      refine WC_ret ?_
      refine blkR ?_
      refine thenR ?_
      obtain rfl := someE H
      have M12 : Mem W8 [(Fr, w), (one g1, W2)] := M9.front [(one g1, W2)] rfl
      have M13 : Mem W8 [(Fr, w)] := M12.sub (List.prefix_append [(Fr, w)] [(one g1, W2)]).sublist
      refine retR [.int .i64 0] ⟨rfl, trivial⟩ ?_
      exact ⟨rfl, M13⟩
    · replace H := ifN (by rw [c11]; simp) H
      refine WC_seq ?_
      refine WC_region ?_
      refine WL_of (L_move rfl rfl (.int .i64 a1) rfl ?_)
      refine WL_of (L_bin rfl rfl (.int .i64 a1) (.int .i64 1) rfl rfl (.int .i64 (wrap64 (a1 + 1))) (B_add _ _ _ a1 1) ?_)
      refine WL_of (L_field rfl rfl fd24_1 ⟨g1, 0, none⟩ rfl ?_)
      refine WL_of (L_load1 rfl rfl Tryd.underlying3 rfl B3.el (M9.agree 0 rfl) 1 rfl (.int .i64 a0.Pivot) rfl ?_)
      refine WL_of (L_bin rfl rfl (.int .i64 (wrap64 (a1 + 1))) (.int .i64 a0.Pivot) rfl rfl (.bool (decide ((wrap64 (a1 + 1) : Int) = a0.Pivot))) (B_eql _ _ _ _ (wrap64 (a1 + 1)) a0.Pivot) ?_)
      refine WL_of (L_assign rfl rfl (.bool (decide ((wrap64 (a1 + 1) : Int) = a0.Pivot))) rfl ?_)
      refine WL_nil ?_
      refine thenN ?_
      refine WC_if (p := (wrap64 (a1 + 1) : Int) = a0.Pivot) rfl (fun c14 => ?_) (fun c14 => ?_)
      · replace H := ifP c14 H
        refine WC_seq ?_
        refine WC_region ?_
        refine WL_of (L_assign rfl rfl (.int .i64 1) rfl ?_)
        refine WL_nil ?_
        refine thenN ?_
        refine WC_ret ?_
        refine blkR ?_
        refine thenR ?_
        obtain rfl := someE H
        have M15 : Mem W8 [(Fr, w), (one g1, W2)] := M9.front [(one g1, W2)] rfl
        have M16 : Mem W8 [(Fr, w)] := M15.sub (List.prefix_append [(Fr, w)] [(one g1, W2)]).sublist
        refine retR [.int .i64 1] ⟨rfl, trivial⟩ ?_
        exact ⟨rfl, M16⟩
      · replace H := ifN c14 H
        refine WC_skip ?_
        refine blkN ?_
        refine thenN ?_
        refine WC_seq ?_
        refine WC_region ?_
        refine WL_of (L_assign rfl rfl (.int .i64 2) rfl ?_)
        refine WL_nil ?_
        refine thenN ?_
        refine WC_ret ?_
        obtain rfl := someE H
        have M17 : Mem W8 [(Fr, w), (one g1, W2)] := M9.front [(one g1, W2)] rfl
        have M18 : Mem W8 [(Fr, w)] := M17.sub (List.prefix_append [(Fr, w)] [(one g1, W2)]).sublist
        refine retR [.int .i64 2] ⟨rfl, trivial⟩ ?_
        exact ⟨rfl, M18⟩


end Go.Z
