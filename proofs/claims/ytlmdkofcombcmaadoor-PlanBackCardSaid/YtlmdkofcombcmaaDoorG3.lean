/- The walks: for each Go function a function of values that it computes, and the proof that it does (printed by wip/tools/zgen.py). -/
import Derived.Test.YtlmdkofcombcmaaDoorG2
set_option linter.unusedVariables false
set_option linter.unusedSimpArgs false
namespace Go.Z
open Go
open Go.Proofs
open Go.RowKit (wrap32 wrap64)

/-! ### (*annals/plan.reader).plan: function 21 -/
mutual
def plan_reader_plan.l1 : Nat → (api_Word × Bool × Int) → (List Int) → (List Bool) → Int → (Bool × Bool × (List api_Word) × Int × Int × (List api_Step)) → Int → (List api_Step) → Option (api_Plan × (List Int) × Bool × (List api_Word) × Int)
  | 0, _, _, _, _, _, _, _ => none
  | k + 1, r8, x113, x119, r164, r174, x242, x243 => (if (x242 : Int) < (r174.2.2.2.2.2.length : Int) then (((atL (x119 ++ ([r174.1] : List Bool)) x242).bind (fun q281 => (if (!q281) = true then (plan_place (⟨r8.1.Text, r174.2.2.2.2.1, x243⟩ : api_Plan) x242).bind (fun (r293 : Int) => (some (decide ((r293 : Int) ≠ 2)))) else (some false)))).bind (fun (z278 : Bool) => (if z278 = true then (atL x243 x242).bind (fun q303 => (some (List.set x243 (Int.toNat x242) (⟨q303.Do, q303.Undo, 1⟩ : api_Step)))) else (some x243)))).bind (fun (z271 : List api_Step) => (plan_reader_plan.l1 k r8 x113 x119 r164 r174 (wrap64 (x242 + 1)) z271)) else (some ((⟨r8.1.Text, r174.2.2.2.2.1, x243⟩ : api_Plan), (x113 ++ ([r164] : List Int)), true, r174.2.2.1, r174.2.2.2.1)))
def plan_reader_plan.l0 : Nat → plan_reader → (api_Word × Bool × Int) → (List Int) → Bool → (List Bool) → (List api_Word) → Int → Int → (List api_Step) → Option (api_Plan × (List Int) × Bool × (List api_Word) × Int)
  | 0, _, _, _, _, _, _, _, _, _ => none
  | k + 1, a0, r8, x113, x118, x119, x124, x129, x130, x131 => (plan_reader_here (⟨x124, x129, a0.end_⟩ : plan_reader)).bind (fun (r164 : Int) => (plan_reader_step (⟨x124, x129, a0.end_⟩ : plan_reader) (⟨r8.1.Text, x130, x131⟩ : api_Plan)).bind (fun (r174 : (Bool × Bool × (List api_Word) × Int × Int × (List api_Step))) => (if (!r174.2.1) = true then (some ((⟨r8.1.Text, r174.2.2.2.2.1, r174.2.2.2.2.2⟩ : api_Plan), ([] : List Int), false, r174.2.2.1, r174.2.2.2.1)) else (if List.length x119 + List.length ([r174.1] : List Bool) ≤ 140737488355328 then (if List.length x113 + List.length ([r164] : List Int) ≤ 17592186044416 then (if (r174.2.2.2.1 : Int) = (r174.2.2.1.length : Int) then (plan_reader_plan.l1 k r8 x113 x119 r164 r174 0 r174.2.2.2.2.2) else (plan_reader_take (⟨r174.2.2.1, r174.2.2.2.1, a0.end_⟩ : plan_reader) 4 (lit [44])).bind (fun (r378 : (api_Word × Bool × Int)) => (if (!r378.2.1) = true then (some ((⟨r8.1.Text, r174.2.2.2.2.1, r174.2.2.2.2.2⟩ : api_Plan), ([] : List Int), false, r174.2.2.1, r378.2.2)) else (plan_reader_plan.l0 k a0 r8 (x113 ++ ([r164] : List Int)) x118 (x119 ++ ([r174.1] : List Bool)) r174.2.2.1 r378.2.2 r174.2.2.2.2.1 r174.2.2.2.2.2)))) else none) else none))))
end
def plan_reader_plan (k : Nat) (a0 : plan_reader) : Option (api_Plan × (List Int) × Bool × (List api_Word) × Int) :=
  (plan_reader_take a0 1 (lit [])).bind (fun (r8 : (api_Word × Bool × Int)) => (if (!r8.2.1) = true then (some ((⟨(lit []), 0, ([] : List api_Step)⟩ : api_Plan), ([] : List Int), false, a0.words_, r8.2.2)) else (plan_reader_take (⟨a0.words_, r8.2.2, a0.end_⟩ : plan_reader) 4 (lit [58])).bind (fun (r45 : (api_Word × Bool × Int)) => (if (!r45.2.1) = true then (some ((⟨r8.1.Text, 0, ([] : List api_Step)⟩ : api_Plan), ([] : List Int), false, a0.words_, r45.2.2)) else (plan_reader_plan.l0 k a0 r8 ([] : List Int) r8.2.1 ([] : List Bool) a0.words_ r45.2.2 0 ([] : List api_Step))))))
set_option maxRecDepth 100000 in
set_option maxHeartbeats 4000000 in
theorem plan_reader_plan_ok (k : Nat) (a0 : plan_reader) (g_a0 : Nat) (Aa0_0 : Option Addr) (ca0_0 : Nat) (Sa0_0 : BS) (r : api_Plan × (List Int) × Bool × (List api_Word) × Int) (w : World) (Fr : BS) (hG : Gl Fr w) (M0 : Mem w [(one g_a0, w), (Sa0_0, w), (Fr, w)]) (ha0_0 : OR w Sa0_0 w none0 88 Aa0_0 ca0_0 a0.words_) (hB_a0 : Bx w g_a0 [.slice Aa0_0 a0.words_.length ca0_0, .int .i64 a0.at_, .int .i64 a0.end_] 63) (H : plan_reader_plan k a0 = some r) :
    CallsR Tryd.prog 21 #[.pointer (some ⟨g_a0, 0, none⟩)] w (fun v w' => ∃ (A0 : Option Addr) (c0 : Nat) (S0 : BS) (A1 : Option Addr) (c1 : Nat) (S1 : BS) (A2 : Option Addr) (c2 : Nat) (S2 : BS), v = .tuple #[.agg #[.string (sv r.1.Name), .int .i64 r.1.Pivot, .slice A0 (List.length r.1.Steps) c0], .slice A1 (List.length r.2.1) c1, .bool r.2.2.1] ∧ Mem w' [(S0, w'), (S1, w'), (S2, w'), (one g_a0, w'), (Fr, w)] ∧ OR w' S0 w' none0 44 A0 c0 r.1.Steps ∧ OR w' S1 w' none0 3 A1 c1 r.2.1 ∧ OR w' S2 w' none0 88 A2 c2 r.2.2.2.1 ∧ Bx w' g_a0 [.slice A2 (List.length r.2.2.2.1) c2, .int .i64 r.2.2.2.2, .int .i64 a0.end_] 63) := by
  refine enterZ (args := [.pointer (some ⟨g_a0, 0, none⟩)]) [.cell 2 24, .tmp 3, .tmp 4] Tryd.func21 rfl rfl rfl rfl ?_
  unfold plan_reader_plan at H
  refine WC_seq ?_
  refine WC_region ?_
  refine WL_of (L_alloc M0 rfl rfl zr24 [.string (sv (lit [])), .int .i64 0, .slice none 0 0] rfl ?_)
  intro g1 W2 B3 M4
  refine WL_of (L_assign rfl rfl (.slice none 0 0) rfl ?_)
  refine WL_of (L_assign rfl rfl (.bool false) rfl ?_)
  refine WL_nil ?_
  refine thenN ?_
  refine WC_seq ?_
  refine WC_region ?_
  refine WL_of (L_move rfl rfl (.pointer (some ⟨g_a0, 0, none⟩)) rfl ?_)
  have hs5 := ha0_0.sr
  have M6 : Mem W2 [(one g_a0, w), (one g1, W2), (Sa0_0, w), (Fr, w)] := M4.front [(one g1, W2)] rfl
  have M7 : Mem W2 [(one g1, W2), (Sa0_0, w), (Fr, w)] := M6.drop
  obtain ⟨r8, hr9, H⟩ := bindS H
  refine WL_of (L_call' rfl rfl cf36 [.pointer (some ⟨g_a0, 0, none⟩), .int .i64 1, .string (sv (lit []))] rfl (plan_reader_take_ok a0 g_a0 Aa0_0 ca0_0 1 (lit []) r8 _ (Un [(one g1, W2), (Sa0_0, w), (Fr, w)]) (hG.call M7 2 rfl) M6.lend ((hs5.agree (M7.agree 1 rfl) (fun _ h => h.elim)).sub (Un.at 1 rfl) (fun _ h => h.elim)) (hB_a0.now (M6.agree 0 rfl)) hr9) ?_)
  rintro _ W10 ⟨rfl, M11, B12⟩
  have M13 : Mem W10 [(one g_a0, W10), (one g1, W2), (Sa0_0, w), (Fr, w)] := M7.back (New := [(one g_a0, W10)]) M11
  refine WL_of (L_move rfl rfl (.tuple #[.agg #[.int .i64 r8.1.Kind, .int .i64 r8.1.At, .string (sv r8.1.Text), .int .i64 r8.1.Num], .bool r8.2.1]) rfl ?_)
  refine WL_of (L_extract rfl rfl [.agg #[.int .i64 r8.1.Kind, .int .i64 r8.1.At, .string (sv r8.1.Text), .int .i64 r8.1.Num], .bool r8.2.1] rfl (.agg #[.int .i64 r8.1.Kind, .int .i64 r8.1.At, .string (sv r8.1.Text), .int .i64 r8.1.Num]) rfl ?_)
  refine WL_of (L_extract rfl rfl [.agg #[.int .i64 r8.1.Kind, .int .i64 r8.1.At, .string (sv r8.1.Text), .int .i64 r8.1.Num], .bool r8.2.1] rfl (.bool r8.2.1) rfl ?_)
  refine WL_of (L_alloc M13 rfl rfl zr88 [.int .i64 0, .int .i64 0, .string (sv (lit [])), .int .i64 0] rfl ?_)
  intro g14 W15 B16 M17
  refine WL_of (L_store M17 rfl (.agg #[.int .i64 r8.1.Kind, .int .i64 r8.1.At, .string (sv r8.1.Text), .int .i64 r8.1.Num]) rfl [.int .i64 r8.1.Kind, .int .i64 r8.1.At, .string (sv r8.1.Text), .int .i64 r8.1.Num] rfl 4 sz88 rfl rfl rfl B16 rfl rfl [.int .i64 r8.1.Kind, .int .i64 r8.1.At, .string (sv r8.1.Text), .int .i64 r8.1.Num] rfl ?_)
  intro W18 B19 M20
  refine WL_of (L_assign rfl rfl (.bool r8.2.1) rfl ?_)
  refine WL_nil ?_
  refine thenN ?_
  refine WC_seq ?_
  refine WC_seq ?_
  refine WC_region ?_
  refine WL_of (L_move rfl rfl (.bool r8.2.1) rfl ?_)
  refine WL_of (L_not rfl rfl r8.2.1 rfl ?_)
  refine WL_nil ?_
  refine thenN ?_
  refine WC_ifb rfl (fun c21 => ?_) (fun c21 => ?_)
  · replace H := ifP c21 H
    refine WC_seq ?_
    refine WC_region ?_
    refine WL_of (L_loadN rfl rfl Tryd.underlying24 rfl B3.el (M20.agree 2 rfl) 0 rfl 3 sz24 [.string (sv (lit [])), .int .i64 0, .slice none 0 0] rfl rfl ?_)
    have M22 : Mem W18 [(one g1, W2), (one g14, W18), (one g_a0, W10), (Sa0_0, w), (Fr, w)] := M20.front [(one g14, W18), (one g_a0, W10)] rfl
    refine WL_of (L_store M22 rfl (.agg #[.string (sv (lit [])), .int .i64 0, .slice none 0 0]) rfl [.string (sv (lit [])), .int .i64 0, .slice none 0 0] rfl 3 sz24 rfl rfl rfl B3 rfl rfl [.string (sv (lit [])), .int .i64 0, .slice none 0 0] rfl ?_)
    intro W23 B24 M25
    refine WL_of (L_assign rfl rfl (.slice none 0 0) rfl ?_)
    refine WL_of (L_assign rfl rfl (.bool false) rfl ?_)
    refine WL_nil ?_
    refine thenN ?_
    refine WC_ret ?_
    refine thenR ?_
    obtain rfl := someE H
    have M26 : Mem W23 [(none0, W23), (one g1, W23), (one g14, W18), (one g_a0, W10), (Sa0_0, w), (Fr, w)] := M25.empty
    have M27 : Mem W23 [(none0, W23), (none0, W23), (one g1, W23), (one g14, W18), (one g_a0, W10), (Sa0_0, w), (Fr, w)] := M26.empty
    have M28 : Mem W23 [(Sa0_0, w), (none0, W23), (none0, W23), (one g1, W23), (one g14, W18), (one g_a0, W10), (Fr, w)] := M27.front [(none0, W23), (none0, W23), (one g1, W23), (one g14, W18), (one g_a0, W10)] rfl
    have M29 : Mem W23 [(Sa0_0, W23), (none0, W23), (none0, W23), (one g1, W23), (one g14, W18), (one g_a0, W10), (Fr, w)] := M28.rebase
    have M30 : Mem W23 [(one g_a0, W10), (Sa0_0, W23), (none0, W23), (none0, W23), (one g1, W23), (one g14, W18), (Fr, w)] := M29.front [(Sa0_0, W23), (none0, W23), (none0, W23), (one g1, W23), (one g14, W18)] rfl
    have M31 : Mem W23 [(one g_a0, W23), (Sa0_0, W23), (none0, W23), (none0, W23), (one g1, W23), (one g14, W18), (Fr, w)] := M30.rebase
    have M32 : Mem W23 [(Fr, w), (one g_a0, W23), (Sa0_0, W23), (none0, W23), (none0, W23), (one g1, W23), (one g14, W18)] := M31.front [(one g_a0, W23), (Sa0_0, W23), (none0, W23), (none0, W23), (one g1, W23), (one g14, W18)] rfl
    have M33 : Mem W23 [(one g_a0, W23), (Fr, w), (Sa0_0, W23), (none0, W23), (none0, W23), (one g1, W23), (one g14, W18)] := M32.front [(Fr, w)] rfl
    have M34 : Mem W23 [(Sa0_0, W23), (one g_a0, W23), (Fr, w), (none0, W23), (none0, W23), (one g1, W23), (one g14, W18)] := M33.front [(one g_a0, W23), (Fr, w)] rfl
    have M35 : Mem W23 [(none0, W23), (Sa0_0, W23), (one g_a0, W23), (Fr, w), (none0, W23), (one g1, W23), (one g14, W18)] := M34.front [(Sa0_0, W23), (one g_a0, W23), (Fr, w), (none0, W23)] rfl
    have M36 : Mem W23 [(none0, W23), (none0, W23), (Sa0_0, W23), (one g_a0, W23), (Fr, w), (one g1, W23), (one g14, W18)] := M35.front [(none0, W23), (Sa0_0, W23), (one g_a0, W23), (Fr, w)] rfl
    have M37 : Mem W23 [(none0, W23), (none0, W23), (Sa0_0, W23), (one g_a0, W23), (Fr, w)] := M36.sub (List.prefix_append [(none0, W23), (none0, W23), (Sa0_0, W23), (one g_a0, W23), (Fr, w)] [(one g1, W23), (one g14, W18)]).sublist
    refine retR [.agg #[.string (sv (lit [])), .int .i64 0, .slice none 0 0], .slice none 0 0, .bool false] ⟨⟨_, rfl, R_loadVarN Tryd.underlying24 rfl B24.el (M25.agree 0 rfl) sz24 rfl⟩, rfl, rfl, trivial⟩ ?_
    exact ⟨none, 0, none0, none, 0, none0, Aa0_0, ca0_0, Sa0_0, rfl, M37, OR.nil W23 none0 W23 none0 44, OR.nil W23 none0 W23 none0 3, (ha0_0.agree (M28.agree 0 rfl)).map (fun _ _ h => h), B12.now (M30.agree 0 rfl)⟩
  · replace H := ifN (by rw [c21]; simp) H
    refine WC_skip ?_
    refine thenN ?_
    refine WC_seq ?_
    refine WC_region ?_
    refine WL_of (L_field rfl rfl fd88_2 ⟨g14, 0, none⟩ rfl ?_)
    refine WL_of (L_load1 rfl rfl Tryd.underlying9 rfl B19.el (M20.agree 0 rfl) 2 rfl (.string (sv r8.1.Text)) rfl ?_)
    refine WL_of (L_field rfl rfl fd24_0 ⟨g1, 0, none⟩ rfl ?_)
    have M38 : Mem W18 [(one g1, W2), (one g14, W18), (one g_a0, W10), (Sa0_0, w), (Fr, w)] := M20.front [(one g14, W18), (one g_a0, W10)] rfl
    refine WL_of (L_store M38 rfl (.string (sv r8.1.Text)) rfl [.string (sv r8.1.Text)] rfl 1 sz9 rfl rfl rfl B3 rfl rfl [.string (sv r8.1.Text), .int .i64 0, .slice none 0 0] rfl ?_)
    intro W39 B40 M41
    refine WL_nil ?_
    refine thenN ?_
    refine WC_seq ?_
    refine WC_seq ?_
    refine WC_region ?_
    refine WL_of (L_move rfl rfl (.pointer (some ⟨g_a0, 0, none⟩)) rfl ?_)
    have hs42 := ha0_0.sr
    have M43 : Mem W39 [(one g_a0, W10), (one g1, W39), (one g14, W18), (Sa0_0, w), (Fr, w)] := M41.front [(one g1, W39), (one g14, W18)] rfl
    have M44 : Mem W39 [(one g1, W39), (one g14, W18), (Sa0_0, w), (Fr, w)] := M43.drop
    obtain ⟨r45, hr46, H⟩ := bindS H
    refine WL_of (L_call' rfl rfl cf36 [.pointer (some ⟨g_a0, 0, none⟩), .int .i64 4, .string (sv (lit [58]))] rfl (plan_reader_take_ok (⟨a0.words_, r8.2.2, a0.end_⟩ : plan_reader) g_a0 Aa0_0 ca0_0 4 (lit [58]) r45 _ (Un [(one g1, W39), (one g14, W18), (Sa0_0, w), (Fr, w)]) (hG.call M44 3 rfl) M43.lend ((hs42.agree (M44.agree 2 rfl) (fun _ h => h.elim)).sub (Un.at 2 rfl) (fun _ h => h.elim)) (B12.now (M43.agree 0 rfl)) hr46) ?_)
    rintro _ W47 ⟨rfl, M48, B49⟩
    have M50 : Mem W47 [(one g_a0, W47), (one g1, W39), (one g14, W18), (Sa0_0, w), (Fr, w)] := M44.back (New := [(one g_a0, W47)]) M48
    refine WL_of (L_move rfl rfl (.tuple #[.agg #[.int .i64 r45.1.Kind, .int .i64 r45.1.At, .string (sv r45.1.Text), .int .i64 r45.1.Num], .bool r45.2.1]) rfl ?_)
    refine WL_of (L_extract rfl rfl [.agg #[.int .i64 r45.1.Kind, .int .i64 r45.1.At, .string (sv r45.1.Text), .int .i64 r45.1.Num], .bool r45.2.1] rfl (.agg #[.int .i64 r45.1.Kind, .int .i64 r45.1.At, .string (sv r45.1.Text), .int .i64 r45.1.Num]) rfl ?_)
    refine WL_of (L_extract rfl rfl [.agg #[.int .i64 r45.1.Kind, .int .i64 r45.1.At, .string (sv r45.1.Text), .int .i64 r45.1.Num], .bool r45.2.1] rfl (.bool r45.2.1) rfl ?_)
    refine WL_of (L_alloc M50 rfl rfl zr88 [.int .i64 0, .int .i64 0, .string (sv (lit [])), .int .i64 0] rfl ?_)
    intro g51 W52 B53 M54
    refine WL_of (L_store M54 rfl (.agg #[.int .i64 r45.1.Kind, .int .i64 r45.1.At, .string (sv r45.1.Text), .int .i64 r45.1.Num]) rfl [.int .i64 r45.1.Kind, .int .i64 r45.1.At, .string (sv r45.1.Text), .int .i64 r45.1.Num] rfl 4 sz88 rfl rfl rfl B53 rfl rfl [.int .i64 r45.1.Kind, .int .i64 r45.1.At, .string (sv r45.1.Text), .int .i64 r45.1.Num] rfl ?_)
    intro W55 B56 M57
    refine WL_of (L_assign rfl rfl (.bool r45.2.1) rfl ?_)
    refine WL_nil ?_
    refine thenN ?_
    refine WC_seq ?_
    refine WC_region ?_
    refine WL_of (L_move rfl rfl (.bool r45.2.1) rfl ?_)
    refine WL_of (L_not rfl rfl r45.2.1 rfl ?_)
    refine WL_nil ?_
    refine thenN ?_
    refine WC_ifb rfl (fun c58 => ?_) (fun c58 => ?_)
    · replace H := ifP c58 H
      refine WC_seq ?_
      refine WC_region ?_
      refine WL_of (L_loadN rfl rfl Tryd.underlying24 rfl B40.el (M57.agree 2 rfl) 0 rfl 3 sz24 [.string (sv r8.1.Text), .int .i64 0, .slice none 0 0] rfl rfl ?_)
      have M59 : Mem W55 [(one g1, W39), (one g51, W55), (one g_a0, W47), (one g14, W18), (Sa0_0, w), (Fr, w)] := M57.front [(one g51, W55), (one g_a0, W47)] rfl
      refine WL_of (L_store M59 rfl (.agg #[.string (sv r8.1.Text), .int .i64 0, .slice none 0 0]) rfl [.string (sv r8.1.Text), .int .i64 0, .slice none 0 0] rfl 3 sz24 rfl rfl rfl B40 rfl rfl [.string (sv r8.1.Text), .int .i64 0, .slice none 0 0] rfl ?_)
      intro W60 B61 M62
      refine WL_of (L_assign rfl rfl (.slice none 0 0) rfl ?_)
      refine WL_of (L_assign rfl rfl (.bool false) rfl ?_)
      refine WL_nil ?_
      refine thenN ?_
      refine WC_ret ?_
      refine thenR ?_
      obtain rfl := someE H
      have M63 : Mem W60 [(none0, W60), (one g1, W60), (one g51, W55), (one g_a0, W47), (one g14, W18), (Sa0_0, w), (Fr, w)] := M62.empty
      have M64 : Mem W60 [(none0, W60), (none0, W60), (one g1, W60), (one g51, W55), (one g_a0, W47), (one g14, W18), (Sa0_0, w), (Fr, w)] := M63.empty
      have M65 : Mem W60 [(Sa0_0, w), (none0, W60), (none0, W60), (one g1, W60), (one g51, W55), (one g_a0, W47), (one g14, W18), (Fr, w)] := M64.front [(none0, W60), (none0, W60), (one g1, W60), (one g51, W55), (one g_a0, W47), (one g14, W18)] rfl
      have M66 : Mem W60 [(Sa0_0, W60), (none0, W60), (none0, W60), (one g1, W60), (one g51, W55), (one g_a0, W47), (one g14, W18), (Fr, w)] := M65.rebase
      have M67 : Mem W60 [(one g_a0, W47), (Sa0_0, W60), (none0, W60), (none0, W60), (one g1, W60), (one g51, W55), (one g14, W18), (Fr, w)] := M66.front [(Sa0_0, W60), (none0, W60), (none0, W60), (one g1, W60), (one g51, W55)] rfl
      have M68 : Mem W60 [(one g_a0, W60), (Sa0_0, W60), (none0, W60), (none0, W60), (one g1, W60), (one g51, W55), (one g14, W18), (Fr, w)] := M67.rebase
      have M69 : Mem W60 [(Fr, w), (one g_a0, W60), (Sa0_0, W60), (none0, W60), (none0, W60), (one g1, W60), (one g51, W55), (one g14, W18)] := M68.front [(one g_a0, W60), (Sa0_0, W60), (none0, W60), (none0, W60), (one g1, W60), (one g51, W55), (one g14, W18)] rfl
      have M70 : Mem W60 [(one g_a0, W60), (Fr, w), (Sa0_0, W60), (none0, W60), (none0, W60), (one g1, W60), (one g51, W55), (one g14, W18)] := M69.front [(Fr, w)] rfl
      have M71 : Mem W60 [(Sa0_0, W60), (one g_a0, W60), (Fr, w), (none0, W60), (none0, W60), (one g1, W60), (one g51, W55), (one g14, W18)] := M70.front [(one g_a0, W60), (Fr, w)] rfl
      have M72 : Mem W60 [(none0, W60), (Sa0_0, W60), (one g_a0, W60), (Fr, w), (none0, W60), (one g1, W60), (one g51, W55), (one g14, W18)] := M71.front [(Sa0_0, W60), (one g_a0, W60), (Fr, w), (none0, W60)] rfl
      have M73 : Mem W60 [(none0, W60), (none0, W60), (Sa0_0, W60), (one g_a0, W60), (Fr, w), (one g1, W60), (one g51, W55), (one g14, W18)] := M72.front [(none0, W60), (Sa0_0, W60), (one g_a0, W60), (Fr, w)] rfl
      have M74 : Mem W60 [(none0, W60), (none0, W60), (Sa0_0, W60), (one g_a0, W60), (Fr, w)] := M73.sub (List.prefix_append [(none0, W60), (none0, W60), (Sa0_0, W60), (one g_a0, W60), (Fr, w)] [(one g1, W60), (one g51, W55), (one g14, W18)]).sublist
      refine retR [.agg #[.string (sv r8.1.Text), .int .i64 0, .slice none 0 0], .slice none 0 0, .bool false] ⟨⟨_, rfl, R_loadVarN Tryd.underlying24 rfl B61.el (M62.agree 0 rfl) sz24 rfl⟩, rfl, rfl, trivial⟩ ?_
      exact ⟨none, 0, none0, none, 0, none0, Aa0_0, ca0_0, Sa0_0, rfl, M74, OR.nil W60 none0 W60 none0 44, OR.nil W60 none0 W60 none0 3, (ha0_0.agree (M65.agree 0 rfl)).map (fun _ _ h => h), B49.now (M67.agree 0 rfl)⟩
    · replace H := ifN (by rw [c58]; simp) H
      refine WC_skip ?_
      refine thenN ?_
      refine WC_seq ?_
      refine WC_region ?_
      refine WL_of (L_assign rfl rfl (.slice none 0 0) rfl ?_)
      refine WL_nil ?_
      refine thenN ?_
      refine WC_seq ?_
      refine WC_block ?_
      refine WC_loop (fun k142 ρ w_ => ∃ (x113 : List Int) (x118 : Bool) (x119 : List Bool) (x124 : List api_Word) (x129 : Int) (x130 : Int) (x131 : List api_Step) (A114 : Option Addr) (c115 : Nat) (S116 : BS) (A120 : Option Addr) (c121 : Nat) (S122 : BS) (A125 : Option Addr) (c126 : Nat) (S127 : BS) (A132 : Option Addr) (c133 : Nat) (S134 : BS) (ρ0 : Nat → Value), ρ = updL ρ0 [(0, .pointer (some ⟨g_a0, 0, none⟩)), (2, .pointer (some ⟨g1, 0, none⟩)), (3, .slice A114 x113.length c115), (4, .bool x118), (8, .slice A120 x119.length c121)] ∧ Mem w_ [(S116, w_), (S122, w_), (S127, w_), (S134, w_), (one g51, W55), (one g_a0, w_), (one g1, w_), (one g14, W18), (Fr, w)] ∧ OR w_ S116 w_ none0 3 A114 c115 x113 ∧ OR w_ S122 w_ none0 4 A120 c121 x119 ∧ OR w_ S127 w_ none0 88 A125 c126 x124 ∧ OR w_ S134 w_ none0 44 A132 c133 x131 ∧ Bx w_ g_a0 [.slice A125 x124.length c126, .int .i64 x129, .int .i64 a0.end_] 63 ∧ Bx w_ g1 [.string (sv r8.1.Text), .int .i64 x130, .slice A132 x131.length c133] 24 ∧ k142 ≤ k ∧ plan_reader_plan.l0 k142 a0 r8 x113 x118 x119 x124 x129 x130 x131 = some r) k ?_ ?_
      · have M144 : Mem W55 [(none0, W55), (one g51, W55), (one g_a0, W47), (one g1, W39), (one g14, W18), (Sa0_0, w), (Fr, w)] := M57.empty
        have M145 : Mem W55 [(none0, W55), (none0, W55), (one g51, W55), (one g_a0, W47), (one g1, W39), (one g14, W18), (Sa0_0, w), (Fr, w)] := M144.empty
        have M146 : Mem W55 [(Sa0_0, w), (none0, W55), (none0, W55), (one g51, W55), (one g_a0, W47), (one g1, W39), (one g14, W18), (Fr, w)] := M145.front [(none0, W55), (none0, W55), (one g51, W55), (one g_a0, W47), (one g1, W39), (one g14, W18)] rfl
        have M147 : Mem W55 [(Sa0_0, W55), (none0, W55), (none0, W55), (one g51, W55), (one g_a0, W47), (one g1, W39), (one g14, W18), (Fr, w)] := M146.rebase
        have M148 : Mem W55 [(none0, W55), (Sa0_0, W55), (none0, W55), (none0, W55), (one g51, W55), (one g_a0, W47), (one g1, W39), (one g14, W18), (Fr, w)] := M147.empty
        have M149 : Mem W55 [(one g_a0, W47), (none0, W55), (Sa0_0, W55), (none0, W55), (none0, W55), (one g51, W55), (one g1, W39), (one g14, W18), (Fr, w)] := M148.front [(none0, W55), (Sa0_0, W55), (none0, W55), (none0, W55), (one g51, W55)] rfl
        have M150 : Mem W55 [(one g_a0, W55), (none0, W55), (Sa0_0, W55), (none0, W55), (none0, W55), (one g51, W55), (one g1, W39), (one g14, W18), (Fr, w)] := M149.rebase
        have M151 : Mem W55 [(one g1, W39), (one g_a0, W55), (none0, W55), (Sa0_0, W55), (none0, W55), (none0, W55), (one g51, W55), (one g14, W18), (Fr, w)] := M150.front [(one g_a0, W55), (none0, W55), (Sa0_0, W55), (none0, W55), (none0, W55), (one g51, W55)] rfl
        have M152 : Mem W55 [(one g1, W55), (one g_a0, W55), (none0, W55), (Sa0_0, W55), (none0, W55), (none0, W55), (one g51, W55), (one g14, W18), (Fr, w)] := M151.rebase
        have M153 : Mem W55 [(Fr, w), (one g1, W55), (one g_a0, W55), (none0, W55), (Sa0_0, W55), (none0, W55), (none0, W55), (one g51, W55), (one g14, W18)] := M152.front [(one g1, W55), (one g_a0, W55), (none0, W55), (Sa0_0, W55), (none0, W55), (none0, W55), (one g51, W55), (one g14, W18)] rfl
        have M154 : Mem W55 [(one g14, W18), (Fr, w), (one g1, W55), (one g_a0, W55), (none0, W55), (Sa0_0, W55), (none0, W55), (none0, W55), (one g51, W55)] := M153.front [(Fr, w), (one g1, W55), (one g_a0, W55), (none0, W55), (Sa0_0, W55), (none0, W55), (none0, W55), (one g51, W55)] rfl
        have M155 : Mem W55 [(one g1, W55), (one g14, W18), (Fr, w), (one g_a0, W55), (none0, W55), (Sa0_0, W55), (none0, W55), (none0, W55), (one g51, W55)] := M154.front [(one g14, W18), (Fr, w)] rfl
        have M156 : Mem W55 [(one g_a0, W55), (one g1, W55), (one g14, W18), (Fr, w), (none0, W55), (Sa0_0, W55), (none0, W55), (none0, W55), (one g51, W55)] := M155.front [(one g1, W55), (one g14, W18), (Fr, w)] rfl
        have M157 : Mem W55 [(one g51, W55), (one g_a0, W55), (one g1, W55), (one g14, W18), (Fr, w), (none0, W55), (Sa0_0, W55), (none0, W55), (none0, W55)] := M156.front [(one g_a0, W55), (one g1, W55), (one g14, W18), (Fr, w), (none0, W55), (Sa0_0, W55), (none0, W55), (none0, W55)] rfl
        have M158 : Mem W55 [(none0, W55), (one g51, W55), (one g_a0, W55), (one g1, W55), (one g14, W18), (Fr, w), (none0, W55), (Sa0_0, W55), (none0, W55)] := M157.front [(one g51, W55), (one g_a0, W55), (one g1, W55), (one g14, W18), (Fr, w), (none0, W55), (Sa0_0, W55), (none0, W55)] rfl
        have M159 : Mem W55 [(Sa0_0, W55), (none0, W55), (one g51, W55), (one g_a0, W55), (one g1, W55), (one g14, W18), (Fr, w), (none0, W55), (none0, W55)] := M158.front [(none0, W55), (one g51, W55), (one g_a0, W55), (one g1, W55), (one g14, W18), (Fr, w), (none0, W55)] rfl
        have M160 : Mem W55 [(none0, W55), (Sa0_0, W55), (none0, W55), (one g51, W55), (one g_a0, W55), (one g1, W55), (one g14, W18), (Fr, w), (none0, W55)] := M159.front [(Sa0_0, W55), (none0, W55), (one g51, W55), (one g_a0, W55), (one g1, W55), (one g14, W18), (Fr, w), (none0, W55)] rfl
        have M161 : Mem W55 [(none0, W55), (none0, W55), (Sa0_0, W55), (none0, W55), (one g51, W55), (one g_a0, W55), (one g1, W55), (one g14, W18), (Fr, w)] := M160.front [(none0, W55), (Sa0_0, W55), (none0, W55), (one g51, W55), (one g_a0, W55), (one g1, W55), (one g14, W18), (Fr, w)] rfl
        exact ⟨([] : List Int), r8.2.1, ([] : List Bool), a0.words_, r45.2.2, 0, ([] : List api_Step), none, 0, none0, none, 0, none0, Aa0_0, ca0_0, Sa0_0, none, 0, none0, _, updL_same _ _ ⟨rfl, rfl, rfl, rfl, rfl, trivial⟩, M161, OR.nil W55 none0 W55 none0 3, OR.nil W55 none0 W55 none0 4, (ha0_0.agree (M146.agree 0 rfl)).map (fun _ _ h => h), OR.nil W55 none0 W55 none0 44, B49.now (M149.agree 0 rfl), B40.now (M151.agree 0 rfl), (Nat.le_refl _), H⟩
      · rintro k142 _ W138 ⟨x113, x118, x119, x124, x129, x130, x131, A114, c115, S116, A120, c121, S122, A125, c126, S127, A132, c133, S134, ρ140, rfl, M139, hr117, hr123, hr128, hr135, B136, B137, hk143, H141⟩
        cases k142 with
        | zero => rw [plan_reader_plan.l0] at H141; cases H141
        | succ k142 =>
        rw [plan_reader_plan.l0] at H141
        refine WC_block ?_
        refine WC_seq ?_
        refine WC_region ?_
        refine WL_of (L_move rfl rfl (.pointer (some ⟨g_a0, 0, none⟩)) rfl ?_)
        have hs162 := hr128.sr
        obtain ⟨r164, hr165, H141⟩ := bindS H141
        refine WL_of (L_call' rfl rfl cf22 [.pointer (some ⟨g_a0, 0, none⟩)] rfl (plan_reader_here_ok (⟨x124, x129, a0.end_⟩ : plan_reader) g_a0 A125 c126 r164 _ (Un [(S116, W138), (S122, W138), (S127, W138), (S134, W138), (one g51, W55), (one g_a0, W138), (one g1, W138), (one g14, W18), (Fr, w)]) (hG.call M139 8 rfl) M139.frame ((hs162.agree (M139.agree 2 rfl) (fun _ h => h.elim)).sub (Un.at 2 rfl) (fun _ h => h.elim)) (Un.at (S := one g_a0) 5 rfl _ rfl) (B136.now (M139.agree 5 rfl)) hr165) ?_)
        rintro _ W166 ⟨rfl, M167⟩
        have M168 : Mem W166 [(S116, W138), (S122, W138), (S127, W138), (S134, W138), (one g51, W55), (one g_a0, W138), (one g1, W138), (one g14, W18), (Fr, w)] := M139.back (New := []) M167
        refine WL_of (L_assign rfl rfl (.int .i64 r164) rfl ?_)
        refine WL_nil ?_
        refine thenN ?_
        refine WC_seq ?_
        refine WC_region ?_
        refine WL_of (L_move rfl rfl (.pointer (some ⟨g_a0, 0, none⟩)) rfl ?_)
        have M169 : Mem W166 [(S134, W138), (S116, W138), (S122, W138), (S127, W138), (one g51, W55), (one g_a0, W138), (one g1, W138), (one g14, W18), (Fr, w)] := M168.front [(S116, W138), (S122, W138), (S127, W138)] rfl
        have M170 : Mem W166 [(one g1, W138), (S134, W138), (S116, W138), (S122, W138), (S127, W138), (one g51, W55), (one g_a0, W138), (one g14, W18), (Fr, w)] := M169.front [(S134, W138), (S116, W138), (S122, W138), (S127, W138), (one g51, W55), (one g_a0, W138)] rfl
        have M171 : Mem W166 [(S127, W138), (one g1, W138), (S134, W138), (S116, W138), (S122, W138), (one g51, W55), (one g_a0, W138), (one g14, W18), (Fr, w)] := M170.front [(one g1, W138), (S134, W138), (S116, W138), (S122, W138)] rfl
        have M172 : Mem W166 [(one g_a0, W138), (S127, W138), (one g1, W138), (S134, W138), (S116, W138), (S122, W138), (one g51, W55), (one g14, W18), (Fr, w)] := M171.front [(S127, W138), (one g1, W138), (S134, W138), (S116, W138), (S122, W138), (one g51, W55)] rfl
        have M173 : Mem W166 [(S116, W138), (S122, W138), (one g51, W55), (one g14, W18), (Fr, w)] := M172.drop.drop.drop.drop
        obtain ⟨r174, hr175, H141⟩ := bindS H141
        refine WL_of (L_call' rfl rfl cf37 [.pointer (some ⟨g_a0, 0, none⟩), .pointer (some ⟨g1, 0, none⟩)] rfl (plan_reader_step_ok (⟨x124, x129, a0.end_⟩ : plan_reader) g_a0 A125 c126 S127 (⟨r8.1.Text, x130, x131⟩ : api_Plan) g1 A132 c133 S134 r174 _ (Un [(S116, W138), (S122, W138), (one g51, W55), (one g14, W18), (Fr, w)]) (hG.call M173 4 rfl) M172.lend4 ((hr128.agree (M172.agree 1 rfl)).map (fun _ _ h => h)) (B136.now (M172.agree 0 rfl)) ((hr135.agree (M172.agree 3 rfl)).map (fun _ _ h => h)) (B137.now (M172.agree 2 rfl)) hr175) ?_)
        rintro _ W176 ⟨A178, c179, S180, A182, c183, S184, rfl, M177, ho181, ho185, B186, B187⟩
        have M188 : Mem W176 [(S180, W176), (S184, W176), (one g_a0, W176), (one g1, W176), (S116, W138), (S122, W138), (one g51, W55), (one g14, W18), (Fr, w)] := M173.back (New := [(S180, W176), (S184, W176), (one g_a0, W176), (one g1, W176)]) M177
        refine WL_of (L_move rfl rfl (.tuple #[.bool r174.1, .bool r174.2.1]) rfl ?_)
        refine WL_of (L_extract rfl rfl [.bool r174.1, .bool r174.2.1] rfl (.bool r174.1) rfl ?_)
        refine WL_of (L_extract rfl rfl [.bool r174.1, .bool r174.2.1] rfl (.bool r174.2.1) rfl ?_)
        refine WL_of (L_assign rfl rfl (.bool r174.1) rfl ?_)
        refine WL_of (L_assign rfl rfl (.bool r174.2.1) rfl ?_)
        refine WL_nil ?_
        refine thenN ?_
        refine WC_seq ?_
        refine WC_seq ?_
        refine WC_region ?_
        refine WL_of (L_move rfl rfl (.bool r174.2.1) rfl ?_)
        refine WL_of (L_not rfl rfl r174.2.1 rfl ?_)
        refine WL_nil ?_
        refine thenN ?_
        refine WC_ifb rfl (fun c189 => ?_) (fun c189 => ?_)
        · replace H141 := ifP c189 H141
          refine WC_seq ?_
          refine WC_region ?_
          refine WL_of (L_loadN rfl rfl Tryd.underlying24 rfl B187.el (M188.agree 3 rfl) 0 rfl 3 sz24 [.string (sv r8.1.Text), .int .i64 r174.2.2.2.2.1, .slice A182 r174.2.2.2.2.2.length c183] rfl rfl ?_)
          have M190 : Mem W176 [(one g1, W176), (S180, W176), (S184, W176), (one g_a0, W176), (S116, W138), (S122, W138), (one g51, W55), (one g14, W18), (Fr, w)] := M188.front [(S180, W176), (S184, W176), (one g_a0, W176)] rfl
          refine WL_of (L_store M190 rfl (.agg #[.string (sv r8.1.Text), .int .i64 r174.2.2.2.2.1, .slice A182 r174.2.2.2.2.2.length c183]) rfl [.string (sv r8.1.Text), .int .i64 r174.2.2.2.2.1, .slice A182 r174.2.2.2.2.2.length c183] rfl 3 sz24 rfl rfl rfl B187 rfl rfl [.string (sv r8.1.Text), .int .i64 r174.2.2.2.2.1, .slice A182 r174.2.2.2.2.2.length c183] rfl ?_)
          intro W191 B192 M193
          refine WL_of (L_assign rfl rfl (.slice none 0 0) rfl ?_)
          refine WL_of (L_assign rfl rfl (.bool false) rfl ?_)
          refine WL_nil ?_
          refine thenN ?_
          refine WC_ret ?_
          refine thenR ?_
          refine blkR ?_
          refine thenR ?_
          refine blkR ?_
          refine thenR ?_
          obtain rfl := someE H141
          have M194 : Mem W191 [(S184, W176), (one g1, W191), (S180, W176), (one g_a0, W176), (S116, W138), (S122, W138), (one g51, W55), (one g14, W18), (Fr, w)] := M193.front [(one g1, W191), (S180, W176)] rfl
          have M195 : Mem W191 [(S184, W191), (one g1, W191), (S180, W176), (one g_a0, W176), (S116, W138), (S122, W138), (one g51, W55), (one g14, W18), (Fr, w)] := M194.rebase
          have M196 : Mem W191 [(none0, W191), (S184, W191), (one g1, W191), (S180, W176), (one g_a0, W176), (S116, W138), (S122, W138), (one g51, W55), (one g14, W18), (Fr, w)] := M195.empty
          have M197 : Mem W191 [(S180, W176), (none0, W191), (S184, W191), (one g1, W191), (one g_a0, W176), (S116, W138), (S122, W138), (one g51, W55), (one g14, W18), (Fr, w)] := M196.front [(none0, W191), (S184, W191), (one g1, W191)] rfl
          have M198 : Mem W191 [(S180, W191), (none0, W191), (S184, W191), (one g1, W191), (one g_a0, W176), (S116, W138), (S122, W138), (one g51, W55), (one g14, W18), (Fr, w)] := M197.rebase
          have M199 : Mem W191 [(one g_a0, W176), (S180, W191), (none0, W191), (S184, W191), (one g1, W191), (S116, W138), (S122, W138), (one g51, W55), (one g14, W18), (Fr, w)] := M198.front [(S180, W191), (none0, W191), (S184, W191), (one g1, W191)] rfl
          have M200 : Mem W191 [(one g_a0, W191), (S180, W191), (none0, W191), (S184, W191), (one g1, W191), (S116, W138), (S122, W138), (one g51, W55), (one g14, W18), (Fr, w)] := M199.rebase
          have M201 : Mem W191 [(Fr, w), (one g_a0, W191), (S180, W191), (none0, W191), (S184, W191), (one g1, W191), (S116, W138), (S122, W138), (one g51, W55), (one g14, W18)] := M200.front [(one g_a0, W191), (S180, W191), (none0, W191), (S184, W191), (one g1, W191), (S116, W138), (S122, W138), (one g51, W55), (one g14, W18)] rfl
          have M202 : Mem W191 [(one g_a0, W191), (Fr, w), (S180, W191), (none0, W191), (S184, W191), (one g1, W191), (S116, W138), (S122, W138), (one g51, W55), (one g14, W18)] := M201.front [(Fr, w)] rfl
          have M203 : Mem W191 [(S180, W191), (one g_a0, W191), (Fr, w), (none0, W191), (S184, W191), (one g1, W191), (S116, W138), (S122, W138), (one g51, W55), (one g14, W18)] := M202.front [(one g_a0, W191), (Fr, w)] rfl
          have M204 : Mem W191 [(none0, W191), (S180, W191), (one g_a0, W191), (Fr, w), (S184, W191), (one g1, W191), (S116, W138), (S122, W138), (one g51, W55), (one g14, W18)] := M203.front [(S180, W191), (one g_a0, W191), (Fr, w)] rfl
          have M205 : Mem W191 [(S184, W191), (none0, W191), (S180, W191), (one g_a0, W191), (Fr, w), (one g1, W191), (S116, W138), (S122, W138), (one g51, W55), (one g14, W18)] := M204.front [(none0, W191), (S180, W191), (one g_a0, W191), (Fr, w)] rfl
          have M206 : Mem W191 [(S184, W191), (none0, W191), (S180, W191), (one g_a0, W191), (Fr, w)] := M205.sub (List.prefix_append [(S184, W191), (none0, W191), (S180, W191), (one g_a0, W191), (Fr, w)] [(one g1, W191), (S116, W138), (S122, W138), (one g51, W55), (one g14, W18)]).sublist
          refine retR [.agg #[.string (sv r8.1.Text), .int .i64 r174.2.2.2.2.1, .slice A182 r174.2.2.2.2.2.length c183], .slice none 0 0, .bool false] ⟨⟨_, rfl, R_loadVarN Tryd.underlying24 rfl B192.el (M193.agree 0 rfl) sz24 rfl⟩, rfl, rfl, trivial⟩ ?_
          exact ⟨A182, c183, S184, none, 0, none0, A178, c179, S180, rfl, M206, (ho185.agree (M194.agree 0 rfl)).map (fun _ _ h => h), OR.nil W191 none0 W191 none0 3, (ho181.agree (M197.agree 0 rfl)).map (fun _ _ h => h), B186.now (M199.agree 0 rfl)⟩
        · replace H141 := ifN (by rw [c189]; simp) H141
          refine WC_skip ?_
          refine thenN ?_
          refine WC_seq ?_
          refine WC_region ?_
          refine WL_of (L_move rfl rfl (.slice A120 x119.length c121) rfl ?_)
          refine WL_of (L_move rfl rfl (.bool r174.1) rfl ?_)
          refine WL_of (L_buildSlice' M188 rfl rfl [(0, .bool r174.1)] rfl Tryd.underlying95 sz4 zr4 rfl rfl [.bool r174.1] (by kernel_rfl) ?_)
          intro g207 W208 B209 M210
          have M211 : Mem W208 [(S122, W138), (one g207, W208), (S180, W176), (S184, W176), (one g_a0, W176), (one g1, W176), (S116, W138), (one g51, W55), (one g14, W18), (Fr, w)] := M210.front [(one g207, W208), (S180, W176), (S184, W176), (one g_a0, W176), (one g1, W176), (S116, W138)] rfl
          by_cases c212 : List.length x119 + List.length ([r174.1] : List Bool) ≤ 140737488355328
          · replace H141 := ifP c212 H141
            refine WL_of (L_append (ys := ([r174.1] : List Bool)) (v := W138) (E := none0) M211 rfl rfl Tryd.underlying95 el4 rfl rfl hr123 (.inr ⟨⟨g207, 0, none⟩, rfl, Src.box (css := [[.bool r174.1]]) (B209.now (M211.agree 1 rfl)) (⟨rfl, trivial⟩) rfl⟩) (by omega) (by decide) ?_)
            intro W213 S214 A215 c216 ho217 M218
            refine WL_of (L_move rfl rfl (.slice A114 x113.length c115) rfl ?_)
            refine WL_of (L_move rfl rfl (.int .i64 r164) rfl ?_)
            refine WL_of (L_buildSlice' M218 rfl rfl [(0, .int .i64 r164)] rfl Tryd.underlying64 sz3 zr3 rfl rfl [.int .i64 r164] (by kernel_rfl) ?_)
            intro g219 W220 B221 M222
            have M223 : Mem W220 [(S116, W138), (one g219, W220), (S214, W213), (one g207, W208), (S180, W176), (S184, W176), (one g_a0, W176), (one g1, W176), (one g51, W55), (one g14, W18), (Fr, w)] := M222.front [(one g219, W220), (S214, W213), (one g207, W208), (S180, W176), (S184, W176), (one g_a0, W176), (one g1, W176)] rfl
            by_cases c224 : List.length x113 + List.length ([r164] : List Int) ≤ 17592186044416
            · replace H141 := ifP c224 H141
              refine WL_of (L_append (ys := ([r164] : List Int)) (v := W138) (E := none0) M223 rfl rfl Tryd.underlying64 el3 rfl rfl hr117 (.inr ⟨⟨g219, 0, none⟩, rfl, Src.box (css := [[.int .i64 r164]]) (B221.now (M223.agree 1 rfl)) (⟨rfl, trivial⟩) rfl⟩) (by omega) (by decide) ?_)
              intro W225 S226 A227 c228 ho229 M230
              refine WL_of (L_assign rfl rfl (.slice A215 (x119 ++ ([r174.1] : List Bool)).length c216) rfl ?_)
              refine WL_of (L_assign rfl rfl (.slice A227 (x113 ++ ([r164] : List Int)).length c228) rfl ?_)
              refine WL_nil ?_
              refine thenN ?_
              refine WC_seq ?_
              refine WC_seq ?_
              refine WD_start (n := 10) (fun w_ => Mem w_ [(S226, W225), (one g219, W220), (S214, W213), (one g207, W208), (S180, W176), (S184, W176), (one g_a0, W176), (one g1, W176), (one g51, W55), (one g14, W18), (Fr, w)]) [] mixed rfl ?_
              have M231 := M230.drawn
              refine WD_take' 0 rfl (by kernel_rfl) (by kernel_rfl) (by kernel_rfl) (by kernel_rfl) (by kernel_rfl) rfl (fun _ _ _ h => h) rfl _ (M231.sub (.cons_cons _ (.cons_cons _ (.cons_cons _ (.cons_cons _ (.cons_cons _ (.cons_cons _ (.cons_cons _ (.cons_cons _ (.cons_cons _ (.cons_cons _ (.cons_cons _ .slnil)))))))))))) rfl (fun w_ hS => L_move rfl rfl (.pointer (some ⟨g_a0, 0, none⟩)) rfl  ⟨rfl, rfl⟩) ?_
              refine WD_nil 1 rfl (by kernel_rfl) (by kernel_rfl) (by kernel_rfl) (by kernel_rfl) (by kernel_rfl) (fun _ _ _ h => h) rfl ⟨g_a0, 0, none⟩ rfl rfl (M231.sub (.cons_cons _ (.cons_cons _ (.cons_cons _ (.cons_cons _ (.cons_cons _ (.cons_cons _ (.cons_cons _ (.cons_cons _ (.cons_cons _ (.cons_cons _ (.cons_cons _ .slnil)))))))))))) ?_
              refine WD_take' 2 rfl (by kernel_rfl) (by kernel_rfl) (by kernel_rfl) (by kernel_rfl) (by kernel_rfl) rfl (fun _ _ _ h => h) rfl _ (M231.sub (.cons_cons _ (.cons_cons _ (.cons_cons _ (.cons_cons _ (.cons_cons _ (.cons_cons _ (.cons_cons _ (.cons_cons _ (.cons_cons _ (.cons_cons _ (.cons_cons _ .slnil)))))))))))) rfl (fun w_ hS => L_field rfl rfl fd63_1 ⟨g_a0, 0, none⟩ rfl  ⟨rfl, rfl⟩) ?_
              refine WD_take' 3 rfl (by kernel_rfl) (by kernel_rfl) (by kernel_rfl) (by kernel_rfl) (by kernel_rfl) rfl (fun _ _ _ h => h) rfl _ (M231.sub (.cons_cons _ (.cons_cons _ (.cons_cons _ (.cons_cons _ (.cons_cons _ (.cons_cons _ (.cons_cons _ (.cons_cons _ (.cons_cons _ (.cons_cons _ (.cons_cons _ .slnil)))))))))))) rfl (fun w_ hS => L_load1 rfl rfl Tryd.underlying3 rfl B186.el (hS.agree 6 rfl) 1 rfl (.int .i64 r174.2.2.2.1) rfl  ⟨rfl, rfl⟩) ?_
              refine WD_take' 4 rfl (by kernel_rfl) (by kernel_rfl) (by kernel_rfl) (by kernel_rfl) (by kernel_rfl) rfl (fun _ _ _ h => h) rfl _ (M231.sub (.cons_cons _ (.cons_cons _ (.cons_cons _ (.cons_cons _ (.cons_cons _ (.cons_cons _ (.cons_cons _ (.cons_cons _ (.cons_cons _ (.cons_cons _ (.cons_cons _ .slnil)))))))))))) rfl (fun w_ hS => L_move rfl rfl (.pointer (some ⟨g_a0, 0, none⟩)) rfl  ⟨rfl, rfl⟩) ?_
              refine WD_nil 5 rfl (by kernel_rfl) (by kernel_rfl) (by kernel_rfl) (by kernel_rfl) (by kernel_rfl) (fun _ _ _ h => h) rfl ⟨g_a0, 0, none⟩ rfl rfl (M231.sub (.cons_cons _ (.cons_cons _ (.cons_cons _ (.cons_cons _ (.cons_cons _ (.cons_cons _ (.cons_cons _ (.cons_cons _ (.cons_cons _ (.cons_cons _ (.cons_cons _ .slnil)))))))))))) ?_
              refine WD_take' 6 rfl (by kernel_rfl) (by kernel_rfl) (by kernel_rfl) (by kernel_rfl) (by kernel_rfl) rfl (fun _ _ _ h => h) rfl _ (M231.sub (.cons_cons _ (.cons_cons _ (.cons_cons _ (.cons_cons _ (.cons_cons _ (.cons_cons _ (.cons_cons _ (.cons_cons _ (.cons_cons _ (.cons_cons _ (.cons_cons _ .slnil)))))))))))) rfl (fun w_ hS => L_field rfl rfl fd63_0 ⟨g_a0, 0, none⟩ rfl  ⟨rfl, rfl⟩) ?_
              refine WD_take' 7 rfl (by kernel_rfl) (by kernel_rfl) (by kernel_rfl) (by kernel_rfl) (by kernel_rfl) rfl (fun _ _ _ h => h) rfl _ (M231.sub (.cons_cons _ (.cons_cons _ (.cons_cons _ (.cons_cons _ (.cons_cons _ (.cons_cons _ (.cons_cons _ (.cons_cons _ (.cons_cons _ (.cons_cons _ (.cons_cons _ .slnil)))))))))))) rfl (fun w_ hS => L_load1 rfl rfl Tryd.underlying58 rfl B186.el (hS.agree 6 rfl) 0 rfl (.slice A178 r174.2.2.1.length c179) rfl  ⟨rfl, rfl⟩) ?_
              refine WD_take' 8 rfl (by kernel_rfl) (by kernel_rfl) (by kernel_rfl) (by kernel_rfl) (by kernel_rfl) rfl (fun _ _ _ h => h) rfl _ (M231.sub (.cons_cons _ (.cons_cons _ (.cons_cons _ (.cons_cons _ (.cons_cons _ (.cons_cons _ (.cons_cons _ (.cons_cons _ (.cons_cons _ (.cons_cons _ (.cons_cons _ .slnil)))))))))))) rfl (fun w_ hS => L_len rfl rfl (.slice A178 r174.2.2.1.length c179) rfl (r174.2.2.1.length) (N_slice Tryd.underlying58 _ _ _)  ⟨rfl, rfl⟩) ?_
              refine WD_take' 9 rfl (by kernel_rfl) (by kernel_rfl) (by kernel_rfl) (by kernel_rfl) (by kernel_rfl) rfl (fun _ _ _ h => h) rfl _ (M231.sub (.cons_cons _ (.cons_cons _ (.cons_cons _ (.cons_cons _ (.cons_cons _ (.cons_cons _ (.cons_cons _ (.cons_cons _ (.cons_cons _ (.cons_cons _ (.cons_cons _ .slnil)))))))))))) rfl (fun w_ hS => L_bin rfl rfl (.int .i64 r174.2.2.2.1) (.int .i64 (r174.2.2.1.length : Int)) rfl rfl (.bool (decide ((r174.2.2.2.1 : Int) = (r174.2.2.1.length : Int)))) (B_eql _ _ _ _ r174.2.2.2.1 (r174.2.2.1.length : Int))  ⟨rfl, rfl⟩) ?_
              refine WD_done (by kernel_rfl) ?_
              refine thenN ?_
              refine WC_if (p := (r174.2.2.2.1 : Int) = (r174.2.2.1.length : Int)) rfl (fun c232 => ?_) (fun c232 => ?_)
              · replace H141 := ifP c232 H141
                refine WC_exit ?_
                refine thenE ?_
                refine blkY rfl ?_
                refine thenE ?_
                refine blkX ?_
                refine thenN ?_
                refine WC_seq ?_
                refine WC_seq ?_
                refine WC_region ?_
                refine WL_of (L_field rfl rfl fd24_2 ⟨g1, 0, none⟩ rfl ?_)
                refine WL_of (L_load1 rfl rfl Tryd.underlying22 rfl B187.el (M231.agree 7 rfl) 2 rfl (.slice A182 r174.2.2.2.2.2.length c183) rfl ?_)
                refine WL_of (L_len rfl rfl (.slice A182 r174.2.2.2.2.2.length c183) rfl (r174.2.2.2.2.2.length) (N_slice Tryd.underlying22 _ _ _) ?_)
                refine WL_of (L_move rfl rfl (.int .i64 0) rfl ?_)
                refine WL_nil ?_
                refine thenN ?_
                refine WC_block ?_
                refine WC_loop (fun k253 ρ w_ => ∃ (x242 : Int) (x243 : List api_Step) (A244 : Option Addr) (c245 : Nat) (S246 : BS) (ρ0 : Nat → Value), ρ = updL ρ0 [(2, .pointer (some ⟨g1, 0, none⟩)), (3, .slice A227 (x113 ++ ([r164] : List Int)).length c228), (4, .bool x118), (8, .slice A215 (x119 ++ ([r174.1] : List Bool)).length c216), (72, .int .i64 (r174.2.2.2.2.2.length : Int)), (73, .int .i64 x242)] ∧ Mem w_ [(S246, w_), (S226, W225), (one g219, W220), (S214, W213), (one g207, W208), (S180, W176), (one g_a0, W176), (one g1, w_), (one g51, W55), (one g14, W18), (Fr, w)] ∧ OR w_ S246 w_ none0 44 A244 c245 x243 ∧ Bx w_ g1 [.string (sv r8.1.Text), .int .i64 r174.2.2.2.2.1, .slice A244 x243.length c245] 24 ∧ k253 ≤ k142 ∧ plan_reader_plan.l1 k253 r8 x113 x119 r164 r174 x242 x243 = some r) k142 ?_ ?_
                · have M255 : Mem (drawnZ W225) [(S184, W176), (S226, W225), (one g219, W220), (S214, W213), (one g207, W208), (S180, W176), (one g_a0, W176), (one g1, W176), (one g51, W55), (one g14, W18), (Fr, w)] := M231.front [(S226, W225), (one g219, W220), (S214, W213), (one g207, W208), (S180, W176)] rfl
                  have M256 : Mem (drawnZ W225) [(S184, (drawnZ W225)), (S226, W225), (one g219, W220), (S214, W213), (one g207, W208), (S180, W176), (one g_a0, W176), (one g1, W176), (one g51, W55), (one g14, W18), (Fr, w)] := M255.rebase
                  have M257 : Mem (drawnZ W225) [(one g1, W176), (S184, (drawnZ W225)), (S226, W225), (one g219, W220), (S214, W213), (one g207, W208), (S180, W176), (one g_a0, W176), (one g51, W55), (one g14, W18), (Fr, w)] := M256.front [(S184, (drawnZ W225)), (S226, W225), (one g219, W220), (S214, W213), (one g207, W208), (S180, W176), (one g_a0, W176)] rfl
                  have M258 : Mem (drawnZ W225) [(one g1, (drawnZ W225)), (S184, (drawnZ W225)), (S226, W225), (one g219, W220), (S214, W213), (one g207, W208), (S180, W176), (one g_a0, W176), (one g51, W55), (one g14, W18), (Fr, w)] := M257.rebase
                  have M259 : Mem (drawnZ W225) [(Fr, w), (one g1, (drawnZ W225)), (S184, (drawnZ W225)), (S226, W225), (one g219, W220), (S214, W213), (one g207, W208), (S180, W176), (one g_a0, W176), (one g51, W55), (one g14, W18)] := M258.front [(one g1, (drawnZ W225)), (S184, (drawnZ W225)), (S226, W225), (one g219, W220), (S214, W213), (one g207, W208), (S180, W176), (one g_a0, W176), (one g51, W55), (one g14, W18)] rfl
                  have M260 : Mem (drawnZ W225) [(one g14, W18), (Fr, w), (one g1, (drawnZ W225)), (S184, (drawnZ W225)), (S226, W225), (one g219, W220), (S214, W213), (one g207, W208), (S180, W176), (one g_a0, W176), (one g51, W55)] := M259.front [(Fr, w), (one g1, (drawnZ W225)), (S184, (drawnZ W225)), (S226, W225), (one g219, W220), (S214, W213), (one g207, W208), (S180, W176), (one g_a0, W176), (one g51, W55)] rfl
                  have M261 : Mem (drawnZ W225) [(one g51, W55), (one g14, W18), (Fr, w), (one g1, (drawnZ W225)), (S184, (drawnZ W225)), (S226, W225), (one g219, W220), (S214, W213), (one g207, W208), (S180, W176), (one g_a0, W176)] := M260.front [(one g14, W18), (Fr, w), (one g1, (drawnZ W225)), (S184, (drawnZ W225)), (S226, W225), (one g219, W220), (S214, W213), (one g207, W208), (S180, W176), (one g_a0, W176)] rfl
                  have M262 : Mem (drawnZ W225) [(one g1, (drawnZ W225)), (one g51, W55), (one g14, W18), (Fr, w), (S184, (drawnZ W225)), (S226, W225), (one g219, W220), (S214, W213), (one g207, W208), (S180, W176), (one g_a0, W176)] := M261.front [(one g51, W55), (one g14, W18), (Fr, w)] rfl
                  have M263 : Mem (drawnZ W225) [(one g_a0, W176), (one g1, (drawnZ W225)), (one g51, W55), (one g14, W18), (Fr, w), (S184, (drawnZ W225)), (S226, W225), (one g219, W220), (S214, W213), (one g207, W208), (S180, W176)] := M262.front [(one g1, (drawnZ W225)), (one g51, W55), (one g14, W18), (Fr, w), (S184, (drawnZ W225)), (S226, W225), (one g219, W220), (S214, W213), (one g207, W208), (S180, W176)] rfl
                  have M264 : Mem (drawnZ W225) [(S180, W176), (one g_a0, W176), (one g1, (drawnZ W225)), (one g51, W55), (one g14, W18), (Fr, w), (S184, (drawnZ W225)), (S226, W225), (one g219, W220), (S214, W213), (one g207, W208)] := M263.front [(one g_a0, W176), (one g1, (drawnZ W225)), (one g51, W55), (one g14, W18), (Fr, w), (S184, (drawnZ W225)), (S226, W225), (one g219, W220), (S214, W213), (one g207, W208)] rfl
                  have M265 : Mem (drawnZ W225) [(one g207, W208), (S180, W176), (one g_a0, W176), (one g1, (drawnZ W225)), (one g51, W55), (one g14, W18), (Fr, w), (S184, (drawnZ W225)), (S226, W225), (one g219, W220), (S214, W213)] := M264.front [(S180, W176), (one g_a0, W176), (one g1, (drawnZ W225)), (one g51, W55), (one g14, W18), (Fr, w), (S184, (drawnZ W225)), (S226, W225), (one g219, W220), (S214, W213)] rfl
                  have M266 : Mem (drawnZ W225) [(S214, W213), (one g207, W208), (S180, W176), (one g_a0, W176), (one g1, (drawnZ W225)), (one g51, W55), (one g14, W18), (Fr, w), (S184, (drawnZ W225)), (S226, W225), (one g219, W220)] := M265.front [(one g207, W208), (S180, W176), (one g_a0, W176), (one g1, (drawnZ W225)), (one g51, W55), (one g14, W18), (Fr, w), (S184, (drawnZ W225)), (S226, W225), (one g219, W220)] rfl
                  have M267 : Mem (drawnZ W225) [(one g219, W220), (S214, W213), (one g207, W208), (S180, W176), (one g_a0, W176), (one g1, (drawnZ W225)), (one g51, W55), (one g14, W18), (Fr, w), (S184, (drawnZ W225)), (S226, W225)] := M266.front [(S214, W213), (one g207, W208), (S180, W176), (one g_a0, W176), (one g1, (drawnZ W225)), (one g51, W55), (one g14, W18), (Fr, w), (S184, (drawnZ W225)), (S226, W225)] rfl
                  have M268 : Mem (drawnZ W225) [(S226, W225), (one g219, W220), (S214, W213), (one g207, W208), (S180, W176), (one g_a0, W176), (one g1, (drawnZ W225)), (one g51, W55), (one g14, W18), (Fr, w), (S184, (drawnZ W225))] := M267.front [(one g219, W220), (S214, W213), (one g207, W208), (S180, W176), (one g_a0, W176), (one g1, (drawnZ W225)), (one g51, W55), (one g14, W18), (Fr, w), (S184, (drawnZ W225))] rfl
                  have M269 : Mem (drawnZ W225) [(S184, (drawnZ W225)), (S226, W225), (one g219, W220), (S214, W213), (one g207, W208), (S180, W176), (one g_a0, W176), (one g1, (drawnZ W225)), (one g51, W55), (one g14, W18), (Fr, w)] := M268.front [(S226, W225), (one g219, W220), (S214, W213), (one g207, W208), (S180, W176), (one g_a0, W176), (one g1, (drawnZ W225)), (one g51, W55), (one g14, W18), (Fr, w)] rfl
                  exact ⟨0, r174.2.2.2.2.2, A182, c183, S184, _, updL_same _ _ ⟨rfl, rfl, rfl, rfl, rfl, rfl, trivial⟩, M269, (ho185.agree (M255.agree 0 rfl)).map (fun _ _ h => h), B187.now (M257.agree 0 rfl), (Nat.le_refl _), H141⟩
                · rintro k253 _ W249 ⟨x242, x243, A244, c245, S246, ρ251, rfl, M250, hr247, B248, hk254, H252⟩
                  cases k253 with
                  | zero => rw [plan_reader_plan.l1] at H252; cases H252
                  | succ k253 =>
                  rw [plan_reader_plan.l1] at H252
                  refine WC_seq ?_
                  refine WC_region ?_
                  refine WL_of (L_bin rfl rfl (.int .i64 x242) (.int .i64 (r174.2.2.2.2.2.length : Int)) rfl rfl (.bool (decide ((x242 : Int) < (r174.2.2.2.2.2.length : Int)))) (B_lss _ _ _ _ x242 (r174.2.2.2.2.2.length : Int)) ?_)
                  refine WL_nil ?_
                  refine thenN ?_
                  refine WC_seq ?_
                  refine WC_if (p := (x242 : Int) < (r174.2.2.2.2.2.length : Int)) rfl (fun c270 => ?_) (fun c270 => ?_)
                  · replace H252 := ifP c270 H252
                    refine WC_skip ?_
                    refine thenN ?_
                    obtain ⟨z271, hz272, H252⟩ := bindS H252
                    refine WC_cut (fun ρ w_ => ∃ (A273 : Option Addr) (c274 : Nat) (S275 : BS) (ρ0 : Nat → Value), ρ = updL ρ0 [(2, .pointer (some ⟨g1, 0, none⟩)), (3, .slice A227 (x113 ++ ([r164] : List Int)).length c228), (4, .bool x118), (8, .slice A215 (x119 ++ ([r174.1] : List Bool)).length c216), (72, .int .i64 (r174.2.2.2.2.2.length : Int)), (73, .int .i64 x242)] ∧ Mem w_ [(S275, w_), (S226, W225), (one g219, W220), (S214, W213), (one g207, W208), (S180, W176), (one g_a0, W176), (one g1, w_), (one g51, W55), (one g14, W18), (Fr, w)] ∧ OR w_ S275 w_ none0 44 A273 c274 z271 ∧ Bx w_ g1 [.string (sv r8.1.Text), .int .i64 r174.2.2.2.2.1, .slice A273 z271.length c274] 24) ?_ ?_
                    · refine WC_block ?_
                      refine WC_seq ?_
                      refine WC_region ?_
                      refine WL_of (L_move rfl rfl (.int .i64 x242) rfl ?_)
                      refine WL_of (L_assign rfl rfl (.int .i64 x242) rfl ?_)
                      refine WL_nil ?_
                      refine thenN ?_
                      obtain ⟨z278, hz279, hz272⟩ := bindS hz272
                      refine WC_cut (fun ρ w_ => ∃  (ρ0 : Nat → Value), ρ = updL ρ0 [(2, .pointer (some ⟨g1, 0, none⟩)), (3, .slice A227 (x113 ++ ([r164] : List Int)).length c228), (4, .bool x118), (8, .slice A215 (x119 ++ ([r174.1] : List Bool)).length c216), (14, .int .i64 x242), (72, .int .i64 (r174.2.2.2.2.2.length : Int)), (73, .int .i64 x242), (86, .bool z278)] ∧ Mem w_ [(S246, W249), (S226, W225), (one g219, W220), (S214, W213), (one g207, W208), (S180, W176), (one g_a0, W176), (one g1, W249), (one g51, W55), (one g14, W18), (Fr, w)]) ?_ ?_
                      · refine WC_region ?_
                        refine WL_of (L_move rfl rfl (.slice A215 (x119 ++ ([r174.1] : List Bool)).length c216) rfl ?_)
                        refine WL_of (L_move rfl rfl (.int .i64 x242) rfl ?_)
                        have hs280 := ho217.sr
                        obtain ⟨q281, hq282, hz279⟩ := bindS hz279
                        obtain ⟨ad283, cs284, hA285, E286, R287⟩ := hs280.at hq282
                        have hl288 := atL_spec hq282
                        refine WL_of (L_index rfl rfl Tryd.underlying95 sz4 rfl rfl hA285 hl288.1 hl288.2.1 ?_)
                        obtain rfl := R287
                        have E289 : El W213 S214 (Addr.add ad283 (Int.toNat x242 * 1)) [.bool q281] := E286
                        refine WL_of (L_load1 rfl rfl Tryd.underlying4 rfl E289 (M250.agree 3 rfl) 0 rfl (.bool q281) rfl ?_)
                        refine WL_of (L_not rfl rfl q281 rfl ?_)
                        refine WL_of (L_move rfl rfl (.bool (!q281)) rfl ?_)
                        by_cases c290 : (!q281) = true
                        · replace hz279 := ifP c290 hz279
                          refine WL_known 81 true (wtrue c290) ?_
                          refine WL_of (L_loadN rfl rfl Tryd.underlying24 rfl B248.el (M250.agree 7 rfl) 0 rfl 3 sz24 [.string (sv r8.1.Text), .int .i64 r174.2.2.2.2.1, .slice A244 x243.length c245] rfl rfl ?_)
                          refine WL_of (L_move rfl rfl (.int .i64 x242) rfl ?_)
                          have hs291 := hr247.sr
                          obtain ⟨r293, hr294, hz279⟩ := bindS hz279
                          refine WL_of (L_call' rfl rfl cf25 [.agg #[.string (sv r8.1.Text), .int .i64 r174.2.2.2.2.1, .slice A244 x243.length c245], .int .i64 x242] rfl (plan_place_ok (⟨r8.1.Text, r174.2.2.2.2.1, x243⟩ : api_Plan) A244 c245 x242 r293 _ (Un [(S246, W249), (S226, W225), (one g219, W220), (S214, W213), (one g207, W208), (S180, W176), (one g_a0, W176), (one g1, W249), (one g51, W55), (one g14, W18), (Fr, w)]) (hG.call M250 10 rfl) M250.frame ((hs291.agree (M250.agree 0 rfl) (fun _ h => h.elim)).sub (Un.at 0 rfl) (fun _ h => h.elim)) hr294) ?_)
                          rintro _ W295 ⟨rfl, M296⟩
                          have M297 : Mem W295 [(S246, W249), (S226, W225), (one g219, W220), (S214, W213), (one g207, W208), (S180, W176), (one g_a0, W176), (one g1, W249), (one g51, W55), (one g14, W18), (Fr, w)] := M250.back (New := []) M296
                          refine WL_of (L_bin rfl rfl (.int .i64 r293) (.int .i64 2) rfl rfl (.bool (decide ((r293 : Int) ≠ 2))) (B_neq _ _ _ _ r293 2) ?_)
                          refine WL_of (L_pick rfl rfl true rfl (.bool (decide ((r293 : Int) ≠ 2))) rfl ?_)
                          refine WL_nil ?_
                          refine thenN ?_
                          obtain rfl := someE hz279
                          exact ⟨_, updL_same _ _ ⟨rfl, rfl, rfl, rfl, rfl, rfl, rfl, rfl, trivial⟩, M297⟩
                        · replace hz279 := ifN c290 hz279
                          refine WL_known 81 false (wfalse c290) ?_
                          refine WL_of (WO_off rfl rfl ?_)
                          refine WL_of (WO_off rfl rfl ?_)
                          refine WL_of (WO_off rfl rfl ?_)
                          refine WL_of (WO_off rfl rfl ?_)
                          refine WL_of (L_pick rfl rfl false rfl (.bool false) rfl ?_)
                          refine WL_nil ?_
                          refine thenN ?_
                          obtain rfl := someE hz279
                          exact ⟨_, updL_same _ _ ⟨rfl, rfl, rfl, rfl, rfl, rfl, rfl, rfl, trivial⟩, M250⟩
                      · rintro _ W298 ⟨ρ300, rfl, M299⟩
                        refine WC_ifb rfl (fun c301 => ?_) (fun c301 => ?_)
                        · replace hz272 := ifP c301 hz272
                          refine WC_region ?_
                          refine WL_of (L_field rfl rfl fd24_2 ⟨g1, 0, none⟩ rfl ?_)
                          refine WL_of (L_load1 rfl rfl Tryd.underlying22 rfl B248.el (M299.agree 7 rfl) 2 rfl (.slice A244 x243.length c245) rfl ?_)
                          refine WL_of (L_move rfl rfl (.int .i64 x242) rfl ?_)
                          have hs302 := hr247.sr
                          obtain ⟨q303, hq304, hz272⟩ := bindS hz272
                          obtain ⟨ad305, cs306, hA307, E308, R309⟩ := hs302.at hq304
                          have hl310 := atL_spec hq304
                          refine WL_of (L_index rfl rfl Tryd.underlying22 sz44 rfl rfl hA307 hl310.1 hl310.2.1 ?_)
                          obtain rfl := R309
                          have E311 : El W249 S246 (Addr.add ad305 (Int.toNat x242 * 3)) [.string (sv q303.Do), .string (sv q303.Undo), .int .i64 q303.Tries] := E308
                          refine WL_of (L_field rfl rfl fd44_2 (Addr.add ad305 (Int.toNat x242 * 3)) rfl ?_)
                          refine WL_of (L_storeEl M299 rfl (.int .i64 1) rfl [.int .i64 1] rfl 1 sz3 rfl rfl hr247 hA307 hq304 2 rfl rfl (⟨q303.Do, q303.Undo, 1⟩ : api_Step) (fun cs h => by obtain rfl := h; rfl) ?_)
                          intro W312 ho313 M314
                          refine WL_nil ?_
                          refine blkN ?_
                          refine thenN ?_
                          obtain rfl := someE hz272
                          have M315 : Mem W312 [(one g1, W249), (S246, W312), (S226, W225), (one g219, W220), (S214, W213), (one g207, W208), (S180, W176), (one g_a0, W176), (one g51, W55), (one g14, W18), (Fr, w)] := M314.front [(S246, W312), (S226, W225), (one g219, W220), (S214, W213), (one g207, W208), (S180, W176), (one g_a0, W176)] rfl
                          have M316 : Mem W312 [(one g1, W312), (S246, W312), (S226, W225), (one g219, W220), (S214, W213), (one g207, W208), (S180, W176), (one g_a0, W176), (one g51, W55), (one g14, W18), (Fr, w)] := M315.rebase
                          have M317 : Mem W312 [(Fr, w), (one g1, W312), (S246, W312), (S226, W225), (one g219, W220), (S214, W213), (one g207, W208), (S180, W176), (one g_a0, W176), (one g51, W55), (one g14, W18)] := M316.front [(one g1, W312), (S246, W312), (S226, W225), (one g219, W220), (S214, W213), (one g207, W208), (S180, W176), (one g_a0, W176), (one g51, W55), (one g14, W18)] rfl
                          have M318 : Mem W312 [(one g14, W18), (Fr, w), (one g1, W312), (S246, W312), (S226, W225), (one g219, W220), (S214, W213), (one g207, W208), (S180, W176), (one g_a0, W176), (one g51, W55)] := M317.front [(Fr, w), (one g1, W312), (S246, W312), (S226, W225), (one g219, W220), (S214, W213), (one g207, W208), (S180, W176), (one g_a0, W176), (one g51, W55)] rfl
                          have M319 : Mem W312 [(one g51, W55), (one g14, W18), (Fr, w), (one g1, W312), (S246, W312), (S226, W225), (one g219, W220), (S214, W213), (one g207, W208), (S180, W176), (one g_a0, W176)] := M318.front [(one g14, W18), (Fr, w), (one g1, W312), (S246, W312), (S226, W225), (one g219, W220), (S214, W213), (one g207, W208), (S180, W176), (one g_a0, W176)] rfl
                          have M320 : Mem W312 [(one g1, W312), (one g51, W55), (one g14, W18), (Fr, w), (S246, W312), (S226, W225), (one g219, W220), (S214, W213), (one g207, W208), (S180, W176), (one g_a0, W176)] := M319.front [(one g51, W55), (one g14, W18), (Fr, w)] rfl
                          have M321 : Mem W312 [(one g_a0, W176), (one g1, W312), (one g51, W55), (one g14, W18), (Fr, w), (S246, W312), (S226, W225), (one g219, W220), (S214, W213), (one g207, W208), (S180, W176)] := M320.front [(one g1, W312), (one g51, W55), (one g14, W18), (Fr, w), (S246, W312), (S226, W225), (one g219, W220), (S214, W213), (one g207, W208), (S180, W176)] rfl
                          have M322 : Mem W312 [(S180, W176), (one g_a0, W176), (one g1, W312), (one g51, W55), (one g14, W18), (Fr, w), (S246, W312), (S226, W225), (one g219, W220), (S214, W213), (one g207, W208)] := M321.front [(one g_a0, W176), (one g1, W312), (one g51, W55), (one g14, W18), (Fr, w), (S246, W312), (S226, W225), (one g219, W220), (S214, W213), (one g207, W208)] rfl
                          have M323 : Mem W312 [(one g207, W208), (S180, W176), (one g_a0, W176), (one g1, W312), (one g51, W55), (one g14, W18), (Fr, w), (S246, W312), (S226, W225), (one g219, W220), (S214, W213)] := M322.front [(S180, W176), (one g_a0, W176), (one g1, W312), (one g51, W55), (one g14, W18), (Fr, w), (S246, W312), (S226, W225), (one g219, W220), (S214, W213)] rfl
                          have M324 : Mem W312 [(S214, W213), (one g207, W208), (S180, W176), (one g_a0, W176), (one g1, W312), (one g51, W55), (one g14, W18), (Fr, w), (S246, W312), (S226, W225), (one g219, W220)] := M323.front [(one g207, W208), (S180, W176), (one g_a0, W176), (one g1, W312), (one g51, W55), (one g14, W18), (Fr, w), (S246, W312), (S226, W225), (one g219, W220)] rfl
                          have M325 : Mem W312 [(one g219, W220), (S214, W213), (one g207, W208), (S180, W176), (one g_a0, W176), (one g1, W312), (one g51, W55), (one g14, W18), (Fr, w), (S246, W312), (S226, W225)] := M324.front [(S214, W213), (one g207, W208), (S180, W176), (one g_a0, W176), (one g1, W312), (one g51, W55), (one g14, W18), (Fr, w), (S246, W312), (S226, W225)] rfl
                          have M326 : Mem W312 [(S226, W225), (one g219, W220), (S214, W213), (one g207, W208), (S180, W176), (one g_a0, W176), (one g1, W312), (one g51, W55), (one g14, W18), (Fr, w), (S246, W312)] := M325.front [(one g219, W220), (S214, W213), (one g207, W208), (S180, W176), (one g_a0, W176), (one g1, W312), (one g51, W55), (one g14, W18), (Fr, w), (S246, W312)] rfl
                          have M327 : Mem W312 [(S246, W312), (S226, W225), (one g219, W220), (S214, W213), (one g207, W208), (S180, W176), (one g_a0, W176), (one g1, W312), (one g51, W55), (one g14, W18), (Fr, w)] := M326.front [(S226, W225), (one g219, W220), (S214, W213), (one g207, W208), (S180, W176), (one g_a0, W176), (one g1, W312), (one g51, W55), (one g14, W18), (Fr, w)] rfl
                          exact ⟨A244, c245, S246, _, updL_same _ _ ⟨rfl, rfl, rfl, rfl, rfl, rfl, trivial⟩, M327, ho313.map (fun _ _ h => h), (by simpa only [List.length_set] using B248.now (M315.agree 0 rfl))⟩
                        · replace hz272 := ifN (by rw [c301]; simp) hz272
                          refine WC_skip ?_
                          refine blkN ?_
                          refine thenN ?_
                          obtain rfl := someE hz272
                          have M328 : Mem W298 [(S246, W298), (S226, W225), (one g219, W220), (S214, W213), (one g207, W208), (S180, W176), (one g_a0, W176), (one g1, W249), (one g51, W55), (one g14, W18), (Fr, w)] := M299.rebase
                          have M329 : Mem W298 [(one g1, W249), (S246, W298), (S226, W225), (one g219, W220), (S214, W213), (one g207, W208), (S180, W176), (one g_a0, W176), (one g51, W55), (one g14, W18), (Fr, w)] := M328.front [(S246, W298), (S226, W225), (one g219, W220), (S214, W213), (one g207, W208), (S180, W176), (one g_a0, W176)] rfl
                          have M330 : Mem W298 [(one g1, W298), (S246, W298), (S226, W225), (one g219, W220), (S214, W213), (one g207, W208), (S180, W176), (one g_a0, W176), (one g51, W55), (one g14, W18), (Fr, w)] := M329.rebase
                          have M331 : Mem W298 [(Fr, w), (one g1, W298), (S246, W298), (S226, W225), (one g219, W220), (S214, W213), (one g207, W208), (S180, W176), (one g_a0, W176), (one g51, W55), (one g14, W18)] := M330.front [(one g1, W298), (S246, W298), (S226, W225), (one g219, W220), (S214, W213), (one g207, W208), (S180, W176), (one g_a0, W176), (one g51, W55), (one g14, W18)] rfl
                          have M332 : Mem W298 [(one g14, W18), (Fr, w), (one g1, W298), (S246, W298), (S226, W225), (one g219, W220), (S214, W213), (one g207, W208), (S180, W176), (one g_a0, W176), (one g51, W55)] := M331.front [(Fr, w), (one g1, W298), (S246, W298), (S226, W225), (one g219, W220), (S214, W213), (one g207, W208), (S180, W176), (one g_a0, W176), (one g51, W55)] rfl
                          have M333 : Mem W298 [(one g51, W55), (one g14, W18), (Fr, w), (one g1, W298), (S246, W298), (S226, W225), (one g219, W220), (S214, W213), (one g207, W208), (S180, W176), (one g_a0, W176)] := M332.front [(one g14, W18), (Fr, w), (one g1, W298), (S246, W298), (S226, W225), (one g219, W220), (S214, W213), (one g207, W208), (S180, W176), (one g_a0, W176)] rfl
                          have M334 : Mem W298 [(one g1, W298), (one g51, W55), (one g14, W18), (Fr, w), (S246, W298), (S226, W225), (one g219, W220), (S214, W213), (one g207, W208), (S180, W176), (one g_a0, W176)] := M333.front [(one g51, W55), (one g14, W18), (Fr, w)] rfl
                          have M335 : Mem W298 [(one g_a0, W176), (one g1, W298), (one g51, W55), (one g14, W18), (Fr, w), (S246, W298), (S226, W225), (one g219, W220), (S214, W213), (one g207, W208), (S180, W176)] := M334.front [(one g1, W298), (one g51, W55), (one g14, W18), (Fr, w), (S246, W298), (S226, W225), (one g219, W220), (S214, W213), (one g207, W208), (S180, W176)] rfl
                          have M336 : Mem W298 [(S180, W176), (one g_a0, W176), (one g1, W298), (one g51, W55), (one g14, W18), (Fr, w), (S246, W298), (S226, W225), (one g219, W220), (S214, W213), (one g207, W208)] := M335.front [(one g_a0, W176), (one g1, W298), (one g51, W55), (one g14, W18), (Fr, w), (S246, W298), (S226, W225), (one g219, W220), (S214, W213), (one g207, W208)] rfl
                          have M337 : Mem W298 [(one g207, W208), (S180, W176), (one g_a0, W176), (one g1, W298), (one g51, W55), (one g14, W18), (Fr, w), (S246, W298), (S226, W225), (one g219, W220), (S214, W213)] := M336.front [(S180, W176), (one g_a0, W176), (one g1, W298), (one g51, W55), (one g14, W18), (Fr, w), (S246, W298), (S226, W225), (one g219, W220), (S214, W213)] rfl
                          have M338 : Mem W298 [(S214, W213), (one g207, W208), (S180, W176), (one g_a0, W176), (one g1, W298), (one g51, W55), (one g14, W18), (Fr, w), (S246, W298), (S226, W225), (one g219, W220)] := M337.front [(one g207, W208), (S180, W176), (one g_a0, W176), (one g1, W298), (one g51, W55), (one g14, W18), (Fr, w), (S246, W298), (S226, W225), (one g219, W220)] rfl
                          have M339 : Mem W298 [(one g219, W220), (S214, W213), (one g207, W208), (S180, W176), (one g_a0, W176), (one g1, W298), (one g51, W55), (one g14, W18), (Fr, w), (S246, W298), (S226, W225)] := M338.front [(S214, W213), (one g207, W208), (S180, W176), (one g_a0, W176), (one g1, W298), (one g51, W55), (one g14, W18), (Fr, w), (S246, W298), (S226, W225)] rfl
                          have M340 : Mem W298 [(S226, W225), (one g219, W220), (S214, W213), (one g207, W208), (S180, W176), (one g_a0, W176), (one g1, W298), (one g51, W55), (one g14, W18), (Fr, w), (S246, W298)] := M339.front [(one g219, W220), (S214, W213), (one g207, W208), (S180, W176), (one g_a0, W176), (one g1, W298), (one g51, W55), (one g14, W18), (Fr, w), (S246, W298)] rfl
                          have M341 : Mem W298 [(S246, W298), (S226, W225), (one g219, W220), (S214, W213), (one g207, W208), (S180, W176), (one g_a0, W176), (one g1, W298), (one g51, W55), (one g14, W18), (Fr, w)] := M340.front [(S226, W225), (one g219, W220), (S214, W213), (one g207, W208), (S180, W176), (one g_a0, W176), (one g1, W298), (one g51, W55), (one g14, W18), (Fr, w)] rfl
                          exact ⟨A244, c245, S246, _, updL_same _ _ ⟨rfl, rfl, rfl, rfl, rfl, rfl, trivial⟩, M341, (hr247.agree (M299.agree 0 rfl)).map (fun _ _ h => h), B248.now (M329.agree 0 rfl)⟩
                    · rintro _ W342 ⟨A273, c274, S275, ρ344, rfl, M343, hr276, B277⟩
                      refine WC_region ?_
                      refine WL_of (L_bin rfl rfl (.int .i64 x242) (.int .i64 1) rfl rfl (.int .i64 (wrap64 (x242 + 1))) (B_add _ _ _ x242 1) ?_)
                      refine WL_of (L_move rfl rfl (.int .i64 (wrap64 (x242 + 1))) rfl ?_)
                      refine WL_nil ?_
                      refine thenN ?_
                      have M345 : Mem W342 [(one g1, W342), (S275, W342), (S226, W225), (one g219, W220), (S214, W213), (one g207, W208), (S180, W176), (one g_a0, W176), (one g51, W55), (one g14, W18), (Fr, w)] := M343.front [(S275, W342), (S226, W225), (one g219, W220), (S214, W213), (one g207, W208), (S180, W176), (one g_a0, W176)] rfl
                      have M346 : Mem W342 [(Fr, w), (one g1, W342), (S275, W342), (S226, W225), (one g219, W220), (S214, W213), (one g207, W208), (S180, W176), (one g_a0, W176), (one g51, W55), (one g14, W18)] := M345.front [(one g1, W342), (S275, W342), (S226, W225), (one g219, W220), (S214, W213), (one g207, W208), (S180, W176), (one g_a0, W176), (one g51, W55), (one g14, W18)] rfl
                      have M347 : Mem W342 [(one g14, W18), (Fr, w), (one g1, W342), (S275, W342), (S226, W225), (one g219, W220), (S214, W213), (one g207, W208), (S180, W176), (one g_a0, W176), (one g51, W55)] := M346.front [(Fr, w), (one g1, W342), (S275, W342), (S226, W225), (one g219, W220), (S214, W213), (one g207, W208), (S180, W176), (one g_a0, W176), (one g51, W55)] rfl
                      have M348 : Mem W342 [(one g51, W55), (one g14, W18), (Fr, w), (one g1, W342), (S275, W342), (S226, W225), (one g219, W220), (S214, W213), (one g207, W208), (S180, W176), (one g_a0, W176)] := M347.front [(one g14, W18), (Fr, w), (one g1, W342), (S275, W342), (S226, W225), (one g219, W220), (S214, W213), (one g207, W208), (S180, W176), (one g_a0, W176)] rfl
                      have M349 : Mem W342 [(one g1, W342), (one g51, W55), (one g14, W18), (Fr, w), (S275, W342), (S226, W225), (one g219, W220), (S214, W213), (one g207, W208), (S180, W176), (one g_a0, W176)] := M348.front [(one g51, W55), (one g14, W18), (Fr, w)] rfl
                      have M350 : Mem W342 [(one g_a0, W176), (one g1, W342), (one g51, W55), (one g14, W18), (Fr, w), (S275, W342), (S226, W225), (one g219, W220), (S214, W213), (one g207, W208), (S180, W176)] := M349.front [(one g1, W342), (one g51, W55), (one g14, W18), (Fr, w), (S275, W342), (S226, W225), (one g219, W220), (S214, W213), (one g207, W208), (S180, W176)] rfl
                      have M351 : Mem W342 [(S180, W176), (one g_a0, W176), (one g1, W342), (one g51, W55), (one g14, W18), (Fr, w), (S275, W342), (S226, W225), (one g219, W220), (S214, W213), (one g207, W208)] := M350.front [(one g_a0, W176), (one g1, W342), (one g51, W55), (one g14, W18), (Fr, w), (S275, W342), (S226, W225), (one g219, W220), (S214, W213), (one g207, W208)] rfl
                      have M352 : Mem W342 [(one g207, W208), (S180, W176), (one g_a0, W176), (one g1, W342), (one g51, W55), (one g14, W18), (Fr, w), (S275, W342), (S226, W225), (one g219, W220), (S214, W213)] := M351.front [(S180, W176), (one g_a0, W176), (one g1, W342), (one g51, W55), (one g14, W18), (Fr, w), (S275, W342), (S226, W225), (one g219, W220), (S214, W213)] rfl
                      have M353 : Mem W342 [(S214, W213), (one g207, W208), (S180, W176), (one g_a0, W176), (one g1, W342), (one g51, W55), (one g14, W18), (Fr, w), (S275, W342), (S226, W225), (one g219, W220)] := M352.front [(one g207, W208), (S180, W176), (one g_a0, W176), (one g1, W342), (one g51, W55), (one g14, W18), (Fr, w), (S275, W342), (S226, W225), (one g219, W220)] rfl
                      have M354 : Mem W342 [(one g219, W220), (S214, W213), (one g207, W208), (S180, W176), (one g_a0, W176), (one g1, W342), (one g51, W55), (one g14, W18), (Fr, w), (S275, W342), (S226, W225)] := M353.front [(S214, W213), (one g207, W208), (S180, W176), (one g_a0, W176), (one g1, W342), (one g51, W55), (one g14, W18), (Fr, w), (S275, W342), (S226, W225)] rfl
                      have M355 : Mem W342 [(S226, W225), (one g219, W220), (S214, W213), (one g207, W208), (S180, W176), (one g_a0, W176), (one g1, W342), (one g51, W55), (one g14, W18), (Fr, w), (S275, W342)] := M354.front [(one g219, W220), (S214, W213), (one g207, W208), (S180, W176), (one g_a0, W176), (one g1, W342), (one g51, W55), (one g14, W18), (Fr, w), (S275, W342)] rfl
                      have M356 : Mem W342 [(S275, W342), (S226, W225), (one g219, W220), (S214, W213), (one g207, W208), (S180, W176), (one g_a0, W176), (one g1, W342), (one g51, W55), (one g14, W18), (Fr, w)] := M355.front [(S226, W225), (one g219, W220), (S214, W213), (one g207, W208), (S180, W176), (one g_a0, W176), (one g1, W342), (one g51, W55), (one g14, W18), (Fr, w)] rfl
                      exact ⟨k253, by omega, wrap64 (x242 + 1), z271, A273, c274, S275, _, updL_same _ _ ⟨rfl, rfl, rfl, rfl, rfl, rfl, trivial⟩, M356, hr276.map (fun _ _ h => h), B277, (by omega), H252⟩
                  · replace H252 := ifN c270 H252
                    refine WC_exit ?_
                    refine thenE ?_
                    refine thenE ?_
                    refine blkX ?_
                    refine thenN ?_
                    refine WC_seq ?_
                    refine WC_region ?_
                    refine WL_of (L_loadN rfl rfl Tryd.underlying24 rfl B248.el (M250.agree 7 rfl) 0 rfl 3 sz24 [.string (sv r8.1.Text), .int .i64 r174.2.2.2.2.1, .slice A244 x243.length c245] rfl rfl ?_)
                    refine WL_of (L_move rfl rfl (.slice A227 (x113 ++ ([r164] : List Int)).length c228) rfl ?_)
                    have M357 : Mem W249 [(one g1, W249), (S246, W249), (S226, W225), (one g219, W220), (S214, W213), (one g207, W208), (S180, W176), (one g_a0, W176), (one g51, W55), (one g14, W18), (Fr, w)] := M250.front [(S246, W249), (S226, W225), (one g219, W220), (S214, W213), (one g207, W208), (S180, W176), (one g_a0, W176)] rfl
                    refine WL_of (L_store M357 rfl (.agg #[.string (sv r8.1.Text), .int .i64 r174.2.2.2.2.1, .slice A244 x243.length c245]) rfl [.string (sv r8.1.Text), .int .i64 r174.2.2.2.2.1, .slice A244 x243.length c245] rfl 3 sz24 rfl rfl rfl B248 rfl rfl [.string (sv r8.1.Text), .int .i64 r174.2.2.2.2.1, .slice A244 x243.length c245] rfl ?_)
                    intro W358 B359 M360
                    refine WL_of (L_assign rfl rfl (.slice A227 (x113 ++ ([r164] : List Int)).length c228) rfl ?_)
                    refine WL_of (L_assign rfl rfl (.bool true) rfl ?_)
                    refine WL_nil ?_
                    refine thenN ?_
                    refine WC_ret ?_
                    obtain rfl := someE H252
                    have M361 : Mem W358 [(S246, W249), (one g1, W358), (S226, W225), (one g219, W220), (S214, W213), (one g207, W208), (S180, W176), (one g_a0, W176), (one g51, W55), (one g14, W18), (Fr, w)] := M360.front [(one g1, W358)] rfl
                    have M362 : Mem W358 [(S246, W358), (one g1, W358), (S226, W225), (one g219, W220), (S214, W213), (one g207, W208), (S180, W176), (one g_a0, W176), (one g51, W55), (one g14, W18), (Fr, w)] := M361.rebase
                    have M363 : Mem W358 [(S226, W225), (S246, W358), (one g1, W358), (one g219, W220), (S214, W213), (one g207, W208), (S180, W176), (one g_a0, W176), (one g51, W55), (one g14, W18), (Fr, w)] := M362.front [(S246, W358), (one g1, W358)] rfl
                    have M364 : Mem W358 [(S226, W358), (S246, W358), (one g1, W358), (one g219, W220), (S214, W213), (one g207, W208), (S180, W176), (one g_a0, W176), (one g51, W55), (one g14, W18), (Fr, w)] := M363.rebase
                    have M365 : Mem W358 [(S180, W176), (S226, W358), (S246, W358), (one g1, W358), (one g219, W220), (S214, W213), (one g207, W208), (one g_a0, W176), (one g51, W55), (one g14, W18), (Fr, w)] := M364.front [(S226, W358), (S246, W358), (one g1, W358), (one g219, W220), (S214, W213), (one g207, W208)] rfl
                    have M366 : Mem W358 [(S180, W358), (S226, W358), (S246, W358), (one g1, W358), (one g219, W220), (S214, W213), (one g207, W208), (one g_a0, W176), (one g51, W55), (one g14, W18), (Fr, w)] := M365.rebase
                    have M367 : Mem W358 [(one g_a0, W176), (S180, W358), (S226, W358), (S246, W358), (one g1, W358), (one g219, W220), (S214, W213), (one g207, W208), (one g51, W55), (one g14, W18), (Fr, w)] := M366.front [(S180, W358), (S226, W358), (S246, W358), (one g1, W358), (one g219, W220), (S214, W213), (one g207, W208)] rfl
                    have M368 : Mem W358 [(one g_a0, W358), (S180, W358), (S226, W358), (S246, W358), (one g1, W358), (one g219, W220), (S214, W213), (one g207, W208), (one g51, W55), (one g14, W18), (Fr, w)] := M367.rebase
                    have M369 : Mem W358 [(Fr, w), (one g_a0, W358), (S180, W358), (S226, W358), (S246, W358), (one g1, W358), (one g219, W220), (S214, W213), (one g207, W208), (one g51, W55), (one g14, W18)] := M368.front [(one g_a0, W358), (S180, W358), (S226, W358), (S246, W358), (one g1, W358), (one g219, W220), (S214, W213), (one g207, W208), (one g51, W55), (one g14, W18)] rfl
                    have M370 : Mem W358 [(one g_a0, W358), (Fr, w), (S180, W358), (S226, W358), (S246, W358), (one g1, W358), (one g219, W220), (S214, W213), (one g207, W208), (one g51, W55), (one g14, W18)] := M369.front [(Fr, w)] rfl
                    have M371 : Mem W358 [(S180, W358), (one g_a0, W358), (Fr, w), (S226, W358), (S246, W358), (one g1, W358), (one g219, W220), (S214, W213), (one g207, W208), (one g51, W55), (one g14, W18)] := M370.front [(one g_a0, W358), (Fr, w)] rfl
                    have M372 : Mem W358 [(S226, W358), (S180, W358), (one g_a0, W358), (Fr, w), (S246, W358), (one g1, W358), (one g219, W220), (S214, W213), (one g207, W208), (one g51, W55), (one g14, W18)] := M371.front [(S180, W358), (one g_a0, W358), (Fr, w)] rfl
                    have M373 : Mem W358 [(S246, W358), (S226, W358), (S180, W358), (one g_a0, W358), (Fr, w), (one g1, W358), (one g219, W220), (S214, W213), (one g207, W208), (one g51, W55), (one g14, W18)] := M372.front [(S226, W358), (S180, W358), (one g_a0, W358), (Fr, w)] rfl
                    have M374 : Mem W358 [(S246, W358), (S226, W358), (S180, W358), (one g_a0, W358), (Fr, w)] := M373.sub (List.prefix_append [(S246, W358), (S226, W358), (S180, W358), (one g_a0, W358), (Fr, w)] [(one g1, W358), (one g219, W220), (S214, W213), (one g207, W208), (one g51, W55), (one g14, W18)]).sublist
                    refine retR [.agg #[.string (sv r8.1.Text), .int .i64 r174.2.2.2.2.1, .slice A244 x243.length c245], .slice A227 (x113 ++ ([r164] : List Int)).length c228, .bool true] ⟨⟨_, rfl, R_loadVarN Tryd.underlying24 rfl B359.el (M360.agree 0 rfl) sz24 rfl⟩, rfl, rfl, trivial⟩ ?_
                    exact ⟨A244, c245, S246, A227, c228, S226, A178, c179, S180, rfl, M374, (hr247.agree (M361.agree 0 rfl)).map (fun _ _ h => h), (ho229.agree (M363.agree 0 rfl)).map (fun _ _ h => h), (ho181.agree (M365.agree 0 rfl)).map (fun _ _ h => h), B186.now (M367.agree 0 rfl)⟩
              · replace H141 := ifN c232 H141
                refine WC_skip ?_
                refine thenN ?_
                refine WC_seq ?_
                refine WC_region ?_
                refine WL_of (L_move rfl rfl (.pointer (some ⟨g_a0, 0, none⟩)) rfl ?_)
                have hs375 := ho181.sr
                have M376 : Mem (drawnZ W225) [(one g_a0, W176), (S226, W225), (one g219, W220), (S214, W213), (one g207, W208), (S180, W176), (S184, W176), (one g1, W176), (one g51, W55), (one g14, W18), (Fr, w)] := M231.front [(S226, W225), (one g219, W220), (S214, W213), (one g207, W208), (S180, W176), (S184, W176)] rfl
                have M377 : Mem (drawnZ W225) [(S226, W225), (one g219, W220), (S214, W213), (one g207, W208), (S180, W176), (S184, W176), (one g1, W176), (one g51, W55), (one g14, W18), (Fr, w)] := M376.drop
                obtain ⟨r378, hr379, H141⟩ := bindS H141
                refine WL_of (L_call' rfl rfl cf36 [.pointer (some ⟨g_a0, 0, none⟩), .int .i64 4, .string (sv (lit [44]))] rfl (plan_reader_take_ok (⟨r174.2.2.1, r174.2.2.2.1, a0.end_⟩ : plan_reader) g_a0 A178 c179 4 (lit [44]) r378 _ (Un [(S226, W225), (one g219, W220), (S214, W213), (one g207, W208), (S180, W176), (S184, W176), (one g1, W176), (one g51, W55), (one g14, W18), (Fr, w)]) (hG.call M377 9 rfl) M376.lend ((hs375.agree (M377.agree 4 rfl) (fun _ h => h.elim)).sub (Un.at 4 rfl) (fun _ h => h.elim)) (B186.now (M376.agree 0 rfl)) hr379) ?_)
                rintro _ W380 ⟨rfl, M381, B382⟩
                have M383 : Mem W380 [(one g_a0, W380), (S226, W225), (one g219, W220), (S214, W213), (one g207, W208), (S180, W176), (S184, W176), (one g1, W176), (one g51, W55), (one g14, W18), (Fr, w)] := M377.back (New := [(one g_a0, W380)]) M381
                refine WL_of (L_move rfl rfl (.tuple #[.agg #[.int .i64 r378.1.Kind, .int .i64 r378.1.At, .string (sv r378.1.Text), .int .i64 r378.1.Num], .bool r378.2.1]) rfl ?_)
                refine WL_of (L_extract rfl rfl [.agg #[.int .i64 r378.1.Kind, .int .i64 r378.1.At, .string (sv r378.1.Text), .int .i64 r378.1.Num], .bool r378.2.1] rfl (.agg #[.int .i64 r378.1.Kind, .int .i64 r378.1.At, .string (sv r378.1.Text), .int .i64 r378.1.Num]) rfl ?_)
                refine WL_of (L_extract rfl rfl [.agg #[.int .i64 r378.1.Kind, .int .i64 r378.1.At, .string (sv r378.1.Text), .int .i64 r378.1.Num], .bool r378.2.1] rfl (.bool r378.2.1) rfl ?_)
                refine WL_of (L_alloc M383 rfl rfl zr88 [.int .i64 0, .int .i64 0, .string (sv (lit [])), .int .i64 0] rfl ?_)
                intro g384 W385 B386 M387
                refine WL_of (L_store M387 rfl (.agg #[.int .i64 r378.1.Kind, .int .i64 r378.1.At, .string (sv r378.1.Text), .int .i64 r378.1.Num]) rfl [.int .i64 r378.1.Kind, .int .i64 r378.1.At, .string (sv r378.1.Text), .int .i64 r378.1.Num] rfl 4 sz88 rfl rfl rfl B386 rfl rfl [.int .i64 r378.1.Kind, .int .i64 r378.1.At, .string (sv r378.1.Text), .int .i64 r378.1.Num] rfl ?_)
                intro W388 B389 M390
                refine WL_of (L_assign rfl rfl (.bool r378.2.1) rfl ?_)
                refine WL_nil ?_
                refine thenN ?_
                refine WC_seq ?_
                refine WC_region ?_
                refine WL_of (L_move rfl rfl (.bool r378.2.1) rfl ?_)
                refine WL_of (L_not rfl rfl r378.2.1 rfl ?_)
                refine WL_nil ?_
                refine thenN ?_
                refine WC_ifb rfl (fun c391 => ?_) (fun c391 => ?_)
                · replace H141 := ifP c391 H141
                  refine WC_seq ?_
                  refine WC_region ?_
                  refine WL_of (L_loadN rfl rfl Tryd.underlying24 rfl B187.el (M390.agree 8 rfl) 0 rfl 3 sz24 [.string (sv r8.1.Text), .int .i64 r174.2.2.2.2.1, .slice A182 r174.2.2.2.2.2.length c183] rfl rfl ?_)
                  have M392 : Mem W388 [(one g1, W176), (one g384, W388), (one g_a0, W380), (S226, W225), (one g219, W220), (S214, W213), (one g207, W208), (S180, W176), (S184, W176), (one g51, W55), (one g14, W18), (Fr, w)] := M390.front [(one g384, W388), (one g_a0, W380), (S226, W225), (one g219, W220), (S214, W213), (one g207, W208), (S180, W176), (S184, W176)] rfl
                  refine WL_of (L_store M392 rfl (.agg #[.string (sv r8.1.Text), .int .i64 r174.2.2.2.2.1, .slice A182 r174.2.2.2.2.2.length c183]) rfl [.string (sv r8.1.Text), .int .i64 r174.2.2.2.2.1, .slice A182 r174.2.2.2.2.2.length c183] rfl 3 sz24 rfl rfl rfl B187 rfl rfl [.string (sv r8.1.Text), .int .i64 r174.2.2.2.2.1, .slice A182 r174.2.2.2.2.2.length c183] rfl ?_)
                  intro W393 B394 M395
                  refine WL_of (L_assign rfl rfl (.slice none 0 0) rfl ?_)
                  refine WL_of (L_assign rfl rfl (.bool false) rfl ?_)
                  refine WL_nil ?_
                  refine thenN ?_
                  refine WC_ret ?_
                  refine blkR ?_
                  refine thenR ?_
                  refine blkR ?_
                  refine thenR ?_
                  obtain rfl := someE H141
                  have M396 : Mem W393 [(S184, W176), (one g1, W393), (one g384, W388), (one g_a0, W380), (S226, W225), (one g219, W220), (S214, W213), (one g207, W208), (S180, W176), (one g51, W55), (one g14, W18), (Fr, w)] := M395.front [(one g1, W393), (one g384, W388), (one g_a0, W380), (S226, W225), (one g219, W220), (S214, W213), (one g207, W208), (S180, W176)] rfl
                  have M397 : Mem W393 [(S184, W393), (one g1, W393), (one g384, W388), (one g_a0, W380), (S226, W225), (one g219, W220), (S214, W213), (one g207, W208), (S180, W176), (one g51, W55), (one g14, W18), (Fr, w)] := M396.rebase
                  have M398 : Mem W393 [(none0, W393), (S184, W393), (one g1, W393), (one g384, W388), (one g_a0, W380), (S226, W225), (one g219, W220), (S214, W213), (one g207, W208), (S180, W176), (one g51, W55), (one g14, W18), (Fr, w)] := M397.empty
                  have M399 : Mem W393 [(S180, W176), (none0, W393), (S184, W393), (one g1, W393), (one g384, W388), (one g_a0, W380), (S226, W225), (one g219, W220), (S214, W213), (one g207, W208), (one g51, W55), (one g14, W18), (Fr, w)] := M398.front [(none0, W393), (S184, W393), (one g1, W393), (one g384, W388), (one g_a0, W380), (S226, W225), (one g219, W220), (S214, W213), (one g207, W208)] rfl
                  have M400 : Mem W393 [(S180, W393), (none0, W393), (S184, W393), (one g1, W393), (one g384, W388), (one g_a0, W380), (S226, W225), (one g219, W220), (S214, W213), (one g207, W208), (one g51, W55), (one g14, W18), (Fr, w)] := M399.rebase
                  have M401 : Mem W393 [(one g_a0, W380), (S180, W393), (none0, W393), (S184, W393), (one g1, W393), (one g384, W388), (S226, W225), (one g219, W220), (S214, W213), (one g207, W208), (one g51, W55), (one g14, W18), (Fr, w)] := M400.front [(S180, W393), (none0, W393), (S184, W393), (one g1, W393), (one g384, W388)] rfl
                  have M402 : Mem W393 [(one g_a0, W393), (S180, W393), (none0, W393), (S184, W393), (one g1, W393), (one g384, W388), (S226, W225), (one g219, W220), (S214, W213), (one g207, W208), (one g51, W55), (one g14, W18), (Fr, w)] := M401.rebase
                  have M403 : Mem W393 [(Fr, w), (one g_a0, W393), (S180, W393), (none0, W393), (S184, W393), (one g1, W393), (one g384, W388), (S226, W225), (one g219, W220), (S214, W213), (one g207, W208), (one g51, W55), (one g14, W18)] := M402.front [(one g_a0, W393), (S180, W393), (none0, W393), (S184, W393), (one g1, W393), (one g384, W388), (S226, W225), (one g219, W220), (S214, W213), (one g207, W208), (one g51, W55), (one g14, W18)] rfl
                  have M404 : Mem W393 [(one g_a0, W393), (Fr, w), (S180, W393), (none0, W393), (S184, W393), (one g1, W393), (one g384, W388), (S226, W225), (one g219, W220), (S214, W213), (one g207, W208), (one g51, W55), (one g14, W18)] := M403.front [(Fr, w)] rfl
                  have M405 : Mem W393 [(S180, W393), (one g_a0, W393), (Fr, w), (none0, W393), (S184, W393), (one g1, W393), (one g384, W388), (S226, W225), (one g219, W220), (S214, W213), (one g207, W208), (one g51, W55), (one g14, W18)] := M404.front [(one g_a0, W393), (Fr, w)] rfl
                  have M406 : Mem W393 [(none0, W393), (S180, W393), (one g_a0, W393), (Fr, w), (S184, W393), (one g1, W393), (one g384, W388), (S226, W225), (one g219, W220), (S214, W213), (one g207, W208), (one g51, W55), (one g14, W18)] := M405.front [(S180, W393), (one g_a0, W393), (Fr, w)] rfl
                  have M407 : Mem W393 [(S184, W393), (none0, W393), (S180, W393), (one g_a0, W393), (Fr, w), (one g1, W393), (one g384, W388), (S226, W225), (one g219, W220), (S214, W213), (one g207, W208), (one g51, W55), (one g14, W18)] := M406.front [(none0, W393), (S180, W393), (one g_a0, W393), (Fr, w)] rfl
                  have M408 : Mem W393 [(S184, W393), (none0, W393), (S180, W393), (one g_a0, W393), (Fr, w)] := M407.sub (List.prefix_append [(S184, W393), (none0, W393), (S180, W393), (one g_a0, W393), (Fr, w)] [(one g1, W393), (one g384, W388), (S226, W225), (one g219, W220), (S214, W213), (one g207, W208), (one g51, W55), (one g14, W18)]).sublist
                  refine retR [.agg #[.string (sv r8.1.Text), .int .i64 r174.2.2.2.2.1, .slice A182 r174.2.2.2.2.2.length c183], .slice none 0 0, .bool false] ⟨⟨_, rfl, R_loadVarN Tryd.underlying24 rfl B394.el (M395.agree 0 rfl) sz24 rfl⟩, rfl, rfl, trivial⟩ ?_
                  exact ⟨A182, c183, S184, none, 0, none0, A178, c179, S180, rfl, M408, (ho185.agree (M396.agree 0 rfl)).map (fun _ _ h => h), OR.nil W393 none0 W393 none0 3, (ho181.agree (M399.agree 0 rfl)).map (fun _ _ h => h), B382.now (M401.agree 0 rfl)⟩
                · replace H141 := ifN (by rw [c391]; simp) H141
                  refine WC_skip ?_
                  refine blkN ?_
                  refine thenN ?_
                  have M409 : Mem W388 [(S226, W225), (one g384, W388), (one g_a0, W380), (one g219, W220), (S214, W213), (one g207, W208), (S180, W176), (S184, W176), (one g1, W176), (one g51, W55), (one g14, W18), (Fr, w)] := M390.front [(one g384, W388), (one g_a0, W380)] rfl
                  have M410 : Mem W388 [(S226, W388), (one g384, W388), (one g_a0, W380), (one g219, W220), (S214, W213), (one g207, W208), (S180, W176), (S184, W176), (one g1, W176), (one g51, W55), (one g14, W18), (Fr, w)] := M409.rebase
                  have M411 : Mem W388 [(S214, W213), (S226, W388), (one g384, W388), (one g_a0, W380), (one g219, W220), (one g207, W208), (S180, W176), (S184, W176), (one g1, W176), (one g51, W55), (one g14, W18), (Fr, w)] := M410.front [(S226, W388), (one g384, W388), (one g_a0, W380), (one g219, W220)] rfl
                  have M412 : Mem W388 [(S214, W388), (S226, W388), (one g384, W388), (one g_a0, W380), (one g219, W220), (one g207, W208), (S180, W176), (S184, W176), (one g1, W176), (one g51, W55), (one g14, W18), (Fr, w)] := M411.rebase
                  have M413 : Mem W388 [(S180, W176), (S214, W388), (S226, W388), (one g384, W388), (one g_a0, W380), (one g219, W220), (one g207, W208), (S184, W176), (one g1, W176), (one g51, W55), (one g14, W18), (Fr, w)] := M412.front [(S214, W388), (S226, W388), (one g384, W388), (one g_a0, W380), (one g219, W220), (one g207, W208)] rfl
                  have M414 : Mem W388 [(S180, W388), (S214, W388), (S226, W388), (one g384, W388), (one g_a0, W380), (one g219, W220), (one g207, W208), (S184, W176), (one g1, W176), (one g51, W55), (one g14, W18), (Fr, w)] := M413.rebase
                  have M415 : Mem W388 [(S184, W176), (S180, W388), (S214, W388), (S226, W388), (one g384, W388), (one g_a0, W380), (one g219, W220), (one g207, W208), (one g1, W176), (one g51, W55), (one g14, W18), (Fr, w)] := M414.front [(S180, W388), (S214, W388), (S226, W388), (one g384, W388), (one g_a0, W380), (one g219, W220), (one g207, W208)] rfl
                  have M416 : Mem W388 [(S184, W388), (S180, W388), (S214, W388), (S226, W388), (one g384, W388), (one g_a0, W380), (one g219, W220), (one g207, W208), (one g1, W176), (one g51, W55), (one g14, W18), (Fr, w)] := M415.rebase
                  have M417 : Mem W388 [(one g_a0, W380), (S184, W388), (S180, W388), (S214, W388), (S226, W388), (one g384, W388), (one g219, W220), (one g207, W208), (one g1, W176), (one g51, W55), (one g14, W18), (Fr, w)] := M416.front [(S184, W388), (S180, W388), (S214, W388), (S226, W388), (one g384, W388)] rfl
                  have M418 : Mem W388 [(one g_a0, W388), (S184, W388), (S180, W388), (S214, W388), (S226, W388), (one g384, W388), (one g219, W220), (one g207, W208), (one g1, W176), (one g51, W55), (one g14, W18), (Fr, w)] := M417.rebase
                  have M419 : Mem W388 [(one g1, W176), (one g_a0, W388), (S184, W388), (S180, W388), (S214, W388), (S226, W388), (one g384, W388), (one g219, W220), (one g207, W208), (one g51, W55), (one g14, W18), (Fr, w)] := M418.front [(one g_a0, W388), (S184, W388), (S180, W388), (S214, W388), (S226, W388), (one g384, W388), (one g219, W220), (one g207, W208)] rfl
                  have M420 : Mem W388 [(one g1, W388), (one g_a0, W388), (S184, W388), (S180, W388), (S214, W388), (S226, W388), (one g384, W388), (one g219, W220), (one g207, W208), (one g51, W55), (one g14, W18), (Fr, w)] := M419.rebase
                  have M421 : Mem W388 [(Fr, w), (one g1, W388), (one g_a0, W388), (S184, W388), (S180, W388), (S214, W388), (S226, W388), (one g384, W388), (one g219, W220), (one g207, W208), (one g51, W55), (one g14, W18)] := M420.front [(one g1, W388), (one g_a0, W388), (S184, W388), (S180, W388), (S214, W388), (S226, W388), (one g384, W388), (one g219, W220), (one g207, W208), (one g51, W55), (one g14, W18)] rfl
                  have M422 : Mem W388 [(one g14, W18), (Fr, w), (one g1, W388), (one g_a0, W388), (S184, W388), (S180, W388), (S214, W388), (S226, W388), (one g384, W388), (one g219, W220), (one g207, W208), (one g51, W55)] := M421.front [(Fr, w), (one g1, W388), (one g_a0, W388), (S184, W388), (S180, W388), (S214, W388), (S226, W388), (one g384, W388), (one g219, W220), (one g207, W208), (one g51, W55)] rfl
                  have M423 : Mem W388 [(one g1, W388), (one g14, W18), (Fr, w), (one g_a0, W388), (S184, W388), (S180, W388), (S214, W388), (S226, W388), (one g384, W388), (one g219, W220), (one g207, W208), (one g51, W55)] := M422.front [(one g14, W18), (Fr, w)] rfl
                  have M424 : Mem W388 [(one g_a0, W388), (one g1, W388), (one g14, W18), (Fr, w), (S184, W388), (S180, W388), (S214, W388), (S226, W388), (one g384, W388), (one g219, W220), (one g207, W208), (one g51, W55)] := M423.front [(one g1, W388), (one g14, W18), (Fr, w)] rfl
                  have M425 : Mem W388 [(one g51, W55), (one g_a0, W388), (one g1, W388), (one g14, W18), (Fr, w), (S184, W388), (S180, W388), (S214, W388), (S226, W388), (one g384, W388), (one g219, W220), (one g207, W208)] := M424.front [(one g_a0, W388), (one g1, W388), (one g14, W18), (Fr, w), (S184, W388), (S180, W388), (S214, W388), (S226, W388), (one g384, W388), (one g219, W220), (one g207, W208)] rfl
                  have M426 : Mem W388 [(S184, W388), (one g51, W55), (one g_a0, W388), (one g1, W388), (one g14, W18), (Fr, w), (S180, W388), (S214, W388), (S226, W388), (one g384, W388), (one g219, W220), (one g207, W208)] := M425.front [(one g51, W55), (one g_a0, W388), (one g1, W388), (one g14, W18), (Fr, w)] rfl
                  have M427 : Mem W388 [(S180, W388), (S184, W388), (one g51, W55), (one g_a0, W388), (one g1, W388), (one g14, W18), (Fr, w), (S214, W388), (S226, W388), (one g384, W388), (one g219, W220), (one g207, W208)] := M426.front [(S184, W388), (one g51, W55), (one g_a0, W388), (one g1, W388), (one g14, W18), (Fr, w)] rfl
                  have M428 : Mem W388 [(S214, W388), (S180, W388), (S184, W388), (one g51, W55), (one g_a0, W388), (one g1, W388), (one g14, W18), (Fr, w), (S226, W388), (one g384, W388), (one g219, W220), (one g207, W208)] := M427.front [(S180, W388), (S184, W388), (one g51, W55), (one g_a0, W388), (one g1, W388), (one g14, W18), (Fr, w)] rfl
                  have M429 : Mem W388 [(S226, W388), (S214, W388), (S180, W388), (S184, W388), (one g51, W55), (one g_a0, W388), (one g1, W388), (one g14, W18), (Fr, w), (one g384, W388), (one g219, W220), (one g207, W208)] := M428.front [(S214, W388), (S180, W388), (S184, W388), (one g51, W55), (one g_a0, W388), (one g1, W388), (one g14, W18), (Fr, w)] rfl
                  have M430 : Mem W388 [(S226, W388), (S214, W388), (S180, W388), (S184, W388), (one g51, W55), (one g_a0, W388), (one g1, W388), (one g14, W18), (Fr, w)] := M429.sub (List.prefix_append [(S226, W388), (S214, W388), (S180, W388), (S184, W388), (one g51, W55), (one g_a0, W388), (one g1, W388), (one g14, W18), (Fr, w)] [(one g384, W388), (one g219, W220), (one g207, W208)]).sublist
                  exact ⟨k142, by omega, (x113 ++ ([r164] : List Int)), x118, (x119 ++ ([r174.1] : List Bool)), r174.2.2.1, r378.2.2, r174.2.2.2.2.1, r174.2.2.2.2.2, A227, c228, S226, A215, c216, S214, A178, c179, S180, A182, c183, S184, _, updL_same _ _ ⟨rfl, rfl, rfl, rfl, rfl, trivial⟩, M430, (ho229.agree (M409.agree 0 rfl)).map (fun _ _ h => h), (ho217.agree (M411.agree 0 rfl)).map (fun _ _ h => h), (ho181.agree (M413.agree 0 rfl)).map (fun _ _ h => h), (ho185.agree (M415.agree 0 rfl)).map (fun _ _ h => h), B382.now (M417.agree 0 rfl), B187.now (M419.agree 0 rfl), (by omega), H141⟩
            · exact noneS (ifN c224 H141)
          · exact noneS (ifN c212 H141)

/-! ### annals/text.Name: function 42 -/
def text_Name.l0 : Nat → Str → Int → Int → Int → Nat → Option (Int × Int)
  | 0, _, _, _, _, _ => none
  | k + 1, a0, x15, x16, x17, i18 => (if i18 < List.length a0 then (if (x17 : Int) = 48 then (some (23, (i18 : Nat))) else (text_stray a0 (i18 : Nat) ((dec a0 i18).1)).bind (fun (r34 : Bool) => (if r34 = true then (some (21, (i18 : Nat))) else ((text_inName k ((dec a0 i18).1)).bind (fun (r45 : Bool) => (if (!r45) = true then (some true) else (if (x17 : Int) = 0 then (text_Letter k ((dec a0 i18).1)).bind (fun (r53 : Bool) => (some (!r53))) else (some false))))).bind (fun (z42 : Bool) => (if z42 = true then (some (22, (i18 : Nat))) else (text_Name.l0 k a0 x15 x16 (wrap64 (x17 + 1)) (i18 + (dec a0 i18).2))))))) else (if (x17 : Int) = 0 then (some (20, 0)) else (some (0, 0))))
def text_Name (k : Nat) (a0 : Str) : Option (Int × Int) :=
  (text_Name.l0 k a0 0 0 0 0)
set_option maxRecDepth 100000 in
set_option maxHeartbeats 4000000 in
theorem text_Name_ok (k : Nat) (a0 : Str) (r : Int × Int) (w : World) (Fr : BS) (hG : Gl Fr w) (hF : ∀ b, Fr b → b < w.heap.size)  (H : text_Name k a0 = some r) :
    CallsR Tryd.prog 42 #[.string (sv a0)] w (fun v w' => v = .tuple #[.int .i64 r.1, .int .i64 r.2] ∧ Mem w' [(Fr, w)]) := by
  have M0 := Mem.start w Fr hF
  refine enterZ (args := [.string (sv a0)]) [.tmp 2, .tmp 3] Tryd.func42 rfl rfl rfl rfl ?_
  unfold text_Name at H
  refine WC_seq ?_
  refine WC_region ?_
  refine WL_of (L_assign rfl rfl (.int .i64 0) rfl ?_)
  refine WL_of (L_assign rfl rfl (.int .i64 0) rfl ?_)
  refine WL_nil ?_
  refine thenN ?_
  refine WC_seq ?_
  refine WC_region ?_
  refine WL_of (L_assign rfl rfl (.int .i64 0) rfl ?_)
  refine WL_nil ?_
  refine thenN ?_
  refine WC_seq ?_
  refine WC_seq ?_
  refine WC_region ?_
  refine WL_of (L_move rfl rfl (.string (sv a0)) rfl ?_)
  refine WL_of (L_range M0 rfl rfl Tryd.underlying9 a0 rfl ?_)
  intro g1 W2 hi3 M4
  refine WL_nil ?_
  refine thenN ?_
  refine WC_block ?_
  refine WC_loop (fun k24 ρ w_ => ∃ (x15 : Int) (x16 : Int) (x17 : Int) (i18 : Nat) (ρ0 : Nat → Value), ρ = updL ρ0 [(0, .string (sv a0)), (2, .int .i64 x15), (3, .int .i64 x16), (4, .int .i64 x17), (8, .pointer (some ⟨g1, 0, none⟩))] ∧ Mem w_ [(one g1, w_), (Fr, w)] ∧ w_.heap[g1]? = some (.stringIter (sv a0) i18) ∧ k24 ≤ k ∧ text_Name.l0 k24 a0 x15 x16 x17 i18 = some r) k ?_ ?_
  · exact ⟨0, 0, 0, 0, _, updL_same _ _ ⟨rfl, rfl, rfl, rfl, rfl, trivial⟩, M4, hi3, (Nat.le_refl _), H⟩
  · rintro k24 _ W20 ⟨x15, x16, x17, i18, ρ22, rfl, M21, hi19, hk25, H23⟩
    cases k24 with
    | zero => rw [text_Name.l0] at H23; cases H23
    | succ k24 =>
    rw [text_Name.l0] at H23
    refine WC_seq ?_
    refine WC_region ?_
    refine WL_of (L_next M21 rfl rfl hi19 rfl (fun c26 => ?_) (fun c26 => ?_))
    · replace H23 := ifP c26 H23
      intro W27 hi28 M29
      refine WL_of (L_extract rfl rfl [.bool true, .int .i64 (i18 : Nat), .int .i32 ((dec a0 i18).1)] rfl (.bool true) rfl ?_)
      refine WL_nil ?_
      refine thenN ?_
      refine WC_seq ?_
      refine WC_yes rfl ?_
      refine WC_skip ?_
      refine thenN ?_
      refine WC_block ?_
      refine WC_seq ?_
      refine WC_region ?_
      refine WL_of (L_extract rfl rfl [.bool true, .int .i64 (i18 : Nat), .int .i32 ((dec a0 i18).1)] rfl (.int .i64 (i18 : Nat)) rfl ?_)
      refine WL_of (L_extract rfl rfl [.bool true, .int .i64 (i18 : Nat), .int .i32 ((dec a0 i18).1)] rfl (.int .i32 ((dec a0 i18).1)) rfl ?_)
      refine WL_of (L_assign rfl rfl (.int .i64 (i18 : Nat)) rfl ?_)
      refine WL_of (L_assign rfl rfl (.int .i32 ((dec a0 i18).1)) rfl ?_)
      refine WL_nil ?_
      refine thenN ?_
      refine WC_seq ?_
      refine WC_seq ?_
      refine WC_region ?_
      refine WL_of (L_move rfl rfl (.int .i64 x17) rfl ?_)
      refine WL_of (L_bin rfl rfl (.int .i64 x17) (.int .i64 48) rfl rfl (.bool (decide ((x17 : Int) = 48))) (B_eql _ _ _ _ x17 48) ?_)
      refine WL_nil ?_
      refine thenN ?_
      refine WC_if (p := (x17 : Int) = 48) rfl (fun c30 => ?_) (fun c30 => ?_)
      · replace H23 := ifP c30 H23
        refine WC_seq ?_
        refine WC_region ?_
        refine WL_of (L_move rfl rfl (.int .i64 (i18 : Nat)) rfl ?_)
        refine WL_of (L_assign rfl rfl (.int .i64 23) rfl ?_)
        refine WL_of (L_assign rfl rfl (.int .i64 (i18 : Nat)) rfl ?_)
        refine WL_nil ?_
        refine thenN ?_
        refine WC_ret ?_
        refine thenR ?_
        refine blkR ?_
        refine thenR ?_
        refine blkR ?_
        refine thenR ?_
        obtain rfl := someE H23
        have M31 : Mem W27 [(Fr, w), (one g1, W27)] := M29.front [(one g1, W27)] rfl
        have M32 : Mem W27 [(Fr, w)] := M31.sub (List.prefix_append [(Fr, w)] [(one g1, W27)]).sublist
        refine retR [.int .i64 23, .int .i64 (i18 : Nat)] ⟨rfl, rfl, trivial⟩ ?_
        exact ⟨rfl, M32⟩
      · replace H23 := ifN c30 H23
        refine WC_skip ?_
        refine thenN ?_
        refine WC_seq ?_
        refine WC_seq ?_
        refine WC_region ?_
        refine WL_of (L_move rfl rfl (.string (sv a0)) rfl ?_)
        refine WL_of (L_move rfl rfl (.int .i64 (i18 : Nat)) rfl ?_)
        refine WL_of (L_move rfl rfl (.int .i32 ((dec a0 i18).1)) rfl ?_)
        obtain ⟨r34, hr35, H23⟩ := bindS H23
        refine WL_of (L_call' rfl rfl cf55 [.string (sv a0), .int .i64 (i18 : Nat), .int .i32 ((dec a0 i18).1)] rfl (text_stray_ok a0 (i18 : Nat) ((dec a0 i18).1) r34 _ (Un [(one g1, W27), (Fr, w)]) (hG.call M29 1 rfl) M29.frame  hr35) ?_)
        rintro _ W36 ⟨rfl, M37⟩
        have M38 : Mem W36 [(one g1, W27), (Fr, w)] := M29.back (New := []) M37
        refine WL_nil ?_
        refine thenN ?_
        refine WC_ifb rfl (fun c39 => ?_) (fun c39 => ?_)
        · replace H23 := ifP c39 H23
          refine WC_seq ?_
          refine WC_region ?_
          refine WL_of (L_move rfl rfl (.int .i64 (i18 : Nat)) rfl ?_)
          refine WL_of (L_assign rfl rfl (.int .i64 21) rfl ?_)
          refine WL_of (L_assign rfl rfl (.int .i64 (i18 : Nat)) rfl ?_)
          refine WL_nil ?_
          refine thenN ?_
          refine WC_ret ?_
          refine thenR ?_
          refine blkR ?_
          refine thenR ?_
          refine blkR ?_
          refine thenR ?_
          obtain rfl := someE H23
          have M40 : Mem W36 [(Fr, w), (one g1, W27)] := M38.front [(one g1, W27)] rfl
          have M41 : Mem W36 [(Fr, w)] := M40.sub (List.prefix_append [(Fr, w)] [(one g1, W27)]).sublist
          refine retR [.int .i64 21, .int .i64 (i18 : Nat)] ⟨rfl, rfl, trivial⟩ ?_
          exact ⟨rfl, M41⟩
        · replace H23 := ifN (by rw [c39]; simp) H23
          refine WC_skip ?_
          refine thenN ?_
          refine WC_seq ?_
          obtain ⟨z42, hz43, H23⟩ := bindS H23
          refine WC_cut (fun ρ w_ => ∃  (ρ0 : Nat → Value), ρ = updL ρ0 [(0, .string (sv a0)), (2, .int .i64 x15), (3, .int .i64 x16), (4, .int .i64 x17), (5, .int .i64 (i18 : Nat)), (8, .pointer (some ⟨g1, 0, none⟩)), (32, .bool z42)] ∧ Mem w_ [(one g1, W27), (Fr, w)]) ?_ ?_
          · refine WC_region ?_
            refine WL_of (L_move rfl rfl (.int .i32 ((dec a0 i18).1)) rfl ?_)
            obtain ⟨r45, hr46, hz43⟩ := bindS hz43
            refine WL_of (L_call' rfl rfl cf56 [.int .i32 ((dec a0 i18).1)] rfl (text_inName_ok k24 ((dec a0 i18).1) r45 _ (Un [(one g1, W27), (Fr, w)]) (hG.call M38 1 rfl) M38.frame  hr46) ?_)
            rintro _ W47 ⟨rfl, M48⟩
            have M49 : Mem W47 [(one g1, W27), (Fr, w)] := M38.back (New := []) M48
            refine WL_of (L_not rfl rfl r45 rfl ?_)
            refine WL_of (L_move rfl rfl (.bool (!r45)) rfl ?_)
            by_cases c50 : (!r45) = true
            · replace hz43 := ifP c50 hz43
              refine WL_known 24 true (wtrue c50) ?_
              refine WL_of (WO_off rfl rfl ?_)
              refine WL_of (WO_off rfl rfl ?_)
              refine WL_of (WO_off rfl rfl ?_)
              refine WL_of (WO_off rfl rfl ?_)
              refine WL_of (WO_off rfl rfl ?_)
              refine WL_of (WO_off rfl rfl ?_)
              refine WL_of (WO_off rfl rfl ?_)
              refine WL_of (L_pick rfl rfl true rfl (.bool true) rfl ?_)
              refine WL_nil ?_
              refine thenN ?_
              obtain rfl := someE hz43
              exact ⟨_, updL_same _ _ ⟨rfl, rfl, rfl, rfl, rfl, rfl, rfl, trivial⟩, M49⟩
            · replace hz43 := ifN c50 hz43
              refine WL_known 24 false (wfalse c50) ?_
              refine WL_of (L_move rfl rfl (.int .i64 x17) rfl ?_)
              refine WL_of (L_bin rfl rfl (.int .i64 x17) (.int .i64 0) rfl rfl (.bool (decide ((x17 : Int) = 0))) (B_eql _ _ _ _ x17 0) ?_)
              refine WL_of (L_move rfl rfl (.bool (decide ((x17 : Int) = 0))) rfl ?_)
              by_cases c51 : (x17 : Int) = 0
              · replace hz43 := ifP c51 hz43
                refine WL_known 27 true (vtrue c51) ?_
                refine WL_of (L_move rfl rfl (.int .i32 ((dec a0 i18).1)) rfl ?_)
                obtain ⟨r53, hr54, hz43⟩ := bindS hz43
                refine WL_of (L_call' rfl rfl cf57 [.int .i32 ((dec a0 i18).1)] rfl (text_Letter_ok k24 ((dec a0 i18).1) r53 _ (Un [(one g1, W27), (Fr, w)]) (hG.call M49 1 rfl) M49.frame  hr54) ?_)
                rintro _ W55 ⟨rfl, M56⟩
                have M57 : Mem W55 [(one g1, W27), (Fr, w)] := M49.back (New := []) M56
                refine WL_of (L_not rfl rfl r53 rfl ?_)
                refine WL_of (L_pick rfl rfl true rfl (.bool (!r53)) rfl ?_)
                refine WL_of (L_pick rfl rfl false rfl (.bool (!r53)) rfl ?_)
                refine WL_nil ?_
                refine thenN ?_
                obtain rfl := someE hz43
                exact ⟨_, updL_same _ _ ⟨rfl, rfl, rfl, rfl, rfl, rfl, rfl, trivial⟩, M57⟩
              · replace hz43 := ifN c51 hz43
                refine WL_known 27 false (vfalse c51) ?_
                refine WL_of (WO_off rfl rfl ?_)
                refine WL_of (WO_off rfl rfl ?_)
                refine WL_of (WO_off rfl rfl ?_)
                refine WL_of (L_pick rfl rfl false rfl (.bool false) rfl ?_)
                refine WL_of (L_pick rfl rfl false rfl (.bool false) rfl ?_)
                refine WL_nil ?_
                refine thenN ?_
                obtain rfl := someE hz43
                exact ⟨_, updL_same _ _ ⟨rfl, rfl, rfl, rfl, rfl, rfl, rfl, trivial⟩, M49⟩
          · rintro _ W58 ⟨ρ60, rfl, M59⟩
            refine WC_ifb rfl (fun c61 => ?_) (fun c61 => ?_)
            · replace H23 := ifP c61 H23
              refine WC_seq ?_
              refine WC_region ?_
              refine WL_of (L_move rfl rfl (.int .i64 (i18 : Nat)) rfl ?_)
              refine WL_of (L_assign rfl rfl (.int .i64 22) rfl ?_)
              refine WL_of (L_assign rfl rfl (.int .i64 (i18 : Nat)) rfl ?_)
              refine WL_nil ?_
              refine thenN ?_
              refine WC_ret ?_
              refine thenR ?_
              refine blkR ?_
              refine thenR ?_
              refine blkR ?_
              refine thenR ?_
              obtain rfl := someE H23
              have M62 : Mem W58 [(Fr, w), (one g1, W27)] := M59.front [(one g1, W27)] rfl
              have M63 : Mem W58 [(Fr, w)] := M62.sub (List.prefix_append [(Fr, w)] [(one g1, W27)]).sublist
              refine retR [.int .i64 22, .int .i64 (i18 : Nat)] ⟨rfl, rfl, trivial⟩ ?_
              exact ⟨rfl, M63⟩
            · replace H23 := ifN (by rw [c61]; simp) H23
              refine WC_skip ?_
              refine thenN ?_
              refine WC_region ?_
              refine WL_of (L_move rfl rfl (.int .i64 x17) rfl ?_)
              refine WL_of (L_bin rfl rfl (.int .i64 x17) (.int .i64 1) rfl rfl (.int .i64 (wrap64 (x17 + 1))) (B_add _ _ _ x17 1) ?_)
              refine WL_of (L_assign rfl rfl (.int .i64 (wrap64 (x17 + 1))) rfl ?_)
              refine WL_nil ?_
              refine blkN ?_
              refine thenN ?_
              have M64 : Mem W58 [(one g1, W58), (Fr, w)] := M59.rebase
              exact ⟨k24, by omega, x15, x16, wrap64 (x17 + 1), (i18 + (dec a0 i18).2), _, updL_same _ _ ⟨rfl, rfl, rfl, rfl, rfl, trivial⟩, M64, ((M59.agree 0 rfl) _ rfl).trans hi28, (by omega), H23⟩
    · replace H23 := ifN c26 H23
      refine WL_of (L_extract rfl rfl [.bool false] rfl (.bool false) rfl ?_)
      refine WL_nil ?_
      refine thenN ?_
      refine WC_seq ?_
      refine WC_no rfl ?_
      refine WC_exit ?_
      refine thenE ?_
      refine thenE ?_
      refine blkX ?_
      refine thenN ?_
      refine WC_seq ?_
      refine WC_seq ?_
      refine WC_region ?_
      refine WL_of (L_move rfl rfl (.int .i64 x17) rfl ?_)
      refine WL_of (L_bin rfl rfl (.int .i64 x17) (.int .i64 0) rfl rfl (.bool (decide ((x17 : Int) = 0))) (B_eql _ _ _ _ x17 0) ?_)
      refine WL_nil ?_
      refine thenN ?_
      refine WC_if (p := (x17 : Int) = 0) rfl (fun c65 => ?_) (fun c65 => ?_)
      · replace H23 := ifP c65 H23
        refine WC_seq ?_
        refine WC_region ?_
        refine WL_of (L_assign rfl rfl (.int .i64 20) rfl ?_)
        refine WL_of (L_assign rfl rfl (.int .i64 0) rfl ?_)
        refine WL_nil ?_
        refine thenN ?_
        refine WC_ret ?_
        refine thenR ?_
        obtain rfl := someE H23
        have M66 : Mem W20 [(Fr, w), (one g1, W20)] := M21.front [(one g1, W20)] rfl
        have M67 : Mem W20 [(Fr, w)] := M66.sub (List.prefix_append [(Fr, w)] [(one g1, W20)]).sublist
        refine retR [.int .i64 20, .int .i64 0] ⟨rfl, rfl, trivial⟩ ?_
        exact ⟨rfl, M67⟩
      · replace H23 := ifN c65 H23
        refine WC_skip ?_
        refine thenN ?_
        refine WC_seq ?_
        refine WC_region ?_
        refine WL_of (L_assign rfl rfl (.int .i64 0) rfl ?_)
        refine WL_of (L_assign rfl rfl (.int .i64 0) rfl ?_)
        refine WL_nil ?_
        refine thenN ?_
        refine WC_ret ?_
        obtain rfl := someE H23
        have M68 : Mem W20 [(Fr, w), (one g1, W20)] := M21.front [(one g1, W20)] rfl
        have M69 : Mem W20 [(Fr, w)] := M68.sub (List.prefix_append [(Fr, w)] [(one g1, W20)]).sublist
        refine retR [.int .i64 0, .int .i64 0] ⟨rfl, rfl, trivial⟩ ?_
        exact ⟨rfl, M69⟩

/-! ### annals/plan.isName: function 30 -/
def plan_isName (k : Nat) (a0 : Str) : Option Bool :=
  (text_Name k a0).bind (fun (r2 : (Int × Int)) => (some (decide ((r2.1 : Int) = 0))))
set_option maxRecDepth 100000 in
set_option maxHeartbeats 4000000 in
theorem plan_isName_ok (k : Nat) (a0 : Str) (r : Bool) (w : World) (Fr : BS) (hG : Gl Fr w) (hF : ∀ b, Fr b → b < w.heap.size)  (H : plan_isName k a0 = some r) :
    CallsR Tryd.prog 30 #[.string (sv a0)] w (fun v w' => v = .bool r ∧ Mem w' [(Fr, w)]) := by
  have M0 := Mem.start w Fr hF
  refine enterZ (args := [.string (sv a0)]) [.tmp 2] Tryd.func30 rfl rfl rfl rfl ?_
  unfold plan_isName at H
  refine WC_seq ?_
  refine WC_region ?_
  refine WL_of (L_assign rfl rfl (.bool false) rfl ?_)
  refine WL_nil ?_
  refine thenN ?_
  refine WC_seq ?_
  refine WC_region ?_
  refine WL_of (L_move rfl rfl (.string (sv a0)) rfl ?_)
  obtain ⟨r2, hr3, H⟩ := bindS H
  refine WL_of (L_call' rfl rfl cf42 [.string (sv a0)] rfl (text_Name_ok k a0 r2 _ (Un [(Fr, w)]) (hG.call M0 0 rfl) M0.frame  hr3) ?_)
  rintro _ W4 ⟨rfl, M5⟩
  have M6 : Mem W4 [(Fr, w)] := M0.back (New := []) M5
  refine WL_of (L_move rfl rfl (.tuple #[.int .i64 r2.1, .int .i64 r2.2]) rfl ?_)
  refine WL_of (L_extract rfl rfl [.int .i64 r2.1, .int .i64 r2.2] rfl (.int .i64 r2.1) rfl ?_)
  refine WL_of (L_extract rfl rfl [.int .i64 r2.1, .int .i64 r2.2] rfl (.int .i64 r2.2) rfl ?_)
  refine WL_of (L_assign rfl rfl (.int .i64 r2.1) rfl ?_)
  refine WL_of (L_assign rfl rfl (.int .i64 r2.2) rfl ?_)
  refine WL_nil ?_
  refine thenN ?_
  refine WC_seq ?_
  refine WC_region ?_
  refine WL_of (L_move rfl rfl (.int .i64 r2.1) rfl ?_)
  refine WL_of (L_bin rfl rfl (.int .i64 r2.1) (.int .i64 0) rfl rfl (.bool (decide ((r2.1 : Int) = 0))) (B_eql _ _ _ _ r2.1 0) ?_)
  refine WL_of (L_assign rfl rfl (.bool (decide ((r2.1 : Int) = 0))) rfl ?_)
  refine WL_nil ?_
  refine thenN ?_
  refine WC_ret ?_
  obtain rfl := someE H
  refine retR [.bool (decide ((r2.1 : Int) = 0))] ⟨rfl, trivial⟩ ?_
  exact ⟨rfl, M6⟩

/-! ### annals/plan.checkStep: function 31 -/
def plan_checkStep (k : Nat) (a0 : api_Step) (a1 : Int) (a2 : List (Str × Int)) : Option Int :=
  ((plan_isName k a0.Do).bind (fun (r8 : Bool) => (if (!r8) = true then (some true) else (if (a0.Undo : Str) ≠ (lit []) then (plan_isName k a0.Undo).bind (fun (r16 : Bool) => (some (!r16))) else (some false))))).bind (fun (z5 : Bool) => (if z5 = true then (some 35) else (if (decide ((a1 : Int) = 0)) ≠ (decide ((a0.Undo : Str) ≠ (lit []))) then (some 152) else ((if (a1 : Int) = 2 then (if (a0.Tries : Int) ≠ 0 then (some true) else (if (a1 : Int) ≠ 2 then (if (a0.Tries : Int) < 1 then (some true) else (some (decide ((1000 : Int) < a0.Tries)))) else (some false))) else (if (a1 : Int) ≠ 2 then (if (a0.Tries : Int) < 1 then (some true) else (some (decide ((1000 : Int) < a0.Tries)))) else (some false)))).bind (fun (z30 : Bool) => (if z30 = true then (some 34) else ((if (0 : Int) < ((mget a2 a0.Do).getD 0) then (some true) else (if (a0.Undo : Str) ≠ (lit []) then (if (0 : Int) < ((mget a2 a0.Undo).getD 0) then (some true) else (some (decide ((a0.Do : Str) = a0.Undo)))) else (some false)))).bind (fun (z44 : Bool) => (if z44 = true then (some 151) else (some 0))))))))
set_option maxRecDepth 100000 in
set_option maxHeartbeats 4000000 in
theorem plan_checkStep_ok (k : Nat) (a0 : api_Step) (a1 : Int) (a2 : List (Str × Int)) (g_a2 : Nat) (r : Int) (w : World) (Fr : BS) (hG : Gl Fr w) (hF : ∀ b, Fr b → b < w.heap.size) (hg_a2 : Fr g_a2) (hB_a2 : MPR w g_a2 a2) (H : plan_checkStep k a0 a1 a2 = some r) :
    CallsR Tryd.prog 31 #[.agg #[.string (sv a0.Do), .string (sv a0.Undo), .int .i64 a0.Tries], .int .i64 a1, .map (some g_a2)] w (fun v w' => v = .int .i64 r ∧ Mem w' [(Fr, w)]) := by
  have M0 := Mem.start w Fr hF
  refine enterZ (args := [.agg #[.string (sv a0.Do), .string (sv a0.Undo), .int .i64 a0.Tries], .int .i64 a1, .map (some g_a2)]) [.tmp 6] Tryd.func31 rfl rfl rfl rfl ?_
  unfold plan_checkStep at H
  refine WC_seq ?_
  refine WC_region ?_
  refine WL_of (L_box M0 rfl rfl (.agg #[.string (sv a0.Do), .string (sv a0.Undo), .int .i64 a0.Tries]) rfl [.string (sv a0.Do), .string (sv a0.Undo), .int .i64 a0.Tries] rfl ?_)
  intro g1 W2 B3 M4
  refine WL_of (L_assign rfl rfl (.int .i64 0) rfl ?_)
  refine WL_nil ?_
  refine thenN ?_
  refine WC_seq ?_
  obtain ⟨z5, hz6, H⟩ := bindS H
  refine WC_cut (fun ρ w_ => ∃  (ρ0 : Nat → Value), ρ = updL ρ0 [(1, .int .i64 a1), (2, .map (some g_a2)), (3, .pointer (some ⟨g1, 0, none⟩)), (6, .int .i64 0), (21, .bool z5)] ∧ Mem w_ [(one g1, W2), (Fr, w)]) ?_ ?_
  · refine WC_region ?_
    refine WL_of (L_field rfl rfl fd44_0 ⟨g1, 0, none⟩ rfl ?_)
    refine WL_of (L_load1 rfl rfl Tryd.underlying9 rfl B3.el (M4.agree 0 rfl) 0 rfl (.string (sv a0.Do)) rfl ?_)
    obtain ⟨r8, hr9, hz6⟩ := bindS hz6
    refine WL_of (L_call' rfl rfl cf30 [.string (sv a0.Do)] rfl (plan_isName_ok k a0.Do r8 _ (Un [(one g1, W2), (Fr, w)]) (hG.call M4 1 rfl) M4.frame  hr9) ?_)
    rintro _ W10 ⟨rfl, M11⟩
    have M12 : Mem W10 [(one g1, W2), (Fr, w)] := M4.back (New := []) M11
    refine WL_of (L_not rfl rfl r8 rfl ?_)
    refine WL_of (L_move rfl rfl (.bool (!r8)) rfl ?_)
    by_cases c13 : (!r8) = true
    · replace hz6 := ifP c13 hz6
      refine WL_known 11 true (wtrue c13) ?_
      refine WL_of (WO_off rfl rfl ?_)
      refine WL_of (WO_off rfl rfl ?_)
      refine WL_of (WO_off rfl rfl ?_)
      refine WL_of (WO_off rfl rfl ?_)
      refine WL_of (WO_off rfl rfl ?_)
      refine WL_of (WO_off rfl rfl ?_)
      refine WL_of (WO_off rfl rfl ?_)
      refine WL_of (WO_off rfl rfl ?_)
      refine WL_of (WO_off rfl rfl ?_)
      refine WL_of (L_pick rfl rfl true rfl (.bool true) rfl ?_)
      refine WL_nil ?_
      refine thenN ?_
      obtain rfl := someE hz6
      exact ⟨_, updL_same _ _ ⟨rfl, rfl, rfl, rfl, rfl, trivial⟩, M12⟩
    · replace hz6 := ifN c13 hz6
      refine WL_known 11 false (wfalse c13) ?_
      refine WL_of (L_field rfl rfl fd44_1 ⟨g1, 0, none⟩ rfl ?_)
      refine WL_of (L_load1 rfl rfl Tryd.underlying9 rfl B3.el (M12.agree 0 rfl) 1 rfl (.string (sv a0.Undo)) rfl ?_)
      refine WL_of (L_bin rfl rfl (.string (sv a0.Undo)) (.string (sv (lit []))) rfl rfl (.bool (decide ((a0.Undo : Str) ≠ (lit [])))) (B_sneq _ _ _ a0.Undo (lit [])) ?_)
      refine WL_of (L_move rfl rfl (.bool (decide ((a0.Undo : Str) ≠ (lit [])))) rfl ?_)
      by_cases c14 : (a0.Undo : Str) ≠ (lit [])
      · replace hz6 := ifP c14 hz6
        refine WL_known 15 true (vtrue c14) ?_
        refine WL_of (L_field rfl rfl fd44_1 ⟨g1, 0, none⟩ rfl ?_)
        refine WL_of (L_load1 rfl rfl Tryd.underlying9 rfl B3.el (M12.agree 0 rfl) 1 rfl (.string (sv a0.Undo)) rfl ?_)
        obtain ⟨r16, hr17, hz6⟩ := bindS hz6
        refine WL_of (L_call' rfl rfl cf30 [.string (sv a0.Undo)] rfl (plan_isName_ok k a0.Undo r16 _ (Un [(one g1, W2), (Fr, w)]) (hG.call M12 1 rfl) M12.frame  hr17) ?_)
        rintro _ W18 ⟨rfl, M19⟩
        have M20 : Mem W18 [(one g1, W2), (Fr, w)] := M12.back (New := []) M19
        refine WL_of (L_not rfl rfl r16 rfl ?_)
        refine WL_of (L_pick rfl rfl true rfl (.bool (!r16)) rfl ?_)
        refine WL_of (L_pick rfl rfl false rfl (.bool (!r16)) rfl ?_)
        refine WL_nil ?_
        refine thenN ?_
        obtain rfl := someE hz6
        exact ⟨_, updL_same _ _ ⟨rfl, rfl, rfl, rfl, rfl, trivial⟩, M20⟩
      · replace hz6 := ifN c14 hz6
        refine WL_known 15 false (vfalse c14) ?_
        refine WL_of (WO_off rfl rfl ?_)
        refine WL_of (WO_off rfl rfl ?_)
        refine WL_of (WO_off rfl rfl ?_)
        refine WL_of (WO_off rfl rfl ?_)
        refine WL_of (L_pick rfl rfl false rfl (.bool false) rfl ?_)
        refine WL_of (L_pick rfl rfl false rfl (.bool false) rfl ?_)
        refine WL_nil ?_
        refine thenN ?_
        obtain rfl := someE hz6
        exact ⟨_, updL_same _ _ ⟨rfl, rfl, rfl, rfl, rfl, trivial⟩, M12⟩
  · rintro _ W21 ⟨ρ23, rfl, M22⟩
    refine WC_ifb rfl (fun c24 => ?_) (fun c24 => ?_)
    · replace H := ifP c24 H
      refine WC_seq ?_
      refine WC_region ?_
      refine WL_of (L_assign rfl rfl (.int .i64 35) rfl ?_)
      refine WL_nil ?_
      refine thenN ?_
      refine WC_ret ?_
      refine thenR ?_
      obtain rfl := someE H
      have M25 : Mem W21 [(Fr, w), (one g1, W2)] := M22.front [(one g1, W2)] rfl
      have M26 : Mem W21 [(Fr, w)] := M25.sub (List.prefix_append [(Fr, w)] [(one g1, W2)]).sublist
      refine retR [.int .i64 35] ⟨rfl, trivial⟩ ?_
      exact ⟨rfl, M26⟩
    · replace H := ifN (by rw [c24]; simp) H
      refine WC_skip ?_
      refine thenN ?_
      refine WC_seq ?_
      refine WC_seq ?_
      refine WC_region ?_
      refine WL_of (L_move rfl rfl (.int .i64 a1) rfl ?_)
      refine WL_of (L_bin rfl rfl (.int .i64 a1) (.int .i64 0) rfl rfl (.bool (decide ((a1 : Int) = 0))) (B_eql _ _ _ _ a1 0) ?_)
      refine WL_of (L_field rfl rfl fd44_1 ⟨g1, 0, none⟩ rfl ?_)
      refine WL_of (L_load1 rfl rfl Tryd.underlying9 rfl B3.el (M22.agree 0 rfl) 1 rfl (.string (sv a0.Undo)) rfl ?_)
      refine WL_of (L_bin rfl rfl (.string (sv a0.Undo)) (.string (sv (lit []))) rfl rfl (.bool (decide ((a0.Undo : Str) ≠ (lit [])))) (B_sneq _ _ _ a0.Undo (lit [])) ?_)
      refine WL_of (L_bin rfl rfl (.bool (decide ((a1 : Int) = 0))) (.bool (decide ((a0.Undo : Str) ≠ (lit [])))) rfl rfl (.bool (decide ((decide ((a1 : Int) = 0)) ≠ (decide ((a0.Undo : Str) ≠ (lit [])))))) (B_bneq _ _ _ Tryd.underlying4 (decide ((a1 : Int) = 0)) (decide ((a0.Undo : Str) ≠ (lit [])))) ?_)
      refine WL_nil ?_
      refine thenN ?_
      refine WC_if (p := (decide ((a1 : Int) = 0)) ≠ (decide ((a0.Undo : Str) ≠ (lit [])))) rfl (fun c27 => ?_) (fun c27 => ?_)
      · replace H := ifP c27 H
        refine WC_seq ?_
        refine WC_region ?_
        refine WL_of (L_assign rfl rfl (.int .i64 152) rfl ?_)
        refine WL_nil ?_
        refine thenN ?_
        refine WC_ret ?_
        refine thenR ?_
        obtain rfl := someE H
        have M28 : Mem W21 [(Fr, w), (one g1, W2)] := M22.front [(one g1, W2)] rfl
        have M29 : Mem W21 [(Fr, w)] := M28.sub (List.prefix_append [(Fr, w)] [(one g1, W2)]).sublist
        refine retR [.int .i64 152] ⟨rfl, trivial⟩ ?_
        exact ⟨rfl, M29⟩
      · replace H := ifN c27 H
        refine WC_skip ?_
        refine thenN ?_
        refine WC_seq ?_
        obtain ⟨z30, hz31, H⟩ := bindS H
        refine WC_cut (fun ρ w_ => ∃  (ρ0 : Nat → Value), ρ = updL ρ0 [(2, .map (some g_a2)), (3, .pointer (some ⟨g1, 0, none⟩)), (6, .int .i64 0), (48, .bool z30)] ∧ Mem w_ [(one g1, W2), (Fr, w)]) ?_ ?_
        · refine WC_region ?_
          refine WL_of (L_move rfl rfl (.int .i64 a1) rfl ?_)
          refine WL_of (L_bin rfl rfl (.int .i64 a1) (.int .i64 2) rfl rfl (.bool (decide ((a1 : Int) = 2))) (B_eql _ _ _ _ a1 2) ?_)
          refine WL_of (L_move rfl rfl (.bool (decide ((a1 : Int) = 2))) rfl ?_)
          by_cases c32 : (a1 : Int) = 2
          · replace hz31 := ifP c32 hz31
            refine WL_known 30 true (vtrue c32) ?_
            refine WL_of (L_field rfl rfl fd44_2 ⟨g1, 0, none⟩ rfl ?_)
            refine WL_of (L_load1 rfl rfl Tryd.underlying3 rfl B3.el (M22.agree 0 rfl) 2 rfl (.int .i64 a0.Tries) rfl ?_)
            refine WL_of (L_bin rfl rfl (.int .i64 a0.Tries) (.int .i64 0) rfl rfl (.bool (decide ((a0.Tries : Int) ≠ 0))) (B_neq _ _ _ _ a0.Tries 0) ?_)
            refine WL_of (L_pick rfl rfl true rfl (.bool (decide ((a0.Tries : Int) ≠ 0))) rfl ?_)
            refine WL_of (L_move rfl rfl (.bool (decide ((a0.Tries : Int) ≠ 0))) rfl ?_)
            by_cases c33 : (a0.Tries : Int) ≠ 0
            · replace hz31 := ifP c33 hz31
              refine WL_known 35 true (vtrue c33) ?_
              refine WL_of (WO_off rfl rfl ?_)
              refine WL_of (WO_off rfl rfl ?_)
              refine WL_of (WO_off rfl rfl ?_)
              refine WL_of (WO_off rfl rfl ?_)
              refine WL_of (WO_off rfl rfl ?_)
              refine WL_of (WO_off rfl rfl ?_)
              refine WL_of (WO_off rfl rfl ?_)
              refine WL_of (WO_off rfl rfl ?_)
              refine WL_of (WO_off rfl rfl ?_)
              refine WL_of (WO_off rfl rfl ?_)
              refine WL_of (WO_off rfl rfl ?_)
              refine WL_of (WO_off rfl rfl ?_)
              refine WL_of (L_pick rfl rfl true rfl (.bool true) rfl ?_)
              refine WL_nil ?_
              refine thenN ?_
              obtain rfl := someE hz31
              exact ⟨_, updL_same _ _ ⟨rfl, rfl, rfl, rfl, trivial⟩, M22⟩
            · replace hz31 := ifN c33 hz31
              refine WL_known 35 false (vfalse c33) ?_
              refine WL_of (L_move rfl rfl (.int .i64 a1) rfl ?_)
              refine WL_of (L_bin rfl rfl (.int .i64 a1) (.int .i64 2) rfl rfl (.bool (decide ((a1 : Int) ≠ 2))) (B_neq _ _ _ _ a1 2) ?_)
              refine WL_of (L_move rfl rfl (.bool (decide ((a1 : Int) ≠ 2))) rfl ?_)
              by_cases c34 : (a1 : Int) ≠ 2
              · replace hz31 := ifP c34 hz31
                refine WL_known 38 true (vtrue c34) ?_
                refine WL_of (L_field rfl rfl fd44_2 ⟨g1, 0, none⟩ rfl ?_)
                refine WL_of (L_load1 rfl rfl Tryd.underlying3 rfl B3.el (M22.agree 0 rfl) 2 rfl (.int .i64 a0.Tries) rfl ?_)
                refine WL_of (L_bin rfl rfl (.int .i64 a0.Tries) (.int .i64 1) rfl rfl (.bool (decide ((a0.Tries : Int) < 1))) (B_lss _ _ _ _ a0.Tries 1) ?_)
                refine WL_of (L_move rfl rfl (.bool (decide ((a0.Tries : Int) < 1))) rfl ?_)
                by_cases c35 : (a0.Tries : Int) < 1
                · replace hz31 := ifP c35 hz31
                  refine WL_known 42 true (vtrue c35) ?_
                  refine WL_of (WO_off rfl rfl ?_)
                  refine WL_of (WO_off rfl rfl ?_)
                  refine WL_of (WO_off rfl rfl ?_)
                  refine WL_of (L_pick rfl rfl true rfl (.bool true) rfl ?_)
                  refine WL_of (L_pick rfl rfl true rfl (.bool true) rfl ?_)
                  refine WL_of (L_pick rfl rfl false rfl (.bool true) rfl ?_)
                  refine WL_nil ?_
                  refine thenN ?_
                  obtain rfl := someE hz31
                  exact ⟨_, updL_same _ _ ⟨rfl, rfl, rfl, rfl, trivial⟩, M22⟩
                · replace hz31 := ifN c35 hz31
                  refine WL_known 42 false (vfalse c35) ?_
                  refine WL_of (L_field rfl rfl fd44_2 ⟨g1, 0, none⟩ rfl ?_)
                  refine WL_of (L_load1 rfl rfl Tryd.underlying3 rfl B3.el (M22.agree 0 rfl) 2 rfl (.int .i64 a0.Tries) rfl ?_)
                  refine WL_of (L_bin rfl rfl (.int .i64 a0.Tries) (.int .i64 1000) rfl rfl (.bool (decide ((1000 : Int) < a0.Tries))) (B_gtr _ _ _ _ a0.Tries 1000) ?_)
                  refine WL_of (L_pick rfl rfl false rfl (.bool (decide ((1000 : Int) < a0.Tries))) rfl ?_)
                  refine WL_of (L_pick rfl rfl true rfl (.bool (decide ((1000 : Int) < a0.Tries))) rfl ?_)
                  refine WL_of (L_pick rfl rfl false rfl (.bool (decide ((1000 : Int) < a0.Tries))) rfl ?_)
                  refine WL_nil ?_
                  refine thenN ?_
                  obtain rfl := someE hz31
                  exact ⟨_, updL_same _ _ ⟨rfl, rfl, rfl, rfl, trivial⟩, M22⟩
              · replace hz31 := ifN c34 hz31
                refine WL_known 38 false (vfalse c34) ?_
                refine WL_of (WO_off rfl rfl ?_)
                refine WL_of (WO_off rfl rfl ?_)
                refine WL_of (WO_off rfl rfl ?_)
                refine WL_of (WO_off rfl rfl ?_)
                refine WL_of (WO_off rfl rfl ?_)
                refine WL_of (WO_off rfl rfl ?_)
                refine WL_of (WO_off rfl rfl ?_)
                refine WL_of (WO_off rfl rfl ?_)
                refine WL_of (L_pick rfl rfl false rfl (.bool false) rfl ?_)
                refine WL_of (L_pick rfl rfl false rfl (.bool false) rfl ?_)
                refine WL_nil ?_
                refine thenN ?_
                obtain rfl := someE hz31
                exact ⟨_, updL_same _ _ ⟨rfl, rfl, rfl, rfl, trivial⟩, M22⟩
          · replace hz31 := ifN c32 hz31
            refine WL_known 30 false (vfalse c32) ?_
            refine WL_of (WO_off rfl rfl ?_)
            refine WL_of (WO_off rfl rfl ?_)
            refine WL_of (WO_off rfl rfl ?_)
            refine WL_of (L_pick rfl rfl false rfl (.bool false) rfl ?_)
            refine WL_of (L_move rfl rfl (.bool false) rfl ?_)
            refine WL_of (L_move rfl rfl (.int .i64 a1) rfl ?_)
            refine WL_of (L_bin rfl rfl (.int .i64 a1) (.int .i64 2) rfl rfl (.bool (decide ((a1 : Int) ≠ 2))) (B_neq _ _ _ _ a1 2) ?_)
            refine WL_of (L_move rfl rfl (.bool (decide ((a1 : Int) ≠ 2))) rfl ?_)
            by_cases c36 : (a1 : Int) ≠ 2
            · replace hz31 := ifP c36 hz31
              refine WL_known 38 true (vtrue c36) ?_
              refine WL_of (L_field rfl rfl fd44_2 ⟨g1, 0, none⟩ rfl ?_)
              refine WL_of (L_load1 rfl rfl Tryd.underlying3 rfl B3.el (M22.agree 0 rfl) 2 rfl (.int .i64 a0.Tries) rfl ?_)
              refine WL_of (L_bin rfl rfl (.int .i64 a0.Tries) (.int .i64 1) rfl rfl (.bool (decide ((a0.Tries : Int) < 1))) (B_lss _ _ _ _ a0.Tries 1) ?_)
              refine WL_of (L_move rfl rfl (.bool (decide ((a0.Tries : Int) < 1))) rfl ?_)
              by_cases c37 : (a0.Tries : Int) < 1
              · replace hz31 := ifP c37 hz31
                refine WL_known 42 true (vtrue c37) ?_
                refine WL_of (WO_off rfl rfl ?_)
                refine WL_of (WO_off rfl rfl ?_)
                refine WL_of (WO_off rfl rfl ?_)
                refine WL_of (L_pick rfl rfl true rfl (.bool true) rfl ?_)
                refine WL_of (L_pick rfl rfl true rfl (.bool true) rfl ?_)
                refine WL_of (L_pick rfl rfl false rfl (.bool true) rfl ?_)
                refine WL_nil ?_
                refine thenN ?_
                obtain rfl := someE hz31
                exact ⟨_, updL_same _ _ ⟨rfl, rfl, rfl, rfl, trivial⟩, M22⟩
              · replace hz31 := ifN c37 hz31
                refine WL_known 42 false (vfalse c37) ?_
                refine WL_of (L_field rfl rfl fd44_2 ⟨g1, 0, none⟩ rfl ?_)
                refine WL_of (L_load1 rfl rfl Tryd.underlying3 rfl B3.el (M22.agree 0 rfl) 2 rfl (.int .i64 a0.Tries) rfl ?_)
                refine WL_of (L_bin rfl rfl (.int .i64 a0.Tries) (.int .i64 1000) rfl rfl (.bool (decide ((1000 : Int) < a0.Tries))) (B_gtr _ _ _ _ a0.Tries 1000) ?_)
                refine WL_of (L_pick rfl rfl false rfl (.bool (decide ((1000 : Int) < a0.Tries))) rfl ?_)
                refine WL_of (L_pick rfl rfl true rfl (.bool (decide ((1000 : Int) < a0.Tries))) rfl ?_)
                refine WL_of (L_pick rfl rfl false rfl (.bool (decide ((1000 : Int) < a0.Tries))) rfl ?_)
                refine WL_nil ?_
                refine thenN ?_
                obtain rfl := someE hz31
                exact ⟨_, updL_same _ _ ⟨rfl, rfl, rfl, rfl, trivial⟩, M22⟩
            · replace hz31 := ifN c36 hz31
              refine WL_known 38 false (vfalse c36) ?_
              refine WL_of (WO_off rfl rfl ?_)
              refine WL_of (WO_off rfl rfl ?_)
              refine WL_of (WO_off rfl rfl ?_)
              refine WL_of (WO_off rfl rfl ?_)
              refine WL_of (WO_off rfl rfl ?_)
              refine WL_of (WO_off rfl rfl ?_)
              refine WL_of (WO_off rfl rfl ?_)
              refine WL_of (WO_off rfl rfl ?_)
              refine WL_of (L_pick rfl rfl false rfl (.bool false) rfl ?_)
              refine WL_of (L_pick rfl rfl false rfl (.bool false) rfl ?_)
              refine WL_nil ?_
              refine thenN ?_
              obtain rfl := someE hz31
              exact ⟨_, updL_same _ _ ⟨rfl, rfl, rfl, rfl, trivial⟩, M22⟩
        · rintro _ W38 ⟨ρ40, rfl, M39⟩
          refine WC_ifb rfl (fun c41 => ?_) (fun c41 => ?_)
          · replace H := ifP c41 H
            refine WC_seq ?_
            refine WC_region ?_
            refine WL_of (L_assign rfl rfl (.int .i64 34) rfl ?_)
            refine WL_nil ?_
            refine thenN ?_
            refine WC_ret ?_
            refine thenR ?_
            obtain rfl := someE H
            have M42 : Mem W38 [(Fr, w), (one g1, W2)] := M39.front [(one g1, W2)] rfl
            have M43 : Mem W38 [(Fr, w)] := M42.sub (List.prefix_append [(Fr, w)] [(one g1, W2)]).sublist
            refine retR [.int .i64 34] ⟨rfl, trivial⟩ ?_
            exact ⟨rfl, M43⟩
          · replace H := ifN (by rw [c41]; simp) H
            refine WC_skip ?_
            refine thenN ?_
            refine WC_seq ?_
            obtain ⟨z44, hz45, H⟩ := bindS H
            refine WC_cut (fun ρ w_ => ∃  (ρ0 : Nat → Value), ρ = updL ρ0 [(6, .int .i64 0), (72, .bool z44)] ∧ Mem w_ [(one g1, W2), (Fr, w)]) ?_ ?_
            · refine WC_region ?_
              refine WL_of (L_move rfl rfl (.map (some g_a2)) rfl ?_)
              refine WL_of (L_field rfl rfl fd44_0 ⟨g1, 0, none⟩ rfl ?_)
              refine WL_of (L_load1 rfl rfl Tryd.underlying9 rfl B3.el (M39.agree 0 rfl) 0 rfl (.string (sv a0.Do)) rfl ?_)
              refine WL_of (L_lookup (V := Int) hB_a2 (M39.agree 1 rfl _ hg_a2) rfl rfl Tryd.underlying84 Tryd.underlying9 0 zr3 rfl a0.Do rfl ?_)
              refine WL_of (L_bin rfl rfl (.int .i64 ((mget a2 a0.Do).getD 0)) (.int .i64 0) rfl rfl (.bool (decide ((0 : Int) < ((mget a2 a0.Do).getD 0)))) (B_gtr _ _ _ _ ((mget a2 a0.Do).getD 0) 0) ?_)
              refine WL_of (L_move rfl rfl (.bool (decide ((0 : Int) < ((mget a2 a0.Do).getD 0)))) rfl ?_)
              by_cases c46 : (0 : Int) < ((mget a2 a0.Do).getD 0)
              · replace hz45 := ifP c46 hz45
                refine WL_known 54 true (vtrue c46) ?_
                refine WL_of (WO_off rfl rfl ?_)
                refine WL_of (WO_off rfl rfl ?_)
                refine WL_of (WO_off rfl rfl ?_)
                refine WL_of (WO_off rfl rfl ?_)
                refine WL_of (WO_off rfl rfl ?_)
                refine WL_of (WO_off rfl rfl ?_)
                refine WL_of (WO_off rfl rfl ?_)
                refine WL_of (WO_off rfl rfl ?_)
                refine WL_of (WO_off rfl rfl ?_)
                refine WL_of (WO_off rfl rfl ?_)
                refine WL_of (WO_off rfl rfl ?_)
                refine WL_of (WO_off rfl rfl ?_)
                refine WL_of (WO_off rfl rfl ?_)
                refine WL_of (WO_off rfl rfl ?_)
                refine WL_of (WO_off rfl rfl ?_)
                refine WL_of (WO_off rfl rfl ?_)
                refine WL_of (WO_off rfl rfl ?_)
                refine WL_of (L_pick rfl rfl true rfl (.bool true) rfl ?_)
                refine WL_nil ?_
                refine thenN ?_
                obtain rfl := someE hz45
                exact ⟨_, updL_same _ _ ⟨rfl, rfl, trivial⟩, M39⟩
              · replace hz45 := ifN c46 hz45
                refine WL_known 54 false (vfalse c46) ?_
                refine WL_of (L_field rfl rfl fd44_1 ⟨g1, 0, none⟩ rfl ?_)
                refine WL_of (L_load1 rfl rfl Tryd.underlying9 rfl B3.el (M39.agree 0 rfl) 1 rfl (.string (sv a0.Undo)) rfl ?_)
                refine WL_of (L_bin rfl rfl (.string (sv a0.Undo)) (.string (sv (lit []))) rfl rfl (.bool (decide ((a0.Undo : Str) ≠ (lit [])))) (B_sneq _ _ _ a0.Undo (lit [])) ?_)
                refine WL_of (L_move rfl rfl (.bool (decide ((a0.Undo : Str) ≠ (lit [])))) rfl ?_)
                by_cases c47 : (a0.Undo : Str) ≠ (lit [])
                · replace hz45 := ifP c47 hz45
                  refine WL_known 58 true (vtrue c47) ?_
                  refine WL_of (L_move rfl rfl (.map (some g_a2)) rfl ?_)
                  refine WL_of (L_field rfl rfl fd44_1 ⟨g1, 0, none⟩ rfl ?_)
                  refine WL_of (L_load1 rfl rfl Tryd.underlying9 rfl B3.el (M39.agree 0 rfl) 1 rfl (.string (sv a0.Undo)) rfl ?_)
                  refine WL_of (L_lookup (V := Int) hB_a2 (M39.agree 1 rfl _ hg_a2) rfl rfl Tryd.underlying84 Tryd.underlying9 0 zr3 rfl a0.Undo rfl ?_)
                  refine WL_of (L_bin rfl rfl (.int .i64 ((mget a2 a0.Undo).getD 0)) (.int .i64 0) rfl rfl (.bool (decide ((0 : Int) < ((mget a2 a0.Undo).getD 0)))) (B_gtr _ _ _ _ ((mget a2 a0.Undo).getD 0) 0) ?_)
                  refine WL_of (L_move rfl rfl (.bool (decide ((0 : Int) < ((mget a2 a0.Undo).getD 0)))) rfl ?_)
                  by_cases c48 : (0 : Int) < ((mget a2 a0.Undo).getD 0)
                  · replace hz45 := ifP c48 hz45
                    refine WL_known 64 true (vtrue c48) ?_
                    refine WL_of (WO_off rfl rfl ?_)
                    refine WL_of (WO_off rfl rfl ?_)
                    refine WL_of (WO_off rfl rfl ?_)
                    refine WL_of (WO_off rfl rfl ?_)
                    refine WL_of (WO_off rfl rfl ?_)
                    refine WL_of (L_pick rfl rfl true rfl (.bool true) rfl ?_)
                    refine WL_of (L_pick rfl rfl true rfl (.bool true) rfl ?_)
                    refine WL_of (L_pick rfl rfl false rfl (.bool true) rfl ?_)
                    refine WL_nil ?_
                    refine thenN ?_
                    obtain rfl := someE hz45
                    exact ⟨_, updL_same _ _ ⟨rfl, rfl, trivial⟩, M39⟩
                  · replace hz45 := ifN c48 hz45
                    refine WL_known 64 false (vfalse c48) ?_
                    refine WL_of (L_field rfl rfl fd44_0 ⟨g1, 0, none⟩ rfl ?_)
                    refine WL_of (L_load1 rfl rfl Tryd.underlying9 rfl B3.el (M39.agree 0 rfl) 0 rfl (.string (sv a0.Do)) rfl ?_)
                    refine WL_of (L_field rfl rfl fd44_1 ⟨g1, 0, none⟩ rfl ?_)
                    refine WL_of (L_load1 rfl rfl Tryd.underlying9 rfl B3.el (M39.agree 0 rfl) 1 rfl (.string (sv a0.Undo)) rfl ?_)
                    refine WL_of (L_bin rfl rfl (.string (sv a0.Do)) (.string (sv a0.Undo)) rfl rfl (.bool (decide ((a0.Do : Str) = a0.Undo))) (B_seql _ _ _ a0.Do a0.Undo) ?_)
                    refine WL_of (L_pick rfl rfl false rfl (.bool (decide ((a0.Do : Str) = a0.Undo))) rfl ?_)
                    refine WL_of (L_pick rfl rfl true rfl (.bool (decide ((a0.Do : Str) = a0.Undo))) rfl ?_)
                    refine WL_of (L_pick rfl rfl false rfl (.bool (decide ((a0.Do : Str) = a0.Undo))) rfl ?_)
                    refine WL_nil ?_
                    refine thenN ?_
                    obtain rfl := someE hz45
                    exact ⟨_, updL_same _ _ ⟨rfl, rfl, trivial⟩, M39⟩
                · replace hz45 := ifN c47 hz45
                  refine WL_known 58 false (vfalse c47) ?_
                  refine WL_of (WO_off rfl rfl ?_)
                  refine WL_of (WO_off rfl rfl ?_)
                  refine WL_of (WO_off rfl rfl ?_)
                  refine WL_of (WO_off rfl rfl ?_)
                  refine WL_of (WO_off rfl rfl ?_)
                  refine WL_of (WO_off rfl rfl ?_)
                  refine WL_of (WO_off rfl rfl ?_)
                  refine WL_of (WO_off rfl rfl ?_)
                  refine WL_of (WO_off rfl rfl ?_)
                  refine WL_of (WO_off rfl rfl ?_)
                  refine WL_of (WO_off rfl rfl ?_)
                  refine WL_of (WO_off rfl rfl ?_)
                  refine WL_of (L_pick rfl rfl false rfl (.bool false) rfl ?_)
                  refine WL_of (L_pick rfl rfl false rfl (.bool false) rfl ?_)
                  refine WL_nil ?_
                  refine thenN ?_
                  obtain rfl := someE hz45
                  exact ⟨_, updL_same _ _ ⟨rfl, rfl, trivial⟩, M39⟩
            · rintro _ W49 ⟨ρ51, rfl, M50⟩
              refine WC_ifb rfl (fun c52 => ?_) (fun c52 => ?_)
              · replace H := ifP c52 H
                refine WC_seq ?_
                refine WC_region ?_
                refine WL_of (L_assign rfl rfl (.int .i64 151) rfl ?_)
                refine WL_nil ?_
                refine thenN ?_
                refine WC_ret ?_
                refine thenR ?_
                obtain rfl := someE H
                have M53 : Mem W49 [(Fr, w), (one g1, W2)] := M50.front [(one g1, W2)] rfl
                have M54 : Mem W49 [(Fr, w)] := M53.sub (List.prefix_append [(Fr, w)] [(one g1, W2)]).sublist
                refine retR [.int .i64 151] ⟨rfl, trivial⟩ ?_
                exact ⟨rfl, M54⟩
              · replace H := ifN (by rw [c52]; simp) H
                refine WC_skip ?_
                refine thenN ?_
                refine WC_seq ?_
                refine WC_region ?_
                refine WL_of (L_assign rfl rfl (.int .i64 0) rfl ?_)
                refine WL_nil ?_
                refine thenN ?_
                refine WC_ret ?_
                obtain rfl := someE H
                have M55 : Mem W49 [(Fr, w), (one g1, W2)] := M50.front [(one g1, W2)] rfl
                have M56 : Mem W49 [(Fr, w)] := M55.sub (List.prefix_append [(Fr, w)] [(one g1, W2)]).sublist
                refine retR [.int .i64 0] ⟨rfl, trivial⟩ ?_
                exact ⟨rfl, M56⟩

/-! ### annals/plan.check: function 19 -/
mutual
def plan_check.j0 : Nat → api_Plan → Int → Int → Int → (List (Str × Int)) → Option (Int × Int)
  | 0, _, _, _, _, _ => none
  | k + 1, a0, x45, x46, x47, x57 => (plan_check.l0 k a0 x45 x46 (wrap64 (x47 + 1)) x57)
def plan_check.l0 : Nat → api_Plan → Int → Int → Int → (List (Str × Int)) → Option (Int × Int)
  | 0, _, _, _, _, _ => none
  | k + 1, a0, x45, x46, x47, x48 => (if (x47 : Int) < (a0.Steps.length : Int) then (atL a0.Steps x47).bind (fun q65 => (plan_place a0 x47).bind (fun (r83 : Int) => (plan_checkStep k q65 r83 x48).bind (fun (r89 : Int) => (if (r89 : Int) ≠ 0 then (some (r89, x47)) else (if (q65.Undo : Str) ≠ (lit []) then (plan_check.j0 k a0 x45 x46 x47 (mput (mput x48 q65.Do (wrap64 (((mget x48 q65.Do).getD 0) + 1))) q65.Undo (wrap64 (((mget (mput x48 q65.Do (wrap64 (((mget x48 q65.Do).getD 0) + 1))) q65.Undo).getD 0) + 1)))) else (plan_check.j0 k a0 x45 x46 x47 (mput x48 q65.Do (wrap64 (((mget x48 q65.Do).getD 0) + 1))))))))) else (some (0, 0)))
end
def plan_check (k : Nat) (a0 : api_Plan) : Option (Int × Int) :=
  (plan_isName k a0.Name).bind (fun (r6 : Bool) => (if (!r6) = true then (some (35, 0)) else ((if ((a0.Steps.length : Int) : Int) = 0 then (some true) else (some (decide ((32 : Int) < (a0.Steps.length : Int)))))).bind (fun (z14 : Bool) => (if z14 = true then (some (153, 32)) else ((if (a0.Pivot : Int) < 0 then (some true) else (some (decide (((a0.Steps.length : Int) : Int) < a0.Pivot))))).bind (fun (z23 : Bool) => (if z23 = true then (some (34, 0)) else (plan_check.l0 k a0 0 0 0 ([] : List (Str × Int)))))))))
set_option maxRecDepth 100000 in
set_option maxHeartbeats 4000000 in
theorem plan_check_ok (k : Nat) (a0 : api_Plan) (Aa0_0 : Option Addr) (ca0_0 : Nat) (r : Int × Int) (w : World) (Fr : BS) (hG : Gl Fr w) (hF : ∀ b, Fr b → b < w.heap.size) (ha0_0 : SR w Fr w Fr Aa0_0 ca0_0 a0.Steps) (H : plan_check k a0 = some r) :
    CallsR Tryd.prog 19 #[.agg #[.string (sv a0.Name), .int .i64 a0.Pivot, .slice Aa0_0 a0.Steps.length ca0_0]] w (fun v w' => v = .tuple #[.int .i64 r.1, .int .i64 r.2] ∧ Mem w' [(Fr, w)]) := by
  have M0 := Mem.start w Fr hF
  refine enterZ (args := [.agg #[.string (sv a0.Name), .int .i64 a0.Pivot, .slice Aa0_0 a0.Steps.length ca0_0]]) [.tmp 2, .tmp 3] Tryd.func19 rfl rfl rfl rfl ?_
  unfold plan_check at H
  refine WC_seq ?_
  refine WC_region ?_
  refine WL_of (L_box M0 rfl rfl (.agg #[.string (sv a0.Name), .int .i64 a0.Pivot, .slice Aa0_0 a0.Steps.length ca0_0]) rfl [.string (sv a0.Name), .int .i64 a0.Pivot, .slice Aa0_0 a0.Steps.length ca0_0] rfl ?_)
  intro g1 W2 B3 M4
  refine WL_of (L_assign rfl rfl (.int .i64 0) rfl ?_)
  refine WL_of (L_assign rfl rfl (.int .i64 0) rfl ?_)
  refine WL_nil ?_
  refine thenN ?_
  refine WC_seq ?_
  refine WC_seq ?_
  refine WC_region ?_
  refine WL_of (L_field rfl rfl fd24_0 ⟨g1, 0, none⟩ rfl ?_)
  refine WL_of (L_load1 rfl rfl Tryd.underlying9 rfl B3.el (M4.agree 0 rfl) 0 rfl (.string (sv a0.Name)) rfl ?_)
  obtain ⟨r6, hr7, H⟩ := bindS H
  refine WL_of (L_call' rfl rfl cf30 [.string (sv a0.Name)] rfl (plan_isName_ok k a0.Name r6 _ (Un [(one g1, W2), (Fr, w)]) (hG.call M4 1 rfl) M4.frame  hr7) ?_)
  rintro _ W8 ⟨rfl, M9⟩
  have M10 : Mem W8 [(one g1, W2), (Fr, w)] := M4.back (New := []) M9
  refine WL_of (L_not rfl rfl r6 rfl ?_)
  refine WL_nil ?_
  refine thenN ?_
  refine WC_ifb rfl (fun c11 => ?_) (fun c11 => ?_)
  · replace H := ifP c11 H
    refine WC_seq ?_
    refine WC_region ?_
    refine WL_of (L_assign rfl rfl (.int .i64 35) rfl ?_)
    refine WL_of (L_assign rfl rfl (.int .i64 0) rfl ?_)
    refine WL_nil ?_
    refine thenN ?_
    refine WC_ret ?_
    refine thenR ?_
    obtain rfl := someE H
    have M12 : Mem W8 [(Fr, w), (one g1, W2)] := M10.front [(one g1, W2)] rfl
    have M13 : Mem W8 [(Fr, w)] := M12.sub (List.prefix_append [(Fr, w)] [(one g1, W2)]).sublist
    refine retR [.int .i64 35, .int .i64 0] ⟨rfl, rfl, trivial⟩ ?_
    exact ⟨rfl, M13⟩
  · replace H := ifN (by rw [c11]; simp) H
    refine WC_skip ?_
    refine thenN ?_
    refine WC_seq ?_
    obtain ⟨z14, hz15, H⟩ := bindS H
    refine WC_cut (fun ρ w_ => ∃  (ρ0 : Nat → Value), ρ = updL ρ0 [(1, .pointer (some ⟨g1, 0, none⟩)), (2, .int .i64 0), (3, .int .i64 0), (21, .bool z14)] ∧ Mem w_ [(one g1, W2), (Fr, w)]) ?_ ?_
    · refine WC_region ?_
      refine WL_of (L_field rfl rfl fd24_2 ⟨g1, 0, none⟩ rfl ?_)
      refine WL_of (L_load1 rfl rfl Tryd.underlying22 rfl B3.el (M10.agree 0 rfl) 2 rfl (.slice Aa0_0 a0.Steps.length ca0_0) rfl ?_)
      refine WL_of (L_len rfl rfl (.slice Aa0_0 a0.Steps.length ca0_0) rfl (a0.Steps.length) (N_slice Tryd.underlying22 _ _ _) ?_)
      refine WL_of (L_bin rfl rfl (.int .i64 (a0.Steps.length : Int)) (.int .i64 0) rfl rfl (.bool (decide (((a0.Steps.length : Int) : Int) = 0))) (B_eql _ _ _ _ (a0.Steps.length : Int) 0) ?_)
      refine WL_of (L_move rfl rfl (.bool (decide (((a0.Steps.length : Int) : Int) = 0))) rfl ?_)
      by_cases c16 : ((a0.Steps.length : Int) : Int) = 0
      · replace hz15 := ifP c16 hz15
        refine WL_known 16 true (vtrue c16) ?_
        refine WL_of (WO_off rfl rfl ?_)
        refine WL_of (WO_off rfl rfl ?_)
        refine WL_of (WO_off rfl rfl ?_)
        refine WL_of (WO_off rfl rfl ?_)
        refine WL_of (L_pick rfl rfl true rfl (.bool true) rfl ?_)
        refine WL_nil ?_
        refine thenN ?_
        obtain rfl := someE hz15
        exact ⟨_, updL_same _ _ ⟨rfl, rfl, rfl, rfl, trivial⟩, M10⟩
      · replace hz15 := ifN c16 hz15
        refine WL_known 16 false (vfalse c16) ?_
        refine WL_of (L_field rfl rfl fd24_2 ⟨g1, 0, none⟩ rfl ?_)
        refine WL_of (L_load1 rfl rfl Tryd.underlying22 rfl B3.el (M10.agree 0 rfl) 2 rfl (.slice Aa0_0 a0.Steps.length ca0_0) rfl ?_)
        refine WL_of (L_len rfl rfl (.slice Aa0_0 a0.Steps.length ca0_0) rfl (a0.Steps.length) (N_slice Tryd.underlying22 _ _ _) ?_)
        refine WL_of (L_bin rfl rfl (.int .i64 (a0.Steps.length : Int)) (.int .i64 32) rfl rfl (.bool (decide ((32 : Int) < (a0.Steps.length : Int)))) (B_gtr _ _ _ _ (a0.Steps.length : Int) 32) ?_)
        refine WL_of (L_pick rfl rfl false rfl (.bool (decide ((32 : Int) < (a0.Steps.length : Int)))) rfl ?_)
        refine WL_nil ?_
        refine thenN ?_
        obtain rfl := someE hz15
        exact ⟨_, updL_same _ _ ⟨rfl, rfl, rfl, rfl, trivial⟩, M10⟩
    · rintro _ W17 ⟨ρ19, rfl, M18⟩
      refine WC_ifb rfl (fun c20 => ?_) (fun c20 => ?_)
      · replace H := ifP c20 H
        refine WC_seq ?_
        refine WC_region ?_
        refine WL_of (L_assign rfl rfl (.int .i64 153) rfl ?_)
        refine WL_of (L_assign rfl rfl (.int .i64 32) rfl ?_)
        refine WL_nil ?_
        refine thenN ?_
        refine WC_ret ?_
        refine thenR ?_
        obtain rfl := someE H
        have M21 : Mem W17 [(Fr, w), (one g1, W2)] := M18.front [(one g1, W2)] rfl
        have M22 : Mem W17 [(Fr, w)] := M21.sub (List.prefix_append [(Fr, w)] [(one g1, W2)]).sublist
        refine retR [.int .i64 153, .int .i64 32] ⟨rfl, rfl, trivial⟩ ?_
        exact ⟨rfl, M22⟩
      · replace H := ifN (by rw [c20]; simp) H
        refine WC_skip ?_
        refine thenN ?_
        refine WC_seq ?_
        obtain ⟨z23, hz24, H⟩ := bindS H
        refine WC_cut (fun ρ w_ => ∃  (ρ0 : Nat → Value), ρ = updL ρ0 [(1, .pointer (some ⟨g1, 0, none⟩)), (2, .int .i64 0), (3, .int .i64 0), (32, .bool z23)] ∧ Mem w_ [(one g1, W2), (Fr, w)]) ?_ ?_
        · refine WC_region ?_
          refine WL_of (L_field rfl rfl fd24_1 ⟨g1, 0, none⟩ rfl ?_)
          refine WL_of (L_load1 rfl rfl Tryd.underlying3 rfl B3.el (M18.agree 0 rfl) 1 rfl (.int .i64 a0.Pivot) rfl ?_)
          refine WL_of (L_bin rfl rfl (.int .i64 a0.Pivot) (.int .i64 0) rfl rfl (.bool (decide ((a0.Pivot : Int) < 0))) (B_lss _ _ _ _ a0.Pivot 0) ?_)
          refine WL_of (L_move rfl rfl (.bool (decide ((a0.Pivot : Int) < 0))) rfl ?_)
          by_cases c25 : (a0.Pivot : Int) < 0
          · replace hz24 := ifP c25 hz24
            refine WL_known 25 true (vtrue c25) ?_
            refine WL_of (WO_off rfl rfl ?_)
            refine WL_of (WO_off rfl rfl ?_)
            refine WL_of (WO_off rfl rfl ?_)
            refine WL_of (WO_off rfl rfl ?_)
            refine WL_of (WO_off rfl rfl ?_)
            refine WL_of (WO_off rfl rfl ?_)
            refine WL_of (L_pick rfl rfl true rfl (.bool true) rfl ?_)
            refine WL_nil ?_
            refine thenN ?_
            obtain rfl := someE hz24
            exact ⟨_, updL_same _ _ ⟨rfl, rfl, rfl, rfl, trivial⟩, M18⟩
          · replace hz24 := ifN c25 hz24
            refine WL_known 25 false (vfalse c25) ?_
            refine WL_of (L_field rfl rfl fd24_1 ⟨g1, 0, none⟩ rfl ?_)
            refine WL_of (L_load1 rfl rfl Tryd.underlying3 rfl B3.el (M18.agree 0 rfl) 1 rfl (.int .i64 a0.Pivot) rfl ?_)
            refine WL_of (L_field rfl rfl fd24_2 ⟨g1, 0, none⟩ rfl ?_)
            refine WL_of (L_load1 rfl rfl Tryd.underlying22 rfl B3.el (M18.agree 0 rfl) 2 rfl (.slice Aa0_0 a0.Steps.length ca0_0) rfl ?_)
            refine WL_of (L_len rfl rfl (.slice Aa0_0 a0.Steps.length ca0_0) rfl (a0.Steps.length) (N_slice Tryd.underlying22 _ _ _) ?_)
            refine WL_of (L_bin rfl rfl (.int .i64 a0.Pivot) (.int .i64 (a0.Steps.length : Int)) rfl rfl (.bool (decide (((a0.Steps.length : Int) : Int) < a0.Pivot))) (B_gtr _ _ _ _ a0.Pivot (a0.Steps.length : Int)) ?_)
            refine WL_of (L_pick rfl rfl false rfl (.bool (decide (((a0.Steps.length : Int) : Int) < a0.Pivot))) rfl ?_)
            refine WL_nil ?_
            refine thenN ?_
            obtain rfl := someE hz24
            exact ⟨_, updL_same _ _ ⟨rfl, rfl, rfl, rfl, trivial⟩, M18⟩
        · rintro _ W26 ⟨ρ28, rfl, M27⟩
          refine WC_ifb rfl (fun c29 => ?_) (fun c29 => ?_)
          · replace H := ifP c29 H
            refine WC_seq ?_
            refine WC_region ?_
            refine WL_of (L_assign rfl rfl (.int .i64 34) rfl ?_)
            refine WL_of (L_assign rfl rfl (.int .i64 0) rfl ?_)
            refine WL_nil ?_
            refine thenN ?_
            refine WC_ret ?_
            refine thenR ?_
            obtain rfl := someE H
            have M30 : Mem W26 [(Fr, w), (one g1, W2)] := M27.front [(one g1, W2)] rfl
            have M31 : Mem W26 [(Fr, w)] := M30.sub (List.prefix_append [(Fr, w)] [(one g1, W2)]).sublist
            refine retR [.int .i64 34, .int .i64 0] ⟨rfl, rfl, trivial⟩ ?_
            exact ⟨rfl, M31⟩
          · replace H := ifN (by rw [c29]; simp) H
            refine WC_skip ?_
            refine thenN ?_
            refine WC_seq ?_
            refine WC_region ?_
            refine WL_of (L_makeMap ([] : List (Str × Int)) rfl M27 rfl rfl ?_)
            intro g32 W33 B34 M35
            refine WL_of (L_assign rfl rfl (.map (some g32)) rfl ?_)
            refine WL_nil ?_
            refine thenN ?_
            refine WC_seq ?_
            refine WC_seq ?_
            refine WC_region ?_
            refine WL_of (L_field rfl rfl fd24_2 ⟨g1, 0, none⟩ rfl ?_)
            refine WL_of (L_load1 rfl rfl Tryd.underlying22 rfl B3.el (M35.agree 1 rfl) 2 rfl (.slice Aa0_0 a0.Steps.length ca0_0) rfl ?_)
            refine WL_of (L_len rfl rfl (.slice Aa0_0 a0.Steps.length ca0_0) rfl (a0.Steps.length) (N_slice Tryd.underlying22 _ _ _) ?_)
            refine WL_of (L_move rfl rfl (.int .i64 0) rfl ?_)
            refine WL_nil ?_
            refine thenN ?_
            refine WC_block ?_
            refine WC_loop (fun k54 ρ w_ => ∃ (x45 : Int) (x46 : Int) (x47 : Int) (x48 : List (Str × Int)) (ρ0 : Nat → Value), ρ = updL ρ0 [(1, .pointer (some ⟨g1, 0, none⟩)), (2, .int .i64 x45), (3, .int .i64 x46), (4, .map (some g32)), (35, .slice Aa0_0 a0.Steps.length ca0_0), (36, .int .i64 (a0.Steps.length : Int)), (37, .int .i64 x47)] ∧ Mem w_ [(one g32, w_), (one g1, W2), (Fr, w)] ∧ MPR w_ g32 x48 ∧ k54 ≤ k ∧ plan_check.l0 k54 a0 x45 x46 x47 x48 = some r) k ?_ ?_
            · exact ⟨0, 0, 0, ([] : List (Str × Int)), _, updL_same _ _ ⟨rfl, rfl, rfl, rfl, rfl, rfl, rfl, trivial⟩, M35, B34, (Nat.le_refl _), H⟩
            · rintro k54 _ W50 ⟨x45, x46, x47, x48, ρ52, rfl, M51, B49, hk55, H53⟩
              cases k54 with
              | zero => rw [plan_check.l0] at H53; cases H53
              | succ k54 =>
              rw [plan_check.l0] at H53
              refine WC_seq ?_
              refine WC_region ?_
              refine WL_of (L_bin rfl rfl (.int .i64 x47) (.int .i64 (a0.Steps.length : Int)) rfl rfl (.bool (decide ((x47 : Int) < (a0.Steps.length : Int)))) (B_lss _ _ _ _ x47 (a0.Steps.length : Int)) ?_)
              refine WL_nil ?_
              refine thenN ?_
              refine WC_seq ?_
              refine WC_if (p := (x47 : Int) < (a0.Steps.length : Int)) rfl (fun c56 => ?_) (fun c56 => ?_)
              · replace H53 := ifP c56 H53
                refine WC_skip ?_
                refine thenN ?_
                refine WC_cut (fun ρ w_ => ∃ (k62 : Nat), ∃ (x57 : List (Str × Int)) (ρ0 : Nat → Value), ρ = updL ρ0 [(1, .pointer (some ⟨g1, 0, none⟩)), (2, .int .i64 x45), (3, .int .i64 x46), (4, .map (some g32)), (35, .slice Aa0_0 a0.Steps.length ca0_0), (36, .int .i64 (a0.Steps.length : Int)), (37, .int .i64 x47)] ∧ Mem w_ [(one g32, w_), (one g1, W2), (Fr, w)] ∧ MPR w_ g32 x57 ∧ k62 ≤ k54 ∧ plan_check.j0 k62 a0 x45 x46 x47 x57 = some r) ?_ ?_
                · refine WC_block ?_
                  refine WC_seq ?_
                  refine WC_region ?_
                  refine WL_of (L_move rfl rfl (.int .i64 x47) rfl ?_)
                  obtain ⟨q65, hq66, H53⟩ := bindS H53
                  obtain ⟨ad67, cs68, hA69, E70, R71⟩ := ha0_0.at hq66
                  have hl72 := atL_spec hq66
                  refine WL_of (L_index rfl rfl Tryd.underlying22 sz44 rfl rfl hA69 hl72.1 hl72.2.1 ?_)
                  obtain rfl := R71
                  have E73 : El w Fr (Addr.add ad67 (Int.toNat x47 * 3)) [.string (sv q65.Do), .string (sv q65.Undo), .int .i64 q65.Tries] := E70
                  refine WL_of (L_loadN rfl rfl Tryd.underlying44 rfl E73 (M51.agree 2 rfl) 0 rfl 3 sz44 [.string (sv q65.Do), .string (sv q65.Undo), .int .i64 q65.Tries] rfl rfl ?_)
                  refine WL_of (L_alloc M51 rfl rfl zr44 [.string (sv (lit [])), .string (sv (lit [])), .int .i64 0] rfl ?_)
                  intro g74 W75 B76 M77
                  refine WL_of (L_assign rfl rfl (.int .i64 x47) rfl ?_)
                  refine WL_of (L_store M77 rfl (.agg #[.string (sv q65.Do), .string (sv q65.Undo), .int .i64 q65.Tries]) rfl [.string (sv q65.Do), .string (sv q65.Undo), .int .i64 q65.Tries] rfl 3 sz44 rfl rfl rfl B76 rfl rfl [.string (sv q65.Do), .string (sv q65.Undo), .int .i64 q65.Tries] rfl ?_)
                  intro W78 B79 M80
                  refine WL_nil ?_
                  refine thenN ?_
                  refine WC_seq ?_
                  refine WC_seq ?_
                  refine WD_start (n := 7) (fun w_ => Mem w_ [(one g74, W78), (one g32, W50), (one g1, W2), (Fr, w)]) [] mixed rfl ?_
                  have M81 := M80.drawn
                  refine WD_take' 0 rfl (by kernel_rfl) (by kernel_rfl) (by kernel_rfl) (by kernel_rfl) (by kernel_rfl) rfl (fun _ _ _ h => h) rfl _ (M81.sub (.cons_cons _ (.cons_cons _ (.cons_cons _ (.cons_cons _ .slnil))))) rfl (fun w_ hS => L_loadN rfl rfl Tryd.underlying44 rfl B79.el (hS.agree 0 rfl) 0 rfl 3 sz44 [.string (sv q65.Do), .string (sv q65.Undo), .int .i64 q65.Tries] rfl rfl  ⟨rfl, rfl⟩) ?_
                  refine WD_take' 1 rfl (by kernel_rfl) (by kernel_rfl) (by kernel_rfl) (by kernel_rfl) (by kernel_rfl) rfl (fun _ _ _ h => h) rfl _ (M81.sub (.cons_cons _ (.cons_cons _ (.cons_cons _ (.cons_cons _ .slnil))))) rfl (fun w_ hS => L_loadN rfl rfl Tryd.underlying24 rfl B3.el (hS.agree 2 rfl) 0 rfl 3 sz24 [.string (sv a0.Name), .int .i64 a0.Pivot, .slice Aa0_0 a0.Steps.length ca0_0] rfl rfl  ⟨rfl, rfl⟩) ?_
                  refine WD_take' 2 rfl (by kernel_rfl) (by kernel_rfl) (by kernel_rfl) (by kernel_rfl) (by kernel_rfl) rfl (fun _ _ _ h => h) rfl _ (M81.sub (.cons_cons _ (.cons_cons _ (.cons_cons _ (.cons_cons _ .slnil))))) rfl (fun w_ hS => L_move rfl rfl (.int .i64 x47) rfl  ⟨rfl, rfl⟩) ?_
                  refine WD_take' 4 rfl (by kernel_rfl) (by kernel_rfl) (by kernel_rfl) (by kernel_rfl) (by kernel_rfl) rfl (fun _ _ _ h => h) rfl _ (M81.sub (.cons_cons _ (.cons_cons _ (.cons_cons _ (.cons_cons _ .slnil))))) rfl (fun w_ hS => L_move rfl rfl (.map (some g32)) rfl  ⟨rfl, rfl⟩) ?_
                  obtain ⟨r83, hr84, H53⟩ := bindS H53
                  refine WD_one 3 rfl (by kernel_rfl) (L_call' rfl rfl cf25 [.agg #[.string (sv a0.Name), .int .i64 a0.Pivot, .slice Aa0_0 a0.Steps.length ca0_0], .int .i64 x47] rfl (plan_place_ok a0 Aa0_0 ca0_0 x47 r83 _ (Un [(one g74, W78), (one g32, W50), (one g1, W2), (Fr, w)]) (hG.call M81 3 rfl) M81.frame ((ha0_0.agree (M81.agree 3 rfl) (M81.agree 3 rfl)).sub (Un.at 3 rfl) (Un.at 3 rfl)) hr84) ?_)
                  rintro _ W85 ⟨rfl, M86⟩
                  have M87 : Mem W85 [(one g74, W78), (one g32, W50), (one g1, W2), (Fr, w)] := M81.back (New := []) M86
                  refine ⟨fun _ => (M87.sub (.cons_cons _ (.cons_cons _ (.cons_cons _ (.cons_cons _ .slnil))))), ?_⟩
                  obtain ⟨r89, hr90, H53⟩ := bindS H53
                  refine WD_one 5 rfl (by kernel_rfl) (L_call' rfl rfl cf31 [.agg #[.string (sv q65.Do), .string (sv q65.Undo), .int .i64 q65.Tries], .int .i64 r83, .map (some g32)] rfl (plan_checkStep_ok k54 q65 r83 x48 g32 r89 _ (Un [(one g74, W78), (one g32, W50), (one g1, W2), (Fr, w)]) (hG.call M87 3 rfl) M87.frame (Un.at (S := one g32) 1 rfl _ rfl) (B49.now (M87.agree 1 rfl)) hr90) ?_)
                  rintro _ W91 ⟨rfl, M92⟩
                  have M93 : Mem W91 [(one g74, W78), (one g32, W50), (one g1, W2), (Fr, w)] := M87.back (New := []) M92
                  refine ⟨fun _ => (M93.sub (.cons_cons _ (.cons_cons _ (.cons_cons _ (.cons_cons _ .slnil))))), ?_⟩
                  refine WD_take' 6 rfl (by kernel_rfl) (by kernel_rfl) (by kernel_rfl) (by kernel_rfl) (by kernel_rfl) rfl (fun _ _ _ h => h) rfl _ (M93.sub (.cons_cons _ (.cons_cons _ (.cons_cons _ (.cons_cons _ .slnil))))) rfl (fun w_ hS => L_assign rfl rfl (.int .i64 r89) rfl  ⟨rfl, rfl⟩) ?_
                  refine WD_done (by kernel_rfl) ?_
                  refine thenN ?_
                  refine WC_seq ?_
                  refine WC_region ?_
                  refine WL_of (L_move rfl rfl (.int .i64 r89) rfl ?_)
                  refine WL_of (L_bin rfl rfl (.int .i64 r89) (.int .i64 0) rfl rfl (.bool (decide ((r89 : Int) ≠ 0))) (B_neq _ _ _ _ r89 0) ?_)
                  refine WL_nil ?_
                  refine thenN ?_
                  refine WC_if (p := (r89 : Int) ≠ 0) rfl (fun c94 => ?_) (fun c94 => ?_)
                  · replace H53 := ifP c94 H53
                    refine WC_seq ?_
                    refine WC_region ?_
                    refine WL_of (L_move rfl rfl (.int .i64 r89) rfl ?_)
                    refine WL_of (L_move rfl rfl (.int .i64 x47) rfl ?_)
                    refine WL_of (L_assign rfl rfl (.int .i64 r89) rfl ?_)
                    refine WL_of (L_assign rfl rfl (.int .i64 x47) rfl ?_)
                    refine WL_nil ?_
                    refine thenN ?_
                    refine WC_ret ?_
                    refine thenR ?_
                    refine blkR ?_
                    refine thenR ?_
                    refine thenR ?_
                    refine blkR ?_
                    refine thenR ?_
                    obtain rfl := someE H53
                    have M95 : Mem W91 [(Fr, w), (one g74, W78), (one g32, W50), (one g1, W2)] := M93.front [(one g74, W78), (one g32, W50), (one g1, W2)] rfl
                    have M96 : Mem W91 [(Fr, w)] := M95.sub (List.prefix_append [(Fr, w)] [(one g74, W78), (one g32, W50), (one g1, W2)]).sublist
                    refine retR [.int .i64 r89, .int .i64 x47] ⟨rfl, rfl, trivial⟩ ?_
                    exact ⟨rfl, M96⟩
                  · replace H53 := ifN c94 H53
                    refine WC_skip ?_
                    refine thenN ?_
                    refine WC_seq ?_
                    refine WC_region ?_
                    refine WL_of (L_move rfl rfl (.map (some g32)) rfl ?_)
                    refine WL_of (L_field rfl rfl fd44_0 ⟨g74, 0, none⟩ rfl ?_)
                    refine WL_of (L_load1 rfl rfl Tryd.underlying9 rfl B79.el (M93.agree 0 rfl) 0 rfl (.string (sv q65.Do)) rfl ?_)
                    refine WL_of (L_lookup (V := Int) B49 (M93.agree 1 rfl _ rfl) rfl rfl Tryd.underlying84 Tryd.underlying9 0 zr3 rfl q65.Do rfl ?_)
                    refine WL_of (L_bin rfl rfl (.int .i64 ((mget x48 q65.Do).getD 0)) (.int .i64 1) rfl rfl (.int .i64 (wrap64 (((mget x48 q65.Do).getD 0) + 1))) (B_add _ _ _ ((mget x48 q65.Do).getD 0) 1) ?_)
                    have M97 : Mem W91 [(one g32, W50), (one g74, W78), (one g1, W2), (Fr, w)] := M93.front [(one g74, W78)] rfl
                    refine WL_of (L_mapUpdate M97 B49 rfl Tryd.underlying84 Tryd.underlying9 rfl q65.Do rfl (wrap64 (((mget x48 q65.Do).getD 0) + 1)) rfl ?_)
                    intro W98 B99 M100
                    refine WL_nil ?_
                    refine thenN ?_
                    refine WC_seq ?_
                    refine WC_region ?_
                    refine WL_of (L_field rfl rfl fd44_1 ⟨g74, 0, none⟩ rfl ?_)
                    refine WL_of (L_load1 rfl rfl Tryd.underlying9 rfl B79.el (M100.agree 1 rfl) 1 rfl (.string (sv q65.Undo)) rfl ?_)
                    refine WL_of (L_bin rfl rfl (.string (sv q65.Undo)) (.string (sv (lit []))) rfl rfl (.bool (decide ((q65.Undo : Str) ≠ (lit [])))) (B_sneq _ _ _ q65.Undo (lit [])) ?_)
                    refine WL_nil ?_
                    refine thenN ?_
                    refine WC_if (p := (q65.Undo : Str) ≠ (lit [])) rfl (fun c101 => ?_) (fun c101 => ?_)
                    · replace H53 := ifP c101 H53
                      refine WC_region ?_
                      refine WL_of (L_move rfl rfl (.map (some g32)) rfl ?_)
                      refine WL_of (L_field rfl rfl fd44_1 ⟨g74, 0, none⟩ rfl ?_)
                      refine WL_of (L_load1 rfl rfl Tryd.underlying9 rfl B79.el (M100.agree 1 rfl) 1 rfl (.string (sv q65.Undo)) rfl ?_)
                      refine WL_of (L_lookup (V := Int) B99 (M100.agree 0 rfl _ rfl) rfl rfl Tryd.underlying84 Tryd.underlying9 0 zr3 rfl q65.Undo rfl ?_)
                      refine WL_of (L_bin rfl rfl (.int .i64 ((mget (mput x48 q65.Do (wrap64 (((mget x48 q65.Do).getD 0) + 1))) q65.Undo).getD 0)) (.int .i64 1) rfl rfl (.int .i64 (wrap64 (((mget (mput x48 q65.Do (wrap64 (((mget x48 q65.Do).getD 0) + 1))) q65.Undo).getD 0) + 1))) (B_add _ _ _ ((mget (mput x48 q65.Do (wrap64 (((mget x48 q65.Do).getD 0) + 1))) q65.Undo).getD 0) 1) ?_)
                      refine WL_of (L_mapUpdate M100 B99 rfl Tryd.underlying84 Tryd.underlying9 rfl q65.Undo rfl (wrap64 (((mget (mput x48 q65.Do (wrap64 (((mget x48 q65.Do).getD 0) + 1))) q65.Undo).getD 0) + 1)) rfl ?_)
                      intro W102 B103 M104
                      refine WL_nil ?_
                      refine blkN ?_
                      refine thenN ?_
                      have M105 : Mem W102 [(Fr, w), (one g32, W102), (one g74, W78), (one g1, W2)] := M104.front [(one g32, W102), (one g74, W78), (one g1, W2)] rfl
                      have M106 : Mem W102 [(one g1, W2), (Fr, w), (one g32, W102), (one g74, W78)] := M105.front [(Fr, w), (one g32, W102), (one g74, W78)] rfl
                      have M107 : Mem W102 [(one g32, W102), (one g1, W2), (Fr, w), (one g74, W78)] := M106.front [(one g1, W2), (Fr, w)] rfl
                      have M108 : Mem W102 [(one g32, W102), (one g1, W2), (Fr, w)] := M107.sub (List.prefix_append [(one g32, W102), (one g1, W2), (Fr, w)] [(one g74, W78)]).sublist
                      exact ⟨k54, (mput (mput x48 q65.Do (wrap64 (((mget x48 q65.Do).getD 0) + 1))) q65.Undo (wrap64 (((mget (mput x48 q65.Do (wrap64 (((mget x48 q65.Do).getD 0) + 1))) q65.Undo).getD 0) + 1))), _, updL_same _ _ ⟨rfl, rfl, rfl, rfl, rfl, rfl, rfl, trivial⟩, M108, B103, (by omega), H53⟩
                    · replace H53 := ifN c101 H53
                      refine WC_skip ?_
                      refine blkN ?_
                      refine thenN ?_
                      have M109 : Mem W98 [(Fr, w), (one g32, W98), (one g74, W78), (one g1, W2)] := M100.front [(one g32, W98), (one g74, W78), (one g1, W2)] rfl
                      have M110 : Mem W98 [(one g1, W2), (Fr, w), (one g32, W98), (one g74, W78)] := M109.front [(Fr, w), (one g32, W98), (one g74, W78)] rfl
                      have M111 : Mem W98 [(one g32, W98), (one g1, W2), (Fr, w), (one g74, W78)] := M110.front [(one g1, W2), (Fr, w)] rfl
                      have M112 : Mem W98 [(one g32, W98), (one g1, W2), (Fr, w)] := M111.sub (List.prefix_append [(one g32, W98), (one g1, W2), (Fr, w)] [(one g74, W78)]).sublist
                      exact ⟨k54, (mput x48 q65.Do (wrap64 (((mget x48 q65.Do).getD 0) + 1))), _, updL_same _ _ ⟨rfl, rfl, rfl, rfl, rfl, rfl, rfl, trivial⟩, M112, B99, (by omega), H53⟩
                · rintro _ W59 ⟨k62, x57, ρ61, rfl, M60, B58, hk63, H64⟩
                  cases k62 with
                  | zero => rw [plan_check.j0] at H64; cases H64
                  | succ k62 =>
                  rw [plan_check.j0] at H64
                  refine WC_region ?_
                  refine WL_of (L_bin rfl rfl (.int .i64 x47) (.int .i64 1) rfl rfl (.int .i64 (wrap64 (x47 + 1))) (B_add _ _ _ x47 1) ?_)
                  refine WL_of (L_move rfl rfl (.int .i64 (wrap64 (x47 + 1))) rfl ?_)
                  refine WL_nil ?_
                  refine thenN ?_
                  exact ⟨k62, by omega, x45, x46, wrap64 (x47 + 1), x57, _, updL_same _ _ ⟨rfl, rfl, rfl, rfl, rfl, rfl, rfl, trivial⟩, M60, B58, (by omega), H64⟩
              · replace H53 := ifN c56 H53
                refine WC_exit ?_
                refine thenE ?_
                refine thenE ?_
                refine blkX ?_
                refine thenN ?_
                refine WC_seq ?_
                refine WC_region ?_
                refine WL_of (L_assign rfl rfl (.int .i64 0) rfl ?_)
                refine WL_of (L_assign rfl rfl (.int .i64 0) rfl ?_)
                refine WL_nil ?_
                refine thenN ?_
                refine WC_ret ?_
                obtain rfl := someE H53
                have M113 : Mem W50 [(Fr, w), (one g32, W50), (one g1, W2)] := M51.front [(one g32, W50), (one g1, W2)] rfl
                have M114 : Mem W50 [(Fr, w)] := M113.sub (List.prefix_append [(Fr, w)] [(one g32, W50), (one g1, W2)]).sublist
                refine retR [.int .i64 0, .int .i64 0] ⟨rfl, rfl, trivial⟩ ?_
                exact ⟨rfl, M114⟩

def strconv_Itoa (a0 : Int) : Option Str := if -9223372036854775808 ≤ a0 ∧ a0 ≤ 9223372036854775807 then some (lit (Lib.itoa a0)) else none
set_option maxRecDepth 100000 in
theorem strconv_Itoa_ok (a0 : Int) (r : Str) (w : World) (Fr : BS) (hG : Gl Fr w) (hF : ∀ b, Fr b → b < w.heap.size) (H : strconv_Itoa a0 = some r) :
    CallsR Tryd.prog 28 #[.int .i64 a0] w (fun v w' => v = .string (sv r) ∧ Mem w' [(Fr, w)]) := by
  unfold strconv_Itoa at H
  split at H
  · rename_i h0
    obtain rfl := someE H
    refine Calls.mono (Tryd.strconv_Itoa a0 h0.1 h0.2 w (hG.pow w (Agree.refl _ _))) ?_
    rintro e w' ⟨rfl, k, os, rfl⟩
    exact ⟨_, rfl, rfl, Mem.ofGrow hF k os⟩
  · cases H

/-! ### annals/plan.write: function 18 -/
def plan_write.l0 : Nat → api_Plan → Int → (List UInt8) → Option Str
  | 0, _, _, _ => none
  | k + 1, a0, x49, x50 => (if (x49 : Int) < (a0.Steps.length : Int) then ((atL a0.Steps x49).bind (fun q79 => ((if (0 : Int) < x49 then (strings_Builder_WriteString x50 (lit [44])).bind (fun (r108 : (Int × (List UInt8))) => (some r108.2)) else (some x50))).bind (fun (z95 : List UInt8) => (if (List.length (lit [32]) : Int) + List.length q79.Do ≤ 9223372036854775807 then (strings_Builder_WriteString z95 (cat (lit [32]) q79.Do)).bind (fun (r141 : (Int × (List UInt8))) => ((if (1 : Int) < q79.Tries then (strconv_Itoa q79.Tries).bind (fun (r164 : Str) => (if (List.length (lit [42]) : Int) + List.length r164 ≤ 9223372036854775807 then (strings_Builder_WriteString r141.2 (cat (lit [42]) r164)).bind (fun (r172 : (Int × (List UInt8))) => (some r172.2)) else none)) else (some r141.2))).bind (fun (z153 : List UInt8) => (plan_place a0 x49).bind (fun (r200 : Int) => (if (r200 : Int) = 0 then (if (List.length (lit [126]) : Int) + List.length q79.Undo ≤ 9223372036854775807 then (strings_Builder_WriteString z153 (cat (lit [126]) q79.Undo)).bind (fun (r209 : (Int × (List UInt8))) => (some r209.2)) else none) else (if (r200 : Int) = 1 then (strings_Builder_WriteString z153 (lit [33])).bind (fun (r230 : (Int × (List UInt8))) => (some r230.2)) else (some z153)))))) else none)))).bind (fun (z70 : List UInt8) => (plan_write.l0 k a0 (wrap64 (x49 + 1)) z70)) else (strings_Builder_String x50).bind (fun (r266 : Str) => (some r266)))
def plan_write (k : Nat) (a0 : api_Plan) : Option Str :=
  (strings_Builder_WriteString ([] : List UInt8) a0.Name).bind (fun (r12 : (Int × (List UInt8))) => (strings_Builder_WriteString r12.2 (lit [58])).bind (fun (r26 : (Int × (List UInt8))) => (plan_write.l0 k a0 0 r26.2)))
set_option maxRecDepth 100000 in
set_option maxHeartbeats 4000000 in
theorem plan_write_ok (k : Nat) (a0 : api_Plan) (Aa0_0 : Option Addr) (ca0_0 : Nat) (r : Str) (w : World) (Fr : BS) (hG : Gl Fr w) (hF : ∀ b, Fr b → b < w.heap.size) (ha0_0 : SR w Fr w Fr Aa0_0 ca0_0 a0.Steps) (H : plan_write k a0 = some r) :
    CallsR Tryd.prog 18 #[.agg #[.string (sv a0.Name), .int .i64 a0.Pivot, .slice Aa0_0 a0.Steps.length ca0_0]] w (fun v w' => v = .string (sv r) ∧ Mem w' [(Fr, w)]) := by
  have M0 := Mem.start w Fr hF
  refine enterZ (args := [.agg #[.string (sv a0.Name), .int .i64 a0.Pivot, .slice Aa0_0 a0.Steps.length ca0_0]]) [.tmp 2] Tryd.func18 rfl rfl rfl rfl ?_
  unfold plan_write at H
  refine WC_seq ?_
  refine WC_region ?_
  refine WL_of (L_box M0 rfl rfl (.agg #[.string (sv a0.Name), .int .i64 a0.Pivot, .slice Aa0_0 a0.Steps.length ca0_0]) rfl [.string (sv a0.Name), .int .i64 a0.Pivot, .slice Aa0_0 a0.Steps.length ca0_0] rfl ?_)
  intro g1 W2 B3 M4
  refine WL_of (L_assign rfl rfl (.string (sv (lit []))) rfl ?_)
  refine WL_nil ?_
  refine thenN ?_
  refine WC_seq ?_
  refine WC_region ?_
  refine WL_of (L_alloc M4 rfl rfl zr77 [.pointer none, .slice none 0 0] rfl ?_)
  intro g5 W6 B7 M8
  refine WL_nil ?_
  refine thenN ?_
  refine WC_seq ?_
  refine WC_region ?_
  refine WL_of (L_field rfl rfl fd24_0 ⟨g1, 0, none⟩ rfl ?_)
  refine WL_of (L_load1 rfl rfl Tryd.underlying9 rfl B3.el (M8.agree 1 rfl) 0 rfl (.string (sv a0.Name)) rfl ?_)
  have M9 : Mem W6 [(none0, W6), (one g5, W6), (one g1, W2), (Fr, w)] := M8.empty
  have M10 : Mem W6 [(one g5, W6), (none0, W6), (one g1, W2), (Fr, w)] := M9.front [(none0, W6)] rfl
  have M11 : Mem W6 [(one g1, W2), (Fr, w)] := M10.drop.drop
  obtain ⟨r12, hr13, H⟩ := bindS H
  refine WL_of (L_call' rfl rfl cf27 [.pointer (some ⟨g5, 0, none⟩), .string (sv a0.Name)] rfl (strings_Builder_WriteString_ok ([] : List UInt8) g5 (.pointer none) (.inl rfl) none 0 none0 a0.Name r12 _ (Un [(one g1, W2), (Fr, w)]) (hG.call M11 1 rfl) M10.lend2 (OR.nil W6 none0 W6 none0 5) (B7.now (M10.agree 0 rfl)) hr13) ?_)
  rintro _ W14 ⟨A16, c17, S18, ad21, rfl, M15, ho19, B20, had22⟩
  have M23 : Mem W14 [(S18, W14), (one g5, W14), (one g1, W2), (Fr, w)] := M11.back (New := [(S18, W14), (one g5, W14)]) M15
  refine WL_nil ?_
  refine thenN ?_
  refine WC_seq ?_
  refine WC_region ?_
  have M24 : Mem W14 [(one g5, W14), (S18, W14), (one g1, W2), (Fr, w)] := M23.front [(S18, W14)] rfl
  have M25 : Mem W14 [(one g1, W2), (Fr, w)] := M24.drop.drop
  obtain ⟨r26, hr27, H⟩ := bindS H
  refine WL_of (L_call' rfl rfl cf27 [.pointer (some ⟨g5, 0, none⟩), .string (sv (lit [58]))] rfl (strings_Builder_WriteString_ok r12.2 g5 ad21 had22 A16 c17 S18 (lit [58]) r26 _ (Un [(one g1, W2), (Fr, w)]) (hG.call M25 1 rfl) M24.lend2 ((ho19.agree (M24.agree 1 rfl)).map (fun _ _ h => h)) (B20.now (M24.agree 0 rfl)) hr27) ?_)
  rintro _ W28 ⟨A30, c31, S32, ad35, rfl, M29, ho33, B34, had36⟩
  have M37 : Mem W28 [(S32, W28), (one g5, W28), (one g1, W2), (Fr, w)] := M25.back (New := [(S32, W28), (one g5, W28)]) M29
  refine WL_nil ?_
  refine thenN ?_
  refine WC_seq ?_
  refine WC_seq ?_
  refine WC_region ?_
  refine WL_of (L_field rfl rfl fd24_2 ⟨g1, 0, none⟩ rfl ?_)
  refine WL_of (L_load1 rfl rfl Tryd.underlying22 rfl B3.el (M37.agree 2 rfl) 2 rfl (.slice Aa0_0 a0.Steps.length ca0_0) rfl ?_)
  refine WL_of (L_len rfl rfl (.slice Aa0_0 a0.Steps.length ca0_0) rfl (a0.Steps.length) (N_slice Tryd.underlying22 _ _ _) ?_)
  refine WL_of (L_move rfl rfl (.int .i64 0) rfl ?_)
  refine WL_nil ?_
  refine thenN ?_
  refine WC_block ?_
  refine WC_loop (fun k62 ρ w_ => ∃ (x49 : Int) (x50 : List UInt8) (A51 : Option Addr) (c52 : Nat) (S53 : BS) (ad55 : Value) (ρ0 : Nat → Value), ρ = updL ρ0 [(1, .pointer (some ⟨g1, 0, none⟩)), (2, .string (sv (lit []))), (3, .pointer (some ⟨g5, 0, none⟩)), (11, .slice Aa0_0 a0.Steps.length ca0_0), (12, .int .i64 (a0.Steps.length : Int)), (13, .int .i64 x49)] ∧ Mem w_ [(S53, w_), (one g5, w_), (one g1, W2), (Fr, w)] ∧ OR w_ S53 w_ none0 5 A51 c52 x50 ∧ (ad55 = .pointer none ∨ ad55 = .pointer (some ⟨g5, 0, none⟩)) ∧ Bx w_ g5 [ad55, .slice A51 x50.length c52] 77 ∧ k62 ≤ k ∧ plan_write.l0 k62 a0 x49 x50 = some r) k ?_ ?_
  · have M64 : Mem W28 [(one g5, W28), (S32, W28), (one g1, W2), (Fr, w)] := M37.front [(S32, W28)] rfl
    have M65 : Mem W28 [(Fr, w), (one g5, W28), (S32, W28), (one g1, W2)] := M64.front [(one g5, W28), (S32, W28), (one g1, W2)] rfl
    have M66 : Mem W28 [(one g1, W2), (Fr, w), (one g5, W28), (S32, W28)] := M65.front [(Fr, w), (one g5, W28), (S32, W28)] rfl
    have M67 : Mem W28 [(one g5, W28), (one g1, W2), (Fr, w), (S32, W28)] := M66.front [(one g1, W2), (Fr, w)] rfl
    have M68 : Mem W28 [(S32, W28), (one g5, W28), (one g1, W2), (Fr, w)] := M67.front [(one g5, W28), (one g1, W2), (Fr, w)] rfl
    exact ⟨0, r26.2, A30, c31, S32, ad35, _, updL_same _ _ ⟨rfl, rfl, rfl, rfl, rfl, rfl, trivial⟩, M68, ho33.map (fun _ _ h => h), had36, B34, (Nat.le_refl _), H⟩
  · rintro k62 _ W58 ⟨x49, x50, A51, c52, S53, ad55, ρ60, rfl, M59, hr54, had56, B57, hk63, H61⟩
    cases k62 with
    | zero => rw [plan_write.l0] at H61; cases H61
    | succ k62 =>
    rw [plan_write.l0] at H61
    refine WC_seq ?_
    refine WC_region ?_
    refine WL_of (L_bin rfl rfl (.int .i64 x49) (.int .i64 (a0.Steps.length : Int)) rfl rfl (.bool (decide ((x49 : Int) < (a0.Steps.length : Int)))) (B_lss _ _ _ _ x49 (a0.Steps.length : Int)) ?_)
    refine WL_nil ?_
    refine thenN ?_
    refine WC_seq ?_
    refine WC_if (p := (x49 : Int) < (a0.Steps.length : Int)) rfl (fun c69 => ?_) (fun c69 => ?_)
    · replace H61 := ifP c69 H61
      refine WC_skip ?_
      refine thenN ?_
      obtain ⟨z70, hz71, H61⟩ := bindS H61
      refine WC_cut (fun ρ w_ => ∃ (A72 : Option Addr) (c73 : Nat) (S74 : BS) (ad76 : Value) (ρ0 : Nat → Value), ρ = updL ρ0 [(1, .pointer (some ⟨g1, 0, none⟩)), (2, .string (sv (lit []))), (3, .pointer (some ⟨g5, 0, none⟩)), (11, .slice Aa0_0 a0.Steps.length ca0_0), (12, .int .i64 (a0.Steps.length : Int)), (13, .int .i64 x49)] ∧ Mem w_ [(S74, w_), (one g5, w_), (one g1, W2), (Fr, w)] ∧ OR w_ S74 w_ none0 5 A72 c73 z70 ∧ (ad76 = .pointer none ∨ ad76 = .pointer (some ⟨g5, 0, none⟩)) ∧ Bx w_ g5 [ad76, .slice A72 z70.length c73] 77) ?_ ?_
      · refine WC_block ?_
        refine WC_seq ?_
        refine WC_region ?_
        refine WL_of (L_move rfl rfl (.int .i64 x49) rfl ?_)
        obtain ⟨q79, hq80, hz71⟩ := bindS hz71
        obtain ⟨ad81, cs82, hA83, E84, R85⟩ := ha0_0.at hq80
        have hl86 := atL_spec hq80
        refine WL_of (L_index rfl rfl Tryd.underlying22 sz44 rfl rfl hA83 hl86.1 hl86.2.1 ?_)
        obtain rfl := R85
        have E87 : El w Fr (Addr.add ad81 (Int.toNat x49 * 3)) [.string (sv q79.Do), .string (sv q79.Undo), .int .i64 q79.Tries] := E84
        refine WL_of (L_loadN rfl rfl Tryd.underlying44 rfl E87 (M59.agree 3 rfl) 0 rfl 3 sz44 [.string (sv q79.Do), .string (sv q79.Undo), .int .i64 q79.Tries] rfl rfl ?_)
        refine WL_of (L_alloc M59 rfl rfl zr44 [.string (sv (lit [])), .string (sv (lit [])), .int .i64 0] rfl ?_)
        intro g88 W89 B90 M91
        refine WL_of (L_assign rfl rfl (.int .i64 x49) rfl ?_)
        refine WL_of (L_store M91 rfl (.agg #[.string (sv q79.Do), .string (sv q79.Undo), .int .i64 q79.Tries]) rfl [.string (sv q79.Do), .string (sv q79.Undo), .int .i64 q79.Tries] rfl 3 sz44 rfl rfl rfl B90 rfl rfl [.string (sv q79.Do), .string (sv q79.Undo), .int .i64 q79.Tries] rfl ?_)
        intro W92 B93 M94
        refine WL_nil ?_
        refine thenN ?_
        obtain ⟨z95, hz96, hz71⟩ := bindS hz71
        refine WC_cut (fun ρ w_ => ∃ (A97 : Option Addr) (c98 : Nat) (S99 : BS) (ad101 : Value) (ρ0 : Nat → Value), ρ = updL ρ0 [(1, .pointer (some ⟨g1, 0, none⟩)), (2, .string (sv (lit []))), (3, .pointer (some ⟨g5, 0, none⟩)), (4, .int .i64 x49), (5, .pointer (some ⟨g88, 0, none⟩)), (11, .slice Aa0_0 a0.Steps.length ca0_0), (12, .int .i64 (a0.Steps.length : Int)), (13, .int .i64 x49)] ∧ Mem w_ [(S99, w_), (one g88, W92), (one g5, w_), (one g1, W2), (Fr, w)] ∧ OR w_ S99 w_ none0 5 A97 c98 z95 ∧ (ad101 = .pointer none ∨ ad101 = .pointer (some ⟨g5, 0, none⟩)) ∧ Bx w_ g5 [ad101, .slice A97 z95.length c98] 77) ?_ ?_
        · refine WC_seq ?_
          refine WC_region ?_
          refine WL_of (L_move rfl rfl (.int .i64 x49) rfl ?_)
          refine WL_of (L_bin rfl rfl (.int .i64 x49) (.int .i64 0) rfl rfl (.bool (decide ((0 : Int) < x49))) (B_gtr _ _ _ _ x49 0) ?_)
          refine WL_nil ?_
          refine thenN ?_
          refine WC_if (p := (0 : Int) < x49) rfl (fun c104 => ?_) (fun c104 => ?_)
          · replace hz96 := ifP c104 hz96
            refine WC_region ?_
            have M105 : Mem W92 [(S53, W58), (one g88, W92), (one g5, W58), (one g1, W2), (Fr, w)] := M94.front [(one g88, W92)] rfl
            have M106 : Mem W92 [(one g5, W58), (S53, W58), (one g88, W92), (one g1, W2), (Fr, w)] := M105.front [(S53, W58), (one g88, W92)] rfl
            have M107 : Mem W92 [(one g88, W92), (one g1, W2), (Fr, w)] := M106.drop.drop
            obtain ⟨r108, hr109, hz96⟩ := bindS hz96
            refine WL_of (L_call' rfl rfl cf27 [.pointer (some ⟨g5, 0, none⟩), .string (sv (lit [44]))] rfl (strings_Builder_WriteString_ok x50 g5 ad55 had56 A51 c52 S53 (lit [44]) r108 _ (Un [(one g88, W92), (one g1, W2), (Fr, w)]) (hG.call M107 2 rfl) M106.lend2 ((hr54.agree (M106.agree 1 rfl)).map (fun _ _ h => h)) (B57.now (M106.agree 0 rfl)) hr109) ?_)
            rintro _ W110 ⟨A112, c113, S114, ad117, rfl, M111, ho115, B116, had118⟩
            have M119 : Mem W110 [(S114, W110), (one g5, W110), (one g88, W92), (one g1, W2), (Fr, w)] := M107.back (New := [(S114, W110), (one g5, W110)]) M111
            refine WL_nil ?_
            refine thenN ?_
            obtain rfl := someE hz96
            have M120 : Mem W110 [(one g5, W110), (S114, W110), (one g88, W92), (one g1, W2), (Fr, w)] := M119.front [(S114, W110)] rfl
            have M121 : Mem W110 [(Fr, w), (one g5, W110), (S114, W110), (one g88, W92), (one g1, W2)] := M120.front [(one g5, W110), (S114, W110), (one g88, W92), (one g1, W2)] rfl
            have M122 : Mem W110 [(one g1, W2), (Fr, w), (one g5, W110), (S114, W110), (one g88, W92)] := M121.front [(Fr, w), (one g5, W110), (S114, W110), (one g88, W92)] rfl
            have M123 : Mem W110 [(one g5, W110), (one g1, W2), (Fr, w), (S114, W110), (one g88, W92)] := M122.front [(one g1, W2), (Fr, w)] rfl
            have M124 : Mem W110 [(one g88, W92), (one g5, W110), (one g1, W2), (Fr, w), (S114, W110)] := M123.front [(one g5, W110), (one g1, W2), (Fr, w), (S114, W110)] rfl
            have M125 : Mem W110 [(S114, W110), (one g88, W92), (one g5, W110), (one g1, W2), (Fr, w)] := M124.front [(one g88, W92), (one g5, W110), (one g1, W2), (Fr, w)] rfl
            exact ⟨A112, c113, S114, ad117, _, updL_same _ _ ⟨rfl, rfl, rfl, rfl, rfl, rfl, rfl, rfl, trivial⟩, M125, ho115.map (fun _ _ h => h), had118, B116⟩
          · replace hz96 := ifN c104 hz96
            refine WC_skip ?_
            refine thenN ?_
            obtain rfl := someE hz96
            have M126 : Mem W92 [(S53, W58), (one g88, W92), (one g5, W58), (one g1, W2), (Fr, w)] := M94.front [(one g88, W92)] rfl
            have M127 : Mem W92 [(S53, W92), (one g88, W92), (one g5, W58), (one g1, W2), (Fr, w)] := M126.rebase
            have M128 : Mem W92 [(one g5, W58), (S53, W92), (one g88, W92), (one g1, W2), (Fr, w)] := M127.front [(S53, W92), (one g88, W92)] rfl
            have M129 : Mem W92 [(one g5, W92), (S53, W92), (one g88, W92), (one g1, W2), (Fr, w)] := M128.rebase
            have M130 : Mem W92 [(Fr, w), (one g5, W92), (S53, W92), (one g88, W92), (one g1, W2)] := M129.front [(one g5, W92), (S53, W92), (one g88, W92), (one g1, W2)] rfl
            have M131 : Mem W92 [(one g1, W2), (Fr, w), (one g5, W92), (S53, W92), (one g88, W92)] := M130.front [(Fr, w), (one g5, W92), (S53, W92), (one g88, W92)] rfl
            have M132 : Mem W92 [(one g5, W92), (one g1, W2), (Fr, w), (S53, W92), (one g88, W92)] := M131.front [(one g1, W2), (Fr, w)] rfl
            have M133 : Mem W92 [(one g88, W92), (one g5, W92), (one g1, W2), (Fr, w), (S53, W92)] := M132.front [(one g5, W92), (one g1, W2), (Fr, w), (S53, W92)] rfl
            have M134 : Mem W92 [(S53, W92), (one g88, W92), (one g5, W92), (one g1, W2), (Fr, w)] := M133.front [(one g88, W92), (one g5, W92), (one g1, W2), (Fr, w)] rfl
            exact ⟨A51, c52, S53, ad55, _, updL_same _ _ ⟨rfl, rfl, rfl, rfl, rfl, rfl, rfl, rfl, trivial⟩, M134, (hr54.agree (M126.agree 0 rfl)).map (fun _ _ h => h), had56, B57.now (M128.agree 0 rfl)⟩
        · rintro _ W135 ⟨A97, c98, S99, ad101, ρ137, rfl, M136, hr100, had102, B103⟩
          refine WC_seq ?_
          refine WC_region ?_
          refine WL_of (L_field rfl rfl fd44_0 ⟨g88, 0, none⟩ rfl ?_)
          refine WL_of (L_load1 rfl rfl Tryd.underlying9 rfl B93.el (M136.agree 1 rfl) 0 rfl (.string (sv q79.Do)) rfl ?_)
          by_cases c138 : (List.length (lit [32]) : Int) + List.length q79.Do ≤ 9223372036854775807
          · replace hz71 := ifP c138 hz71
            refine WL_of (L_bin rfl rfl (.string (sv (lit [32]))) (.string (sv q79.Do)) rfl rfl (.string (sv (cat (lit [32]) q79.Do))) (B_sadd _ _ _ (lit [32]) q79.Do c138) ?_)
            have M139 : Mem W135 [(one g5, W135), (S99, W135), (one g88, W92), (one g1, W2), (Fr, w)] := M136.front [(S99, W135), (one g88, W92)] rfl
            have M140 : Mem W135 [(one g88, W92), (one g1, W2), (Fr, w)] := M139.drop.drop
            obtain ⟨r141, hr142, hz71⟩ := bindS hz71
            refine WL_of (L_call' rfl rfl cf27 [.pointer (some ⟨g5, 0, none⟩), .string (sv (cat (lit [32]) q79.Do))] rfl (strings_Builder_WriteString_ok z95 g5 ad101 had102 A97 c98 S99 (cat (lit [32]) q79.Do) r141 _ (Un [(one g88, W92), (one g1, W2), (Fr, w)]) (hG.call M140 2 rfl) M139.lend2 ((hr100.agree (M139.agree 1 rfl)).map (fun _ _ h => h)) (B103.now (M139.agree 0 rfl)) hr142) ?_)
            rintro _ W143 ⟨A145, c146, S147, ad150, rfl, M144, ho148, B149, had151⟩
            have M152 : Mem W143 [(S147, W143), (one g5, W143), (one g88, W92), (one g1, W2), (Fr, w)] := M140.back (New := [(S147, W143), (one g5, W143)]) M144
            refine WL_nil ?_
            refine thenN ?_
            obtain ⟨z153, hz154, hz71⟩ := bindS hz71
            refine WC_cut (fun ρ w_ => ∃ (A155 : Option Addr) (c156 : Nat) (S157 : BS) (ad159 : Value) (ρ0 : Nat → Value), ρ = updL ρ0 [(1, .pointer (some ⟨g1, 0, none⟩)), (2, .string (sv (lit []))), (3, .pointer (some ⟨g5, 0, none⟩)), (4, .int .i64 x49), (5, .pointer (some ⟨g88, 0, none⟩)), (11, .slice Aa0_0 a0.Steps.length ca0_0), (12, .int .i64 (a0.Steps.length : Int)), (13, .int .i64 x49)] ∧ Mem w_ [(S157, w_), (one g5, w_), (one g88, W92), (one g1, W2), (Fr, w)] ∧ OR w_ S157 w_ none0 5 A155 c156 z153 ∧ (ad159 = .pointer none ∨ ad159 = .pointer (some ⟨g5, 0, none⟩)) ∧ Bx w_ g5 [ad159, .slice A155 z153.length c156] 77) ?_ ?_
            · refine WC_seq ?_
              refine WC_region ?_
              refine WL_of (L_field rfl rfl fd44_2 ⟨g88, 0, none⟩ rfl ?_)
              refine WL_of (L_load1 rfl rfl Tryd.underlying3 rfl B93.el (M152.agree 2 rfl) 2 rfl (.int .i64 q79.Tries) rfl ?_)
              refine WL_of (L_bin rfl rfl (.int .i64 q79.Tries) (.int .i64 1) rfl rfl (.bool (decide ((1 : Int) < q79.Tries))) (B_gtr _ _ _ _ q79.Tries 1) ?_)
              refine WL_nil ?_
              refine thenN ?_
              refine WC_if (p := (1 : Int) < q79.Tries) rfl (fun c162 => ?_) (fun c162 => ?_)
              · replace hz154 := ifP c162 hz154
                refine WC_region ?_
                refine WL_of (L_field rfl rfl fd44_2 ⟨g88, 0, none⟩ rfl ?_)
                refine WL_of (L_load1 rfl rfl Tryd.underlying3 rfl B93.el (M152.agree 2 rfl) 2 rfl (.int .i64 q79.Tries) rfl ?_)
                obtain ⟨r164, hr165, hz154⟩ := bindS hz154
                refine WL_of (L_call' rfl rfl cf28 [.int .i64 q79.Tries] rfl (strconv_Itoa_ok q79.Tries r164 _ (Un [(S147, W143), (one g5, W143), (one g88, W92), (one g1, W2), (Fr, w)]) (hG.call M152 4 rfl) M152.frame  hr165) ?_)
                rintro _ W166 ⟨rfl, M167⟩
                have M168 : Mem W166 [(S147, W143), (one g5, W143), (one g88, W92), (one g1, W2), (Fr, w)] := M152.back (New := []) M167
                by_cases c169 : (List.length (lit [42]) : Int) + List.length r164 ≤ 9223372036854775807
                · replace hz154 := ifP c169 hz154
                  refine WL_of (L_bin rfl rfl (.string (sv (lit [42]))) (.string (sv r164)) rfl rfl (.string (sv (cat (lit [42]) r164))) (B_sadd _ _ _ (lit [42]) r164 c169) ?_)
                  have M170 : Mem W166 [(one g5, W143), (S147, W143), (one g88, W92), (one g1, W2), (Fr, w)] := M168.front [(S147, W143)] rfl
                  have M171 : Mem W166 [(one g88, W92), (one g1, W2), (Fr, w)] := M170.drop.drop
                  obtain ⟨r172, hr173, hz154⟩ := bindS hz154
                  refine WL_of (L_call' rfl rfl cf27 [.pointer (some ⟨g5, 0, none⟩), .string (sv (cat (lit [42]) r164))] rfl (strings_Builder_WriteString_ok r141.2 g5 ad150 had151 A145 c146 S147 (cat (lit [42]) r164) r172 _ (Un [(one g88, W92), (one g1, W2), (Fr, w)]) (hG.call M171 2 rfl) M170.lend2 ((ho148.agree (M170.agree 1 rfl)).map (fun _ _ h => h)) (B149.now (M170.agree 0 rfl)) hr173) ?_)
                  rintro _ W174 ⟨A176, c177, S178, ad181, rfl, M175, ho179, B180, had182⟩
                  have M183 : Mem W174 [(S178, W174), (one g5, W174), (one g88, W92), (one g1, W2), (Fr, w)] := M171.back (New := [(S178, W174), (one g5, W174)]) M175
                  refine WL_nil ?_
                  refine thenN ?_
                  obtain rfl := someE hz154
                  have M184 : Mem W174 [(one g5, W174), (S178, W174), (one g88, W92), (one g1, W2), (Fr, w)] := M183.front [(S178, W174)] rfl
                  have M185 : Mem W174 [(Fr, w), (one g5, W174), (S178, W174), (one g88, W92), (one g1, W2)] := M184.front [(one g5, W174), (S178, W174), (one g88, W92), (one g1, W2)] rfl
                  have M186 : Mem W174 [(one g1, W2), (Fr, w), (one g5, W174), (S178, W174), (one g88, W92)] := M185.front [(Fr, w), (one g5, W174), (S178, W174), (one g88, W92)] rfl
                  have M187 : Mem W174 [(one g88, W92), (one g1, W2), (Fr, w), (one g5, W174), (S178, W174)] := M186.front [(one g1, W2), (Fr, w), (one g5, W174), (S178, W174)] rfl
                  have M188 : Mem W174 [(one g5, W174), (one g88, W92), (one g1, W2), (Fr, w), (S178, W174)] := M187.front [(one g88, W92), (one g1, W2), (Fr, w)] rfl
                  have M189 : Mem W174 [(S178, W174), (one g5, W174), (one g88, W92), (one g1, W2), (Fr, w)] := M188.front [(one g5, W174), (one g88, W92), (one g1, W2), (Fr, w)] rfl
                  exact ⟨A176, c177, S178, ad181, _, updL_same _ _ ⟨rfl, rfl, rfl, rfl, rfl, rfl, rfl, rfl, trivial⟩, M189, ho179.map (fun _ _ h => h), had182, B180⟩
                · exact noneS (ifN c169 hz154)
              · replace hz154 := ifN c162 hz154
                refine WC_skip ?_
                refine thenN ?_
                obtain rfl := someE hz154
                have M190 : Mem W143 [(one g5, W143), (S147, W143), (one g88, W92), (one g1, W2), (Fr, w)] := M152.front [(S147, W143)] rfl
                have M191 : Mem W143 [(Fr, w), (one g5, W143), (S147, W143), (one g88, W92), (one g1, W2)] := M190.front [(one g5, W143), (S147, W143), (one g88, W92), (one g1, W2)] rfl
                have M192 : Mem W143 [(one g1, W2), (Fr, w), (one g5, W143), (S147, W143), (one g88, W92)] := M191.front [(Fr, w), (one g5, W143), (S147, W143), (one g88, W92)] rfl
                have M193 : Mem W143 [(one g88, W92), (one g1, W2), (Fr, w), (one g5, W143), (S147, W143)] := M192.front [(one g1, W2), (Fr, w), (one g5, W143), (S147, W143)] rfl
                have M194 : Mem W143 [(one g5, W143), (one g88, W92), (one g1, W2), (Fr, w), (S147, W143)] := M193.front [(one g88, W92), (one g1, W2), (Fr, w)] rfl
                have M195 : Mem W143 [(S147, W143), (one g5, W143), (one g88, W92), (one g1, W2), (Fr, w)] := M194.front [(one g5, W143), (one g88, W92), (one g1, W2), (Fr, w)] rfl
                exact ⟨A145, c146, S147, ad150, _, updL_same _ _ ⟨rfl, rfl, rfl, rfl, rfl, rfl, rfl, rfl, trivial⟩, M195, ho148.map (fun _ _ h => h), had151, B149⟩
            · rintro _ W196 ⟨A155, c156, S157, ad159, ρ198, rfl, M197, hr158, had160, B161⟩
              refine WC_seq ?_
              refine WC_region ?_
              refine WL_of (L_loadN rfl rfl Tryd.underlying24 rfl B3.el (M197.agree 3 rfl) 0 rfl 3 sz24 [.string (sv a0.Name), .int .i64 a0.Pivot, .slice Aa0_0 a0.Steps.length ca0_0] rfl rfl ?_)
              refine WL_of (L_move rfl rfl (.int .i64 x49) rfl ?_)
              obtain ⟨r200, hr201, hz71⟩ := bindS hz71
              refine WL_of (L_call' rfl rfl cf25 [.agg #[.string (sv a0.Name), .int .i64 a0.Pivot, .slice Aa0_0 a0.Steps.length ca0_0], .int .i64 x49] rfl (plan_place_ok a0 Aa0_0 ca0_0 x49 r200 _ (Un [(S157, W196), (one g5, W196), (one g88, W92), (one g1, W2), (Fr, w)]) (hG.call M197 4 rfl) M197.frame ((ha0_0.agree (M197.agree 4 rfl) (M197.agree 4 rfl)).sub (Un.at 4 rfl) (Un.at 4 rfl)) hr201) ?_)
              rintro _ W202 ⟨rfl, M203⟩
              have M204 : Mem W202 [(S157, W196), (one g5, W196), (one g88, W92), (one g1, W2), (Fr, w)] := M197.back (New := []) M203
              refine WL_nil ?_
              refine thenN ?_
              refine WC_block ?_
              refine WC_seq ?_
              refine WC_region ?_
              refine WL_of (L_bin rfl rfl (.int .i64 r200) (.int .i64 0) rfl rfl (.bool (decide ((r200 : Int) = 0))) (B_eql _ _ _ _ r200 0) ?_)
              refine WL_of (L_assign rfl rfl (.bool (decide ((r200 : Int) = 0))) rfl ?_)
              refine WL_nil ?_
              refine thenN ?_
              refine WC_if (p := (r200 : Int) = 0) rfl (fun c205 => ?_) (fun c205 => ?_)
              · replace hz71 := ifP c205 hz71
                refine WC_region ?_
                refine WL_of (L_field rfl rfl fd44_1 ⟨g88, 0, none⟩ rfl ?_)
                refine WL_of (L_load1 rfl rfl Tryd.underlying9 rfl B93.el (M204.agree 2 rfl) 1 rfl (.string (sv q79.Undo)) rfl ?_)
                by_cases c206 : (List.length (lit [126]) : Int) + List.length q79.Undo ≤ 9223372036854775807
                · replace hz71 := ifP c206 hz71
                  refine WL_of (L_bin rfl rfl (.string (sv (lit [126]))) (.string (sv q79.Undo)) rfl rfl (.string (sv (cat (lit [126]) q79.Undo))) (B_sadd _ _ _ (lit [126]) q79.Undo c206) ?_)
                  have M207 : Mem W202 [(one g5, W196), (S157, W196), (one g88, W92), (one g1, W2), (Fr, w)] := M204.front [(S157, W196)] rfl
                  have M208 : Mem W202 [(one g88, W92), (one g1, W2), (Fr, w)] := M207.drop.drop
                  obtain ⟨r209, hr210, hz71⟩ := bindS hz71
                  refine WL_of (L_call' rfl rfl cf27 [.pointer (some ⟨g5, 0, none⟩), .string (sv (cat (lit [126]) q79.Undo))] rfl (strings_Builder_WriteString_ok z153 g5 ad159 had160 A155 c156 S157 (cat (lit [126]) q79.Undo) r209 _ (Un [(one g88, W92), (one g1, W2), (Fr, w)]) (hG.call M208 2 rfl) M207.lend2 ((hr158.agree (M207.agree 1 rfl)).map (fun _ _ h => h)) (B161.now (M207.agree 0 rfl)) hr210) ?_)
                  rintro _ W211 ⟨A213, c214, S215, ad218, rfl, M212, ho216, B217, had219⟩
                  have M220 : Mem W211 [(S215, W211), (one g5, W211), (one g88, W92), (one g1, W2), (Fr, w)] := M208.back (New := [(S215, W211), (one g5, W211)]) M212
                  refine WL_nil ?_
                  refine blkN ?_
                  refine blkN ?_
                  refine thenN ?_
                  obtain rfl := someE hz71
                  have M221 : Mem W211 [(one g5, W211), (S215, W211), (one g88, W92), (one g1, W2), (Fr, w)] := M220.front [(S215, W211)] rfl
                  have M222 : Mem W211 [(Fr, w), (one g5, W211), (S215, W211), (one g88, W92), (one g1, W2)] := M221.front [(one g5, W211), (S215, W211), (one g88, W92), (one g1, W2)] rfl
                  have M223 : Mem W211 [(one g1, W2), (Fr, w), (one g5, W211), (S215, W211), (one g88, W92)] := M222.front [(Fr, w), (one g5, W211), (S215, W211), (one g88, W92)] rfl
                  have M224 : Mem W211 [(one g5, W211), (one g1, W2), (Fr, w), (S215, W211), (one g88, W92)] := M223.front [(one g1, W2), (Fr, w)] rfl
                  have M225 : Mem W211 [(S215, W211), (one g5, W211), (one g1, W2), (Fr, w), (one g88, W92)] := M224.front [(one g5, W211), (one g1, W2), (Fr, w)] rfl
                  have M226 : Mem W211 [(S215, W211), (one g5, W211), (one g1, W2), (Fr, w)] := M225.sub (List.prefix_append [(S215, W211), (one g5, W211), (one g1, W2), (Fr, w)] [(one g88, W92)]).sublist
                  exact ⟨A213, c214, S215, ad218, _, updL_same _ _ ⟨rfl, rfl, rfl, rfl, rfl, rfl, trivial⟩, M226, ho216.map (fun _ _ h => h), had219, B217⟩
                · exact noneS (ifN c206 hz71)
              · replace hz71 := ifN c205 hz71
                refine WC_seq ?_
                refine WC_region ?_
                refine WL_of (L_bin rfl rfl (.int .i64 r200) (.int .i64 1) rfl rfl (.bool (decide ((r200 : Int) = 1))) (B_eql _ _ _ _ r200 1) ?_)
                refine WL_of (L_assign rfl rfl (.bool (decide ((r200 : Int) = 1))) rfl ?_)
                refine WL_nil ?_
                refine thenN ?_
                refine WC_if (p := (r200 : Int) = 1) rfl (fun c227 => ?_) (fun c227 => ?_)
                · replace hz71 := ifP c227 hz71
                  refine WC_region ?_
                  have M228 : Mem W202 [(one g5, W196), (S157, W196), (one g88, W92), (one g1, W2), (Fr, w)] := M204.front [(S157, W196)] rfl
                  have M229 : Mem W202 [(one g88, W92), (one g1, W2), (Fr, w)] := M228.drop.drop
                  obtain ⟨r230, hr231, hz71⟩ := bindS hz71
                  refine WL_of (L_call' rfl rfl cf27 [.pointer (some ⟨g5, 0, none⟩), .string (sv (lit [33]))] rfl (strings_Builder_WriteString_ok z153 g5 ad159 had160 A155 c156 S157 (lit [33]) r230 _ (Un [(one g88, W92), (one g1, W2), (Fr, w)]) (hG.call M229 2 rfl) M228.lend2 ((hr158.agree (M228.agree 1 rfl)).map (fun _ _ h => h)) (B161.now (M228.agree 0 rfl)) hr231) ?_)
                  rintro _ W232 ⟨A234, c235, S236, ad239, rfl, M233, ho237, B238, had240⟩
                  have M241 : Mem W232 [(S236, W232), (one g5, W232), (one g88, W92), (one g1, W2), (Fr, w)] := M229.back (New := [(S236, W232), (one g5, W232)]) M233
                  refine WL_nil ?_
                  refine blkN ?_
                  refine blkN ?_
                  refine thenN ?_
                  obtain rfl := someE hz71
                  have M242 : Mem W232 [(one g5, W232), (S236, W232), (one g88, W92), (one g1, W2), (Fr, w)] := M241.front [(S236, W232)] rfl
                  have M243 : Mem W232 [(Fr, w), (one g5, W232), (S236, W232), (one g88, W92), (one g1, W2)] := M242.front [(one g5, W232), (S236, W232), (one g88, W92), (one g1, W2)] rfl
                  have M244 : Mem W232 [(one g1, W2), (Fr, w), (one g5, W232), (S236, W232), (one g88, W92)] := M243.front [(Fr, w), (one g5, W232), (S236, W232), (one g88, W92)] rfl
                  have M245 : Mem W232 [(one g5, W232), (one g1, W2), (Fr, w), (S236, W232), (one g88, W92)] := M244.front [(one g1, W2), (Fr, w)] rfl
                  have M246 : Mem W232 [(S236, W232), (one g5, W232), (one g1, W2), (Fr, w), (one g88, W92)] := M245.front [(one g5, W232), (one g1, W2), (Fr, w)] rfl
                  have M247 : Mem W232 [(S236, W232), (one g5, W232), (one g1, W2), (Fr, w)] := M246.sub (List.prefix_append [(S236, W232), (one g5, W232), (one g1, W2), (Fr, w)] [(one g88, W92)]).sublist
                  exact ⟨A234, c235, S236, ad239, _, updL_same _ _ ⟨rfl, rfl, rfl, rfl, rfl, rfl, trivial⟩, M247, ho237.map (fun _ _ h => h), had240, B238⟩
                · replace hz71 := ifN c227 hz71
                  refine WC_skip ?_
                  refine blkN ?_
                  refine blkN ?_
                  refine thenN ?_
                  obtain rfl := someE hz71
                  have M248 : Mem W202 [(S157, W202), (one g5, W196), (one g88, W92), (one g1, W2), (Fr, w)] := M204.rebase
                  have M249 : Mem W202 [(one g5, W196), (S157, W202), (one g88, W92), (one g1, W2), (Fr, w)] := M248.front [(S157, W202)] rfl
                  have M250 : Mem W202 [(one g5, W202), (S157, W202), (one g88, W92), (one g1, W2), (Fr, w)] := M249.rebase
                  have M251 : Mem W202 [(Fr, w), (one g5, W202), (S157, W202), (one g88, W92), (one g1, W2)] := M250.front [(one g5, W202), (S157, W202), (one g88, W92), (one g1, W2)] rfl
                  have M252 : Mem W202 [(one g1, W2), (Fr, w), (one g5, W202), (S157, W202), (one g88, W92)] := M251.front [(Fr, w), (one g5, W202), (S157, W202), (one g88, W92)] rfl
                  have M253 : Mem W202 [(one g5, W202), (one g1, W2), (Fr, w), (S157, W202), (one g88, W92)] := M252.front [(one g1, W2), (Fr, w)] rfl
                  have M254 : Mem W202 [(S157, W202), (one g5, W202), (one g1, W2), (Fr, w), (one g88, W92)] := M253.front [(one g5, W202), (one g1, W2), (Fr, w)] rfl
                  have M255 : Mem W202 [(S157, W202), (one g5, W202), (one g1, W2), (Fr, w)] := M254.sub (List.prefix_append [(S157, W202), (one g5, W202), (one g1, W2), (Fr, w)] [(one g88, W92)]).sublist
                  exact ⟨A155, c156, S157, ad159, _, updL_same _ _ ⟨rfl, rfl, rfl, rfl, rfl, rfl, trivial⟩, M255, (hr158.agree (M204.agree 0 rfl)).map (fun _ _ h => h), had160, B161.now (M249.agree 0 rfl)⟩
          · exact noneS (ifN c138 hz71)
      · rintro _ W256 ⟨A72, c73, S74, ad76, ρ258, rfl, M257, hr75, had77, B78⟩
        refine WC_region ?_
        refine WL_of (L_bin rfl rfl (.int .i64 x49) (.int .i64 1) rfl rfl (.int .i64 (wrap64 (x49 + 1))) (B_add _ _ _ x49 1) ?_)
        refine WL_of (L_move rfl rfl (.int .i64 (wrap64 (x49 + 1))) rfl ?_)
        refine WL_nil ?_
        refine thenN ?_
        have M259 : Mem W256 [(one g5, W256), (S74, W256), (one g1, W2), (Fr, w)] := M257.front [(S74, W256)] rfl
        have M260 : Mem W256 [(Fr, w), (one g5, W256), (S74, W256), (one g1, W2)] := M259.front [(one g5, W256), (S74, W256), (one g1, W2)] rfl
        have M261 : Mem W256 [(one g1, W2), (Fr, w), (one g5, W256), (S74, W256)] := M260.front [(Fr, w), (one g5, W256), (S74, W256)] rfl
        have M262 : Mem W256 [(one g5, W256), (one g1, W2), (Fr, w), (S74, W256)] := M261.front [(one g1, W2), (Fr, w)] rfl
        have M263 : Mem W256 [(S74, W256), (one g5, W256), (one g1, W2), (Fr, w)] := M262.front [(one g5, W256), (one g1, W2), (Fr, w)] rfl
        exact ⟨k62, by omega, wrap64 (x49 + 1), z70, A72, c73, S74, ad76, _, updL_same _ _ ⟨rfl, rfl, rfl, rfl, rfl, rfl, trivial⟩, M263, hr75.map (fun _ _ h => h), had77, B78, (by omega), H61⟩
    · replace H61 := ifN c69 H61
      refine WC_exit ?_
      refine thenE ?_
      refine thenE ?_
      refine blkX ?_
      refine thenN ?_
      refine WC_seq ?_
      refine WC_region ?_
      have M264 : Mem W58 [(one g5, W58), (S53, W58), (one g1, W2), (Fr, w)] := M59.front [(S53, W58)] rfl
      have M265 : Mem W58 [(one g1, W2), (Fr, w)] := M264.drop.drop
      obtain ⟨r266, hr267, H61⟩ := bindS H61
      refine WL_of (L_call' rfl rfl cf29 [.pointer (some ⟨g5, 0, none⟩)] rfl (strings_Builder_String_ok x50 g5 ad55 had56 A51 c52 S53 r266 _ (Un [(one g1, W2), (Fr, w)]) (hG.call M265 1 rfl) M264.lend2 ((hr54.agree (M264.agree 1 rfl)).map (fun _ _ h => h)) (B57.now (M264.agree 0 rfl)) hr267) ?_)
      rintro _ W268 ⟨rfl, M269⟩
      have M270 : Mem W268 [(one g1, W2), (Fr, w)] := M265.back (New := []) M269
      refine WL_of (L_assign rfl rfl (.string (sv r266)) rfl ?_)
      refine WL_nil ?_
      refine thenN ?_
      refine WC_ret ?_
      obtain rfl := someE H61
      have M271 : Mem W268 [(Fr, w), (one g1, W2)] := M270.front [(one g1, W2)] rfl
      have M272 : Mem W268 [(Fr, w)] := M271.sub (List.prefix_append [(Fr, w)] [(one g1, W2)]).sublist
      refine retR [.string (sv r266)] ⟨rfl, trivial⟩ ?_
      exact ⟨rfl, M272⟩

/-! ### annals/plan.Parse: function 10 -/
def plan_Parse.l0 : Nat → Str → Str → Int → Option (api_Plan × Int × Int)
  | 0, _, _, _ => none
  | k + 1, a0, r109, x117 => ((if (x117 : Int) < (List.length r109 : Int) then (if (x117 : Int) < (List.length a0 : Int) then (atL r109 x117).bind (fun b129 => (atL a0 x117).bind (fun b131 => (some (decide (b129 = b131))))) else (some false)) else (some false))).bind (fun (z124 : Bool) => (if z124 = true then (plan_Parse.l0 k a0 r109 (wrap64 (x117 + 1))) else (some ((⟨(lit []), 0, ([] : List api_Step)⟩ : api_Plan), 150, x117))))
def plan_Parse (k : Nat) (a0 : Str) : Option (api_Plan × Int × Int) :=
  (if (65536 : Int) < (List.length a0 : Int) then (some ((⟨(lit []), 0, ([] : List api_Step)⟩ : api_Plan), 2, 65536)) else (text_Words k a0).bind (fun (r14 : ((List api_Word) × Int × Int)) => (if (r14.2.1 : Int) ≠ 0 then (some ((⟨(lit []), 0, ([] : List api_Step)⟩ : api_Plan), r14.2.1, r14.2.2)) else (plan_reader_plan k (⟨r14.1, 0, (List.length a0 : Int)⟩ : plan_reader)).bind (fun (r39 : (api_Plan × (List Int) × Bool × (List api_Word) × Int)) => (if (!r39.2.2.1) = true then (plan_reader_here (⟨r39.2.2.2.1, r39.2.2.2.2, (List.length a0 : Int)⟩ : plan_reader)).bind (fun (r67 : Int) => (some ((⟨(lit []), 0, ([] : List api_Step)⟩ : api_Plan), 150, r67))) else (plan_check k r39.1).bind (fun (r82 : (Int × Int)) => (if (r82.1 : Int) ≠ 0 then (atL r39.2.1 r82.2).bind (fun q90 => (some ((⟨(lit []), 0, ([] : List api_Step)⟩ : api_Plan), r82.1, q90))) else (plan_write k r39.1).bind (fun (r109 : Str) => (if (r109 : Str) ≠ a0 then (plan_Parse.l0 k a0 r109 0) else (some (r39.1, 0, 0)))))))))))
set_option maxRecDepth 100000 in
set_option maxHeartbeats 4000000 in
theorem plan_Parse_ok (k : Nat) (a0 : Str) (r : api_Plan × Int × Int) (w : World) (Fr : BS) (hG : Gl Fr w) (hF : ∀ b, Fr b → b < w.heap.size)  (H : plan_Parse k a0 = some r) :
    CallsR Tryd.prog 10 #[.string (sv a0)] w (fun v w' => ∃ (A0 : Option Addr) (c0 : Nat) (S0 : BS), v = .tuple #[.agg #[.string (sv r.1.Name), .int .i64 r.1.Pivot, .slice A0 (List.length r.1.Steps) c0], .int .i64 r.2.1, .int .i64 r.2.2] ∧ Mem w' [(S0, w'), (Fr, w)] ∧ OR w' S0 w' none0 44 A0 c0 r.1.Steps) := by
  have M0 := Mem.start w Fr hF
  refine enterZ (args := [.string (sv a0)]) [.cell 2 24, .tmp 3, .tmp 4] Tryd.func10 rfl rfl rfl rfl ?_
  unfold plan_Parse at H
  refine WC_seq ?_
  refine WC_region ?_
  refine WL_of (L_alloc M0 rfl rfl zr24 [.string (sv (lit [])), .int .i64 0, .slice none 0 0] rfl ?_)
  intro g1 W2 B3 M4
  refine WL_of (L_assign rfl rfl (.int .i64 0) rfl ?_)
  refine WL_of (L_assign rfl rfl (.int .i64 0) rfl ?_)
  refine WL_nil ?_
  refine thenN ?_
  refine WC_seq ?_
  refine WC_seq ?_
  refine WC_region ?_
  refine WL_of (L_move rfl rfl (.string (sv a0)) rfl ?_)
  refine WL_of (L_len rfl rfl (.string (sv a0)) rfl (List.length a0) (N_str Tryd.underlying9 a0) ?_)
  refine WL_of (L_bin rfl rfl (.int .i64 (List.length a0 : Int)) (.int .i64 65536) rfl rfl (.bool (decide ((65536 : Int) < (List.length a0 : Int)))) (B_gtr _ _ _ _ (List.length a0 : Int) 65536) ?_)
  refine WL_nil ?_
  refine thenN ?_
  refine WC_if (p := (65536 : Int) < (List.length a0 : Int)) rfl (fun c5 => ?_) (fun c5 => ?_)
  · replace H := ifP c5 H
    refine WC_seq ?_
    refine WC_region ?_
    refine WL_of (L_build' rfl rfl [] rfl Tryd.underlying24 zr24 pl24 [.string (sv (lit [])), .int .i64 0, .slice none 0 0] rfl ?_)
    refine WL_of (L_store M4 rfl (.agg #[.string (sv (lit [])), .int .i64 0, .slice none 0 0]) rfl [.string (sv (lit [])), .int .i64 0, .slice none 0 0] rfl 3 sz24 rfl rfl rfl B3 rfl rfl [.string (sv (lit [])), .int .i64 0, .slice none 0 0] rfl ?_)
    intro W6 B7 M8
    refine WL_of (L_assign rfl rfl (.int .i64 2) rfl ?_)
    refine WL_of (L_assign rfl rfl (.int .i64 65536) rfl ?_)
    refine WL_nil ?_
    refine thenN ?_
    refine WC_ret ?_
    refine thenR ?_
    obtain rfl := someE H
    have M9 : Mem W6 [(none0, W6), (one g1, W6), (Fr, w)] := M8.empty
    have M10 : Mem W6 [(Fr, w), (none0, W6), (one g1, W6)] := M9.front [(none0, W6), (one g1, W6)] rfl
    have M11 : Mem W6 [(none0, W6), (Fr, w), (one g1, W6)] := M10.front [(Fr, w)] rfl
    have M12 : Mem W6 [(none0, W6), (Fr, w)] := M11.sub (List.prefix_append [(none0, W6), (Fr, w)] [(one g1, W6)]).sublist
    refine retR [.agg #[.string (sv (lit [])), .int .i64 0, .slice none 0 0], .int .i64 2, .int .i64 65536] ⟨⟨_, rfl, R_loadVarN Tryd.underlying24 rfl B7.el (M8.agree 0 rfl) sz24 rfl⟩, rfl, rfl, trivial⟩ ?_
    exact ⟨none, 0, none0, rfl, M12, OR.nil W6 none0 W6 none0 44⟩
  · replace H := ifN c5 H
    refine WC_skip ?_
    refine thenN ?_
    refine WC_seq ?_
    refine WC_region ?_
    refine WL_of (L_move rfl rfl (.string (sv a0)) rfl ?_)
    obtain ⟨r14, hr15, H⟩ := bindS H
    refine WL_of (L_call' rfl rfl cf20 [.string (sv a0)] rfl (text_Words_ok k a0 r14 _ (Un [(one g1, W2), (Fr, w)]) (hG.call M4 1 rfl) M4.frame  hr15) ?_)
    rintro _ W16 ⟨A18, c19, S20, rfl, M17, ho21⟩
    have M22 : Mem W16 [(S20, W16), (one g1, W2), (Fr, w)] := M4.back (New := [(S20, W16)]) M17
    refine WL_of (L_move rfl rfl (.tuple #[.slice A18 r14.1.length c19, .int .i64 r14.2.1, .int .i64 r14.2.2]) rfl ?_)
    refine WL_of (L_extract rfl rfl [.slice A18 r14.1.length c19, .int .i64 r14.2.1, .int .i64 r14.2.2] rfl (.slice A18 r14.1.length c19) rfl ?_)
    refine WL_of (L_extract rfl rfl [.slice A18 r14.1.length c19, .int .i64 r14.2.1, .int .i64 r14.2.2] rfl (.int .i64 r14.2.1) rfl ?_)
    refine WL_of (L_extract rfl rfl [.slice A18 r14.1.length c19, .int .i64 r14.2.1, .int .i64 r14.2.2] rfl (.int .i64 r14.2.2) rfl ?_)
    refine WL_of (L_assign rfl rfl (.slice A18 r14.1.length c19) rfl ?_)
    refine WL_of (L_assign rfl rfl (.int .i64 r14.2.1) rfl ?_)
    refine WL_of (L_assign rfl rfl (.int .i64 r14.2.2) rfl ?_)
    refine WL_nil ?_
    refine thenN ?_
    refine WC_seq ?_
    refine WC_seq ?_
    refine WC_region ?_
    refine WL_of (L_move rfl rfl (.int .i64 r14.2.1) rfl ?_)
    refine WL_of (L_bin rfl rfl (.int .i64 r14.2.1) (.int .i64 0) rfl rfl (.bool (decide ((r14.2.1 : Int) ≠ 0))) (B_neq _ _ _ _ r14.2.1 0) ?_)
    refine WL_nil ?_
    refine thenN ?_
    refine WC_if (p := (r14.2.1 : Int) ≠ 0) rfl (fun c23 => ?_) (fun c23 => ?_)
    · replace H := ifP c23 H
      refine WC_seq ?_
      refine WC_region ?_
      refine WL_of (L_build' rfl rfl [] rfl Tryd.underlying24 zr24 pl24 [.string (sv (lit [])), .int .i64 0, .slice none 0 0] rfl ?_)
      refine WL_of (L_move rfl rfl (.int .i64 r14.2.1) rfl ?_)
      refine WL_of (L_move rfl rfl (.int .i64 r14.2.2) rfl ?_)
      have M24 : Mem W16 [(one g1, W2), (S20, W16), (Fr, w)] := M22.front [(S20, W16)] rfl
      refine WL_of (L_store M24 rfl (.agg #[.string (sv (lit [])), .int .i64 0, .slice none 0 0]) rfl [.string (sv (lit [])), .int .i64 0, .slice none 0 0] rfl 3 sz24 rfl rfl rfl B3 rfl rfl [.string (sv (lit [])), .int .i64 0, .slice none 0 0] rfl ?_)
      intro W25 B26 M27
      refine WL_of (L_assign rfl rfl (.int .i64 r14.2.1) rfl ?_)
      refine WL_of (L_assign rfl rfl (.int .i64 r14.2.2) rfl ?_)
      refine WL_nil ?_
      refine thenN ?_
      refine WC_ret ?_
      refine thenR ?_
      obtain rfl := someE H
      have M28 : Mem W25 [(none0, W25), (one g1, W25), (S20, W16), (Fr, w)] := M27.empty
      have M29 : Mem W25 [(Fr, w), (none0, W25), (one g1, W25), (S20, W16)] := M28.front [(none0, W25), (one g1, W25), (S20, W16)] rfl
      have M30 : Mem W25 [(none0, W25), (Fr, w), (one g1, W25), (S20, W16)] := M29.front [(Fr, w)] rfl
      have M31 : Mem W25 [(none0, W25), (Fr, w)] := M30.sub (List.prefix_append [(none0, W25), (Fr, w)] [(one g1, W25), (S20, W16)]).sublist
      refine retR [.agg #[.string (sv (lit [])), .int .i64 0, .slice none 0 0], .int .i64 r14.2.1, .int .i64 r14.2.2] ⟨⟨_, rfl, R_loadVarN Tryd.underlying24 rfl B26.el (M27.agree 0 rfl) sz24 rfl⟩, rfl, rfl, trivial⟩ ?_
      exact ⟨none, 0, none0, rfl, M31, OR.nil W25 none0 W25 none0 44⟩
    · replace H := ifN c23 H
      refine WC_skip ?_
      refine thenN ?_
      refine WC_seq ?_
      refine WC_region ?_
      refine WL_of (L_move rfl rfl (.slice A18 r14.1.length c19) rfl ?_)
      refine WL_of (L_move rfl rfl (.string (sv a0)) rfl ?_)
      refine WL_of (L_len rfl rfl (.string (sv a0)) rfl (List.length a0) (N_str Tryd.underlying9 a0) ?_)
      refine WL_of (L_build' rfl rfl [(0, .slice A18 r14.1.length c19), (2, .int .i64 (List.length a0 : Int))] rfl Tryd.underlying63 zr63 pl63 [.slice A18 r14.1.length c19, .int .i64 0, .int .i64 (List.length a0 : Int)] rfl ?_)
      refine WL_of (L_box M22 rfl rfl (.agg #[.slice A18 r14.1.length c19, .int .i64 0, .int .i64 (List.length a0 : Int)]) rfl [.slice A18 r14.1.length c19, .int .i64 0, .int .i64 (List.length a0 : Int)] rfl ?_)
      intro g32 W33 B34 M35
      refine WL_of (L_assign rfl rfl (.pointer (some ⟨g32, 0, none⟩)) rfl ?_)
      refine WL_nil ?_
      refine thenN ?_
      refine WC_seq ?_
      refine WC_region ?_
      refine WL_of (L_move rfl rfl (.pointer (some ⟨g32, 0, none⟩)) rfl ?_)
      have M36 : Mem W33 [(S20, W16), (one g32, W33), (one g1, W2), (Fr, w)] := M35.front [(one g32, W33)] rfl
      have M37 : Mem W33 [(one g32, W33), (S20, W16), (one g1, W2), (Fr, w)] := M36.front [(S20, W16)] rfl
      have M38 : Mem W33 [(one g1, W2), (Fr, w)] := M37.drop.drop
      obtain ⟨r39, hr40, H⟩ := bindS H
      refine WL_of (L_call' rfl rfl cf21 [.pointer (some ⟨g32, 0, none⟩)] rfl (plan_reader_plan_ok k (⟨r14.1, 0, (List.length a0 : Int)⟩ : plan_reader) g32 A18 c19 S20 r39 _ (Un [(one g1, W2), (Fr, w)]) (hG.call M38 1 rfl) M37.lend2 ((ho21.agree (M37.agree 1 rfl)).map (fun _ _ h => h)) (B34.now (M37.agree 0 rfl)) hr40) ?_)
      rintro _ W41 ⟨A43, c44, S45, A47, c48, S49, A51, c52, S53, rfl, M42, ho46, ho50, ho54, B55⟩
      have M56 : Mem W41 [(S45, W41), (S49, W41), (S53, W41), (one g32, W41), (one g1, W2), (Fr, w)] := M38.back (New := [(S45, W41), (S49, W41), (S53, W41), (one g32, W41)]) M42
      refine WL_of (L_move rfl rfl (.tuple #[.agg #[.string (sv r39.1.Name), .int .i64 r39.1.Pivot, .slice A43 r39.1.Steps.length c44], .slice A47 r39.2.1.length c48, .bool r39.2.2.1]) rfl ?_)
      refine WL_of (L_extract rfl rfl [.agg #[.string (sv r39.1.Name), .int .i64 r39.1.Pivot, .slice A43 r39.1.Steps.length c44], .slice A47 r39.2.1.length c48, .bool r39.2.2.1] rfl (.agg #[.string (sv r39.1.Name), .int .i64 r39.1.Pivot, .slice A43 r39.1.Steps.length c44]) rfl ?_)
      refine WL_of (L_extract rfl rfl [.agg #[.string (sv r39.1.Name), .int .i64 r39.1.Pivot, .slice A43 r39.1.Steps.length c44], .slice A47 r39.2.1.length c48, .bool r39.2.2.1] rfl (.slice A47 r39.2.1.length c48) rfl ?_)
      refine WL_of (L_extract rfl rfl [.agg #[.string (sv r39.1.Name), .int .i64 r39.1.Pivot, .slice A43 r39.1.Steps.length c44], .slice A47 r39.2.1.length c48, .bool r39.2.2.1] rfl (.bool r39.2.2.1) rfl ?_)
      refine WL_of (L_alloc M56 rfl rfl zr24 [.string (sv (lit [])), .int .i64 0, .slice none 0 0] rfl ?_)
      intro g57 W58 B59 M60
      refine WL_of (L_store M60 rfl (.agg #[.string (sv r39.1.Name), .int .i64 r39.1.Pivot, .slice A43 r39.1.Steps.length c44]) rfl [.string (sv r39.1.Name), .int .i64 r39.1.Pivot, .slice A43 r39.1.Steps.length c44] rfl 3 sz24 rfl rfl rfl B59 rfl rfl [.string (sv r39.1.Name), .int .i64 r39.1.Pivot, .slice A43 r39.1.Steps.length c44] rfl ?_)
      intro W61 B62 M63
      refine WL_of (L_assign rfl rfl (.slice A47 r39.2.1.length c48) rfl ?_)
      refine WL_of (L_assign rfl rfl (.bool r39.2.2.1) rfl ?_)
      refine WL_nil ?_
      refine thenN ?_
      refine WC_seq ?_
      refine WC_seq ?_
      refine WC_region ?_
      refine WL_of (L_move rfl rfl (.bool r39.2.2.1) rfl ?_)
      refine WL_of (L_not rfl rfl r39.2.2.1 rfl ?_)
      refine WL_nil ?_
      refine thenN ?_
      refine WC_ifb rfl (fun c64 => ?_) (fun c64 => ?_)
      · replace H := ifP c64 H
        refine WC_seq ?_
        refine WC_region ?_
        refine WL_of (L_build' rfl rfl [] rfl Tryd.underlying24 zr24 pl24 [.string (sv (lit [])), .int .i64 0, .slice none 0 0] rfl ?_)
        refine WL_of (L_move rfl rfl (.pointer (some ⟨g32, 0, none⟩)) rfl ?_)
        have hs65 := ho54.sr
        obtain ⟨r67, hr68, H⟩ := bindS H
        refine WL_of (L_call' rfl rfl cf22 [.pointer (some ⟨g32, 0, none⟩)] rfl (plan_reader_here_ok (⟨r39.2.2.2.1, r39.2.2.2.2, (List.length a0 : Int)⟩ : plan_reader) g32 A51 c52 r67 _ (Un [(one g57, W61), (S45, W41), (S49, W41), (S53, W41), (one g32, W41), (one g1, W2), (Fr, w)]) (hG.call M63 6 rfl) M63.frame ((hs65.agree (M63.agree 3 rfl) (fun _ h => h.elim)).sub (Un.at 3 rfl) (fun _ h => h.elim)) (Un.at (S := one g32) 4 rfl _ rfl) (B55.now (M63.agree 4 rfl)) hr68) ?_)
        rintro _ W69 ⟨rfl, M70⟩
        have M71 : Mem W69 [(one g57, W61), (S45, W41), (S49, W41), (S53, W41), (one g32, W41), (one g1, W2), (Fr, w)] := M63.back (New := []) M70
        have M72 : Mem W69 [(one g1, W2), (one g57, W61), (S45, W41), (S49, W41), (S53, W41), (one g32, W41), (Fr, w)] := M71.front [(one g57, W61), (S45, W41), (S49, W41), (S53, W41), (one g32, W41)] rfl
        refine WL_of (L_store M72 rfl (.agg #[.string (sv (lit [])), .int .i64 0, .slice none 0 0]) rfl [.string (sv (lit [])), .int .i64 0, .slice none 0 0] rfl 3 sz24 rfl rfl rfl B3 rfl rfl [.string (sv (lit [])), .int .i64 0, .slice none 0 0] rfl ?_)
        intro W73 B74 M75
        refine WL_of (L_assign rfl rfl (.int .i64 150) rfl ?_)
        refine WL_of (L_assign rfl rfl (.int .i64 r67) rfl ?_)
        refine WL_nil ?_
        refine thenN ?_
        refine WC_ret ?_
        refine thenR ?_
        obtain rfl := someE H
        have M76 : Mem W73 [(none0, W73), (one g1, W73), (one g57, W61), (S45, W41), (S49, W41), (S53, W41), (one g32, W41), (Fr, w)] := M75.empty
        have M77 : Mem W73 [(Fr, w), (none0, W73), (one g1, W73), (one g57, W61), (S45, W41), (S49, W41), (S53, W41), (one g32, W41)] := M76.front [(none0, W73), (one g1, W73), (one g57, W61), (S45, W41), (S49, W41), (S53, W41), (one g32, W41)] rfl
        have M78 : Mem W73 [(none0, W73), (Fr, w), (one g1, W73), (one g57, W61), (S45, W41), (S49, W41), (S53, W41), (one g32, W41)] := M77.front [(Fr, w)] rfl
        have M79 : Mem W73 [(none0, W73), (Fr, w)] := M78.sub (List.prefix_append [(none0, W73), (Fr, w)] [(one g1, W73), (one g57, W61), (S45, W41), (S49, W41), (S53, W41), (one g32, W41)]).sublist
        refine retR [.agg #[.string (sv (lit [])), .int .i64 0, .slice none 0 0], .int .i64 150, .int .i64 r67] ⟨⟨_, rfl, R_loadVarN Tryd.underlying24 rfl B74.el (M75.agree 0 rfl) sz24 rfl⟩, rfl, rfl, trivial⟩ ?_
        exact ⟨none, 0, none0, rfl, M79, OR.nil W73 none0 W73 none0 44⟩
      · replace H := ifN (by rw [c64]; simp) H
        refine WC_skip ?_
        refine thenN ?_
        refine WC_seq ?_
        refine WC_seq ?_
        refine WC_region ?_
        refine WL_of (L_loadN rfl rfl Tryd.underlying24 rfl B62.el (M63.agree 0 rfl) 0 rfl 3 sz24 [.string (sv r39.1.Name), .int .i64 r39.1.Pivot, .slice A43 r39.1.Steps.length c44] rfl rfl ?_)
        have hs80 := ho46.sr
        obtain ⟨r82, hr83, H⟩ := bindS H
        refine WL_of (L_call' rfl rfl cf19 [.agg #[.string (sv r39.1.Name), .int .i64 r39.1.Pivot, .slice A43 r39.1.Steps.length c44]] rfl (plan_check_ok k r39.1 A43 c44 r82 _ (Un [(one g57, W61), (S45, W41), (S49, W41), (S53, W41), (one g32, W41), (one g1, W2), (Fr, w)]) (hG.call M63 6 rfl) M63.frame ((hs80.agree (M63.agree 1 rfl) (fun _ h => h.elim)).sub (Un.at 1 rfl) (fun _ h => h.elim)) hr83) ?_)
        rintro _ W84 ⟨rfl, M85⟩
        have M86 : Mem W84 [(one g57, W61), (S45, W41), (S49, W41), (S53, W41), (one g32, W41), (one g1, W2), (Fr, w)] := M63.back (New := []) M85
        refine WL_of (L_move rfl rfl (.tuple #[.int .i64 r82.1, .int .i64 r82.2]) rfl ?_)
        refine WL_of (L_extract rfl rfl [.int .i64 r82.1, .int .i64 r82.2] rfl (.int .i64 r82.1) rfl ?_)
        refine WL_of (L_extract rfl rfl [.int .i64 r82.1, .int .i64 r82.2] rfl (.int .i64 r82.2) rfl ?_)
        refine WL_of (L_assign rfl rfl (.int .i64 r82.1) rfl ?_)
        refine WL_of (L_assign rfl rfl (.int .i64 r82.2) rfl ?_)
        refine WL_nil ?_
        refine thenN ?_
        refine WC_seq ?_
        refine WC_region ?_
        refine WL_of (L_move rfl rfl (.int .i64 r82.1) rfl ?_)
        refine WL_of (L_bin rfl rfl (.int .i64 r82.1) (.int .i64 0) rfl rfl (.bool (decide ((r82.1 : Int) ≠ 0))) (B_neq _ _ _ _ r82.1 0) ?_)
        refine WL_nil ?_
        refine thenN ?_
        refine WC_if (p := (r82.1 : Int) ≠ 0) rfl (fun c87 => ?_) (fun c87 => ?_)
        · replace H := ifP c87 H
          refine WC_seq ?_
          refine WD_start (n := 9) (fun w_ => Mem w_ [(one g57, W61), (S45, W41), (S49, W41), (S53, W41), (one g32, W41), (Fr, w)]) [] mixed rfl ?_
          have M88 := M86.drawn
          refine WD_take' 0 rfl (by kernel_rfl) (by kernel_rfl) (by kernel_rfl) (by kernel_rfl) (by kernel_rfl) rfl (fun _ _ _ h => h) rfl _ (M88.sub (.cons_cons _ (.cons_cons _ (.cons_cons _ (.cons_cons _ (.cons_cons _ (.cons _ (.cons_cons _ .slnil)))))))) rfl (fun w_ hS => L_build' rfl rfl [] rfl Tryd.underlying24 zr24 pl24 [.string (sv (lit [])), .int .i64 0, .slice none 0 0] rfl  ⟨rfl, rfl⟩) ?_
          refine WD_take' 1 rfl (by kernel_rfl) (by kernel_rfl) (by kernel_rfl) (by kernel_rfl) (by kernel_rfl) rfl (fun _ _ _ h => h) rfl _ (M88.sub (.cons_cons _ (.cons_cons _ (.cons_cons _ (.cons_cons _ (.cons_cons _ (.cons _ (.cons_cons _ .slnil)))))))) rfl (fun w_ hS => L_move rfl rfl (.int .i64 r82.1) rfl  ⟨rfl, rfl⟩) ?_
          refine WD_take' 2 rfl (by kernel_rfl) (by kernel_rfl) (by kernel_rfl) (by kernel_rfl) (by kernel_rfl) rfl (fun _ _ _ h => h) rfl _ (M88.sub (.cons_cons _ (.cons_cons _ (.cons_cons _ (.cons_cons _ (.cons_cons _ (.cons _ (.cons_cons _ .slnil)))))))) rfl (fun w_ hS => L_move rfl rfl (.slice A47 r39.2.1.length c48) rfl  ⟨rfl, rfl⟩) ?_
          refine WD_take' 3 rfl (by kernel_rfl) (by kernel_rfl) (by kernel_rfl) (by kernel_rfl) (by kernel_rfl) rfl (fun _ _ _ h => h) rfl _ (M88.sub (.cons_cons _ (.cons_cons _ (.cons_cons _ (.cons_cons _ (.cons_cons _ (.cons _ (.cons_cons _ .slnil)))))))) rfl (fun w_ hS => L_move rfl rfl (.int .i64 r82.2) rfl  ⟨rfl, rfl⟩) ?_
          have hs89 := ho50.sr
          obtain ⟨q90, hq91, H⟩ := bindS H
          obtain ⟨ad92, cs93, hA94, E95, R96⟩ := hs89.at hq91
          have hl97 := atL_spec hq91
          refine WD_take' 4 rfl (by kernel_rfl) (by kernel_rfl) (by kernel_rfl) (by kernel_rfl) (by kernel_rfl) rfl (fun _ _ _ h => h) rfl _ (M88.sub (.cons_cons _ (.cons_cons _ (.cons_cons _ (.cons_cons _ (.cons_cons _ (.cons _ (.cons_cons _ .slnil)))))))) rfl (fun w_ hS => L_index rfl rfl Tryd.underlying64 sz3 rfl rfl hA94 hl97.1 hl97.2.1  ⟨rfl, rfl⟩) ?_
          obtain rfl := R96
          have E98 : El W41 S49 (Addr.add ad92 (Int.toNat r82.2 * 1)) [.int .i64 q90] := E95
          refine WD_take' 5 rfl (by kernel_rfl) (by kernel_rfl) (by kernel_rfl) (by kernel_rfl) (by kernel_rfl) rfl (fun _ _ _ h => h) rfl _ (M88.sub (.cons_cons _ (.cons_cons _ (.cons_cons _ (.cons_cons _ (.cons_cons _ (.cons _ (.cons_cons _ .slnil)))))))) rfl (fun w_ hS => L_load1 rfl rfl Tryd.underlying3 rfl E98 (hS.agree 2 rfl) 0 rfl (.int .i64 q90) rfl  ⟨rfl, rfl⟩) ?_
          have M99 : Mem (drawnZ W84) [(one g1, W2), (one g57, W61), (S45, W41), (S49, W41), (S53, W41), (one g32, W41), (Fr, w)] := M88.front [(one g57, W61), (S45, W41), (S49, W41), (S53, W41), (one g32, W41)] rfl
          refine WD_one 6 rfl (by kernel_rfl) (L_store M99 rfl (.agg #[.string (sv (lit [])), .int .i64 0, .slice none 0 0]) rfl [.string (sv (lit [])), .int .i64 0, .slice none 0 0] rfl 3 sz24 rfl rfl rfl B3 rfl rfl [.string (sv (lit [])), .int .i64 0, .slice none 0 0] rfl ?_)
          intro W100 B101 M102
          refine ⟨fun _ => (M102.sub (.cons _ (.cons_cons _ (.cons_cons _ (.cons_cons _ (.cons_cons _ (.cons_cons _ (.cons_cons _ .slnil)))))))), ?_⟩
          refine WD_take' 7 rfl (by kernel_rfl) (by kernel_rfl) (by kernel_rfl) (by kernel_rfl) (by kernel_rfl) rfl (fun _ _ _ h => h) rfl _ (M102.sub (.cons _ (.cons_cons _ (.cons_cons _ (.cons_cons _ (.cons_cons _ (.cons_cons _ (.cons_cons _ .slnil)))))))) rfl (fun w_ hS => L_assign rfl rfl (.int .i64 r82.1) rfl  ⟨rfl, rfl⟩) ?_
          refine WD_take' 8 rfl (by kernel_rfl) (by kernel_rfl) (by kernel_rfl) (by kernel_rfl) (by kernel_rfl) rfl (fun _ _ _ h => h) rfl _ (M102.sub (.cons _ (.cons_cons _ (.cons_cons _ (.cons_cons _ (.cons_cons _ (.cons_cons _ (.cons_cons _ .slnil)))))))) rfl (fun w_ hS => L_assign rfl rfl (.int .i64 q90) rfl  ⟨rfl, rfl⟩) ?_
          refine WD_done (by kernel_rfl) ?_
          refine thenN ?_
          refine WC_ret ?_
          refine thenR ?_
          obtain rfl := someE H
          have M103 : Mem W100 [(none0, W100), (one g1, W100), (one g57, W61), (S45, W41), (S49, W41), (S53, W41), (one g32, W41), (Fr, w)] := M102.empty
          have M104 : Mem W100 [(Fr, w), (none0, W100), (one g1, W100), (one g57, W61), (S45, W41), (S49, W41), (S53, W41), (one g32, W41)] := M103.front [(none0, W100), (one g1, W100), (one g57, W61), (S45, W41), (S49, W41), (S53, W41), (one g32, W41)] rfl
          have M105 : Mem W100 [(none0, W100), (Fr, w), (one g1, W100), (one g57, W61), (S45, W41), (S49, W41), (S53, W41), (one g32, W41)] := M104.front [(Fr, w)] rfl
          have M106 : Mem W100 [(none0, W100), (Fr, w)] := M105.sub (List.prefix_append [(none0, W100), (Fr, w)] [(one g1, W100), (one g57, W61), (S45, W41), (S49, W41), (S53, W41), (one g32, W41)]).sublist
          refine retR [.agg #[.string (sv (lit [])), .int .i64 0, .slice none 0 0], .int .i64 r82.1, .int .i64 q90] ⟨⟨_, rfl, R_loadVarN Tryd.underlying24 rfl B101.el (M102.agree 0 rfl) sz24 rfl⟩, rfl, rfl, trivial⟩ ?_
          exact ⟨none, 0, none0, rfl, M106, OR.nil W100 none0 W100 none0 44⟩
        · replace H := ifN c87 H
          refine WC_skip ?_
          refine thenN ?_
          refine WC_seq ?_
          refine WC_seq ?_
          refine WC_region ?_
          refine WL_of (L_loadN rfl rfl Tryd.underlying24 rfl B62.el (M86.agree 0 rfl) 0 rfl 3 sz24 [.string (sv r39.1.Name), .int .i64 r39.1.Pivot, .slice A43 r39.1.Steps.length c44] rfl rfl ?_)
          have hs107 := ho46.sr
          obtain ⟨r109, hr110, H⟩ := bindS H
          refine WL_of (L_call' rfl rfl cf18 [.agg #[.string (sv r39.1.Name), .int .i64 r39.1.Pivot, .slice A43 r39.1.Steps.length c44]] rfl (plan_write_ok k r39.1 A43 c44 r109 _ (Un [(one g57, W61), (S45, W41), (S49, W41), (S53, W41), (one g32, W41), (one g1, W2), (Fr, w)]) (hG.call M86 6 rfl) M86.frame ((hs107.agree (M86.agree 1 rfl) (fun _ h => h.elim)).sub (Un.at 1 rfl) (fun _ h => h.elim)) hr110) ?_)
          rintro _ W111 ⟨rfl, M112⟩
          have M113 : Mem W111 [(one g57, W61), (S45, W41), (S49, W41), (S53, W41), (one g32, W41), (one g1, W2), (Fr, w)] := M86.back (New := []) M112
          refine WL_of (L_assign rfl rfl (.string (sv r109)) rfl ?_)
          refine WL_nil ?_
          refine thenN ?_
          refine WC_seq ?_
          refine WC_region ?_
          refine WL_of (L_move rfl rfl (.string (sv r109)) rfl ?_)
          refine WL_of (L_move rfl rfl (.string (sv a0)) rfl ?_)
          refine WL_of (L_bin rfl rfl (.string (sv r109)) (.string (sv a0)) rfl rfl (.bool (decide ((r109 : Str) ≠ a0))) (B_sneq _ _ _ r109 a0) ?_)
          refine WL_nil ?_
          refine thenN ?_
          refine WC_if (p := (r109 : Str) ≠ a0) rfl (fun c114 => ?_) (fun c114 => ?_)
          · replace H := ifP c114 H
            refine WC_seq ?_
            refine WC_region ?_
            refine WL_of (L_assign rfl rfl (.int .i64 0) rfl ?_)
            refine WL_nil ?_
            refine thenN ?_
            refine WC_seq ?_
            refine WC_block ?_
            refine WC_loop (fun k122 ρ w_ => ∃ (x117 : Int) (ρ0 : Nat → Value), ρ = updL ρ0 [(0, .string (sv a0)), (2, .pointer (some ⟨g1, 0, none⟩)), (3, .int .i64 0), (4, .int .i64 0), (9, .pointer (some ⟨g57, 0, none⟩)), (14, .string (sv r109)), (15, .int .i64 x117)] ∧ Mem w_ [(one g57, W61), (S45, W41), (S49, W41), (S53, W41), (one g32, W41), (one g1, W2), (Fr, w)] ∧ k122 ≤ k ∧ plan_Parse.l0 k122 a0 r109 x117 = some r) k ?_ ?_
            · exact ⟨0, _, updL_same _ _ ⟨rfl, rfl, rfl, rfl, rfl, rfl, rfl, trivial⟩, M113, (Nat.le_refl _), H⟩
            · rintro k122 _ W118 ⟨x117, ρ120, rfl, M119, hk123, H121⟩
              cases k122 with
              | zero => rw [plan_Parse.l0] at H121; cases H121
              | succ k122 =>
              rw [plan_Parse.l0] at H121
              refine WC_seq ?_
              obtain ⟨z124, hz125, H121⟩ := bindS H121
              refine WC_cut (fun ρ w_ => ∃  (ρ0 : Nat → Value), ρ = updL ρ0 [(0, .string (sv a0)), (2, .pointer (some ⟨g1, 0, none⟩)), (3, .int .i64 0), (4, .int .i64 0), (9, .pointer (some ⟨g57, 0, none⟩)), (14, .string (sv r109)), (15, .int .i64 x117), (83, .bool z124)] ∧ Mem w_ [(one g57, W61), (S45, W41), (S49, W41), (S53, W41), (one g32, W41), (one g1, W2), (Fr, w)]) ?_ ?_
              · refine WD_start (n := 19) (fun w_ => Mem w_ [(one g57, W61), (S45, W41), (S49, W41), (S53, W41), (one g32, W41), (one g1, W2), (Fr, w)]) [] mixed rfl ?_
                have M126 := M119.drawn
                refine WD_take' 0 rfl (by kernel_rfl) (by kernel_rfl) (by kernel_rfl) (by kernel_rfl) (by kernel_rfl) rfl (fun _ _ _ h => h) rfl _ (M126.sub (.cons_cons _ (.cons_cons _ (.cons_cons _ (.cons_cons _ (.cons_cons _ (.cons_cons _ (.cons_cons _ .slnil)))))))) rfl (fun w_ hS => L_move rfl rfl (.int .i64 x117) rfl  ⟨rfl, rfl⟩) ?_
                refine WD_take' 1 rfl (by kernel_rfl) (by kernel_rfl) (by kernel_rfl) (by kernel_rfl) (by kernel_rfl) rfl (fun _ _ _ h => h) rfl _ (M126.sub (.cons_cons _ (.cons_cons _ (.cons_cons _ (.cons_cons _ (.cons_cons _ (.cons_cons _ (.cons_cons _ .slnil)))))))) rfl (fun w_ hS => L_move rfl rfl (.string (sv r109)) rfl  ⟨rfl, rfl⟩) ?_
                refine WD_take' 2 rfl (by kernel_rfl) (by kernel_rfl) (by kernel_rfl) (by kernel_rfl) (by kernel_rfl) rfl (fun _ _ _ h => h) rfl _ (M126.sub (.cons_cons _ (.cons_cons _ (.cons_cons _ (.cons_cons _ (.cons_cons _ (.cons_cons _ (.cons_cons _ .slnil)))))))) rfl (fun w_ hS => L_len rfl rfl (.string (sv r109)) rfl (List.length r109) (N_str Tryd.underlying9 r109)  ⟨rfl, rfl⟩) ?_
                refine WD_take' 3 rfl (by kernel_rfl) (by kernel_rfl) (by kernel_rfl) (by kernel_rfl) (by kernel_rfl) rfl (fun _ _ _ h => h) rfl _ (M126.sub (.cons_cons _ (.cons_cons _ (.cons_cons _ (.cons_cons _ (.cons_cons _ (.cons_cons _ (.cons_cons _ .slnil)))))))) rfl (fun w_ hS => L_bin rfl rfl (.int .i64 x117) (.int .i64 (List.length r109 : Int)) rfl rfl (.bool (decide ((x117 : Int) < (List.length r109 : Int)))) (B_lss _ _ _ _ x117 (List.length r109 : Int))  ⟨rfl, rfl⟩) ?_
                refine WD_take' 4 rfl (by kernel_rfl) (by kernel_rfl) (by kernel_rfl) (by kernel_rfl) (by kernel_rfl) rfl (fun _ _ _ h => h) rfl _ (M126.sub (.cons_cons _ (.cons_cons _ (.cons_cons _ (.cons_cons _ (.cons_cons _ (.cons_cons _ (.cons_cons _ .slnil)))))))) rfl (fun w_ hS => L_move rfl rfl (.bool (decide ((x117 : Int) < (List.length r109 : Int)))) rfl  ⟨rfl, rfl⟩) ?_
                by_cases c127 : (x117 : Int) < (List.length r109 : Int)
                · replace hz125 := ifP c127 hz125
                  refine WD_known 69 true (vtrue c127) ?_
                  refine WD_take' 5 rfl (by kernel_rfl) (by kernel_rfl) (by kernel_rfl) (by kernel_rfl) (by kernel_rfl) rfl (fun _ _ _ h => h) rfl _ (M126.sub (.cons_cons _ (.cons_cons _ (.cons_cons _ (.cons_cons _ (.cons_cons _ (.cons_cons _ (.cons_cons _ .slnil)))))))) rfl (fun w_ hS => L_move rfl rfl (.int .i64 x117) rfl  ⟨rfl, rfl⟩) ?_
                  refine WD_take' 6 rfl (by kernel_rfl) (by kernel_rfl) (by kernel_rfl) (by kernel_rfl) (by kernel_rfl) rfl (fun _ _ _ h => h) rfl _ (M126.sub (.cons_cons _ (.cons_cons _ (.cons_cons _ (.cons_cons _ (.cons_cons _ (.cons_cons _ (.cons_cons _ .slnil)))))))) rfl (fun w_ hS => L_move rfl rfl (.string (sv a0)) rfl  ⟨rfl, rfl⟩) ?_
                  refine WD_take' 7 rfl (by kernel_rfl) (by kernel_rfl) (by kernel_rfl) (by kernel_rfl) (by kernel_rfl) rfl (fun _ _ _ h => h) rfl _ (M126.sub (.cons_cons _ (.cons_cons _ (.cons_cons _ (.cons_cons _ (.cons_cons _ (.cons_cons _ (.cons_cons _ .slnil)))))))) rfl (fun w_ hS => L_len rfl rfl (.string (sv a0)) rfl (List.length a0) (N_str Tryd.underlying9 a0)  ⟨rfl, rfl⟩) ?_
                  refine WD_take' 8 rfl (by kernel_rfl) (by kernel_rfl) (by kernel_rfl) (by kernel_rfl) (by kernel_rfl) rfl (fun _ _ _ h => h) rfl _ (M126.sub (.cons_cons _ (.cons_cons _ (.cons_cons _ (.cons_cons _ (.cons_cons _ (.cons_cons _ (.cons_cons _ .slnil)))))))) rfl (fun w_ hS => L_bin rfl rfl (.int .i64 x117) (.int .i64 (List.length a0 : Int)) rfl rfl (.bool (decide ((x117 : Int) < (List.length a0 : Int)))) (B_lss _ _ _ _ x117 (List.length a0 : Int))  ⟨rfl, rfl⟩) ?_
                  refine WD_take' 9 rfl (by kernel_rfl) (by kernel_rfl) (by kernel_rfl) (by kernel_rfl) (by kernel_rfl) rfl (fun _ _ _ h => h) rfl _ (M126.sub (.cons_cons _ (.cons_cons _ (.cons_cons _ (.cons_cons _ (.cons_cons _ (.cons_cons _ (.cons_cons _ .slnil)))))))) rfl (fun w_ hS => L_pick rfl rfl true rfl (.bool (decide ((x117 : Int) < (List.length a0 : Int)))) rfl  ⟨rfl, rfl⟩) ?_
                  refine WD_take' 10 rfl (by kernel_rfl) (by kernel_rfl) (by kernel_rfl) (by kernel_rfl) (by kernel_rfl) rfl (fun _ _ _ h => h) rfl _ (M126.sub (.cons_cons _ (.cons_cons _ (.cons_cons _ (.cons_cons _ (.cons_cons _ (.cons_cons _ (.cons_cons _ .slnil)))))))) rfl (fun w_ hS => L_move rfl rfl (.bool (decide ((x117 : Int) < (List.length a0 : Int)))) rfl  ⟨rfl, rfl⟩) ?_
                  by_cases c128 : (x117 : Int) < (List.length a0 : Int)
                  · replace hz125 := ifP c128 hz125
                    refine WD_known 75 true (vtrue c128) ?_
                    refine WD_take' 11 rfl (by kernel_rfl) (by kernel_rfl) (by kernel_rfl) (by kernel_rfl) (by kernel_rfl) rfl (fun _ _ _ h => h) rfl _ (M126.sub (.cons_cons _ (.cons_cons _ (.cons_cons _ (.cons_cons _ (.cons_cons _ (.cons_cons _ (.cons_cons _ .slnil)))))))) rfl (fun w_ hS => L_move rfl rfl (.string (sv r109)) rfl  ⟨rfl, rfl⟩) ?_
                    refine WD_take' 12 rfl (by kernel_rfl) (by kernel_rfl) (by kernel_rfl) (by kernel_rfl) (by kernel_rfl) rfl (fun _ _ _ h => h) rfl _ (M126.sub (.cons_cons _ (.cons_cons _ (.cons_cons _ (.cons_cons _ (.cons_cons _ (.cons_cons _ (.cons_cons _ .slnil)))))))) rfl (fun w_ hS => L_move rfl rfl (.int .i64 x117) rfl  ⟨rfl, rfl⟩) ?_
                    obtain ⟨b129, hb130, hz125⟩ := bindS hz125
                    refine WD_take' 13 rfl (by kernel_rfl) (by kernel_rfl) (by kernel_rfl) (by kernel_rfl) (by kernel_rfl) rfl (fun _ _ _ h => h) rfl _ (M126.sub (.cons_cons _ (.cons_cons _ (.cons_cons _ (.cons_cons _ (.cons_cons _ (.cons_cons _ (.cons_cons _ .slnil)))))))) rfl (fun w_ hS => L_sindex rfl rfl Tryd.underlying9 .i64 r109 x117 rfl rfl b129 hb130  ⟨rfl, rfl⟩) ?_
                    refine WD_take' 14 rfl (by kernel_rfl) (by kernel_rfl) (by kernel_rfl) (by kernel_rfl) (by kernel_rfl) rfl (fun _ _ _ h => h) rfl _ (M126.sub (.cons_cons _ (.cons_cons _ (.cons_cons _ (.cons_cons _ (.cons_cons _ (.cons_cons _ (.cons_cons _ .slnil)))))))) rfl (fun w_ hS => L_move rfl rfl (.string (sv a0)) rfl  ⟨rfl, rfl⟩) ?_
                    refine WD_take' 15 rfl (by kernel_rfl) (by kernel_rfl) (by kernel_rfl) (by kernel_rfl) (by kernel_rfl) rfl (fun _ _ _ h => h) rfl _ (M126.sub (.cons_cons _ (.cons_cons _ (.cons_cons _ (.cons_cons _ (.cons_cons _ (.cons_cons _ (.cons_cons _ .slnil)))))))) rfl (fun w_ hS => L_move rfl rfl (.int .i64 x117) rfl  ⟨rfl, rfl⟩) ?_
                    obtain ⟨b131, hb132, hz125⟩ := bindS hz125
                    refine WD_take' 16 rfl (by kernel_rfl) (by kernel_rfl) (by kernel_rfl) (by kernel_rfl) (by kernel_rfl) rfl (fun _ _ _ h => h) rfl _ (M126.sub (.cons_cons _ (.cons_cons _ (.cons_cons _ (.cons_cons _ (.cons_cons _ (.cons_cons _ (.cons_cons _ .slnil)))))))) rfl (fun w_ hS => L_sindex rfl rfl Tryd.underlying9 .i64 a0 x117 rfl rfl b131 hb132  ⟨rfl, rfl⟩) ?_
                    refine WD_take' 17 rfl (by kernel_rfl) (by kernel_rfl) (by kernel_rfl) (by kernel_rfl) (by kernel_rfl) rfl (fun _ _ _ h => h) rfl _ (M126.sub (.cons_cons _ (.cons_cons _ (.cons_cons _ (.cons_cons _ (.cons_cons _ (.cons_cons _ (.cons_cons _ .slnil)))))))) rfl (fun w_ hS => L_bin rfl rfl (.int .u8 (b129.toNat : Int)) (.int .u8 (b131.toNat : Int)) rfl rfl (.bool (decide (b129 = b131))) (B_eql8 _ _ _ b129 b131)  ⟨rfl, rfl⟩) ?_
                    refine WD_take' 18 rfl (by kernel_rfl) (by kernel_rfl) (by kernel_rfl) (by kernel_rfl) (by kernel_rfl) rfl (fun _ _ _ h => h) rfl _ (M126.sub (.cons_cons _ (.cons_cons _ (.cons_cons _ (.cons_cons _ (.cons_cons _ (.cons_cons _ (.cons_cons _ .slnil)))))))) rfl (fun w_ hS => L_pick rfl rfl true rfl (.bool (decide (b129 = b131))) rfl  ⟨rfl, rfl⟩) ?_
                    refine WD_done (by kernel_rfl) ?_
                    refine thenN ?_
                    obtain rfl := someE hz125
                    exact ⟨_, updL_same _ _ ⟨rfl, rfl, rfl, rfl, rfl, rfl, rfl, rfl, trivial⟩, M126⟩
                  · replace hz125 := ifN c128 hz125
                    refine WD_known 75 false (vfalse c128) ?_
                    refine WD_take 11 rfl (by kernel_rfl) (by kernel_rfl) (by kernel_rfl) (by kernel_rfl) (by kernel_rfl) (fun _ _ _ h => h) rfl undef (M126.sub (.cons_cons _ (.cons_cons _ (.cons_cons _ (.cons_cons _ (.cons_cons _ (.cons_cons _ (.cons_cons _ .slnil)))))))) (.inr ⟨rfl, rfl⟩) ?_
                    refine WD_take 12 rfl (by kernel_rfl) (by kernel_rfl) (by kernel_rfl) (by kernel_rfl) (by kernel_rfl) (fun _ _ _ h => h) rfl undef (M126.sub (.cons_cons _ (.cons_cons _ (.cons_cons _ (.cons_cons _ (.cons_cons _ (.cons_cons _ (.cons_cons _ .slnil)))))))) (.inr ⟨rfl, rfl⟩) ?_
                    refine WD_take 13 rfl (by kernel_rfl) (by kernel_rfl) (by kernel_rfl) (by kernel_rfl) (by kernel_rfl) (fun _ _ _ h => h) rfl undef (M126.sub (.cons_cons _ (.cons_cons _ (.cons_cons _ (.cons_cons _ (.cons_cons _ (.cons_cons _ (.cons_cons _ .slnil)))))))) (.inr ⟨rfl, rfl⟩) ?_
                    refine WD_take 14 rfl (by kernel_rfl) (by kernel_rfl) (by kernel_rfl) (by kernel_rfl) (by kernel_rfl) (fun _ _ _ h => h) rfl undef (M126.sub (.cons_cons _ (.cons_cons _ (.cons_cons _ (.cons_cons _ (.cons_cons _ (.cons_cons _ (.cons_cons _ .slnil)))))))) (.inr ⟨rfl, rfl⟩) ?_
                    refine WD_take 15 rfl (by kernel_rfl) (by kernel_rfl) (by kernel_rfl) (by kernel_rfl) (by kernel_rfl) (fun _ _ _ h => h) rfl undef (M126.sub (.cons_cons _ (.cons_cons _ (.cons_cons _ (.cons_cons _ (.cons_cons _ (.cons_cons _ (.cons_cons _ .slnil)))))))) (.inr ⟨rfl, rfl⟩) ?_
                    refine WD_take 16 rfl (by kernel_rfl) (by kernel_rfl) (by kernel_rfl) (by kernel_rfl) (by kernel_rfl) (fun _ _ _ h => h) rfl undef (M126.sub (.cons_cons _ (.cons_cons _ (.cons_cons _ (.cons_cons _ (.cons_cons _ (.cons_cons _ (.cons_cons _ .slnil)))))))) (.inr ⟨rfl, rfl⟩) ?_
                    refine WD_take 17 rfl (by kernel_rfl) (by kernel_rfl) (by kernel_rfl) (by kernel_rfl) (by kernel_rfl) (fun _ _ _ h => h) rfl undef (M126.sub (.cons_cons _ (.cons_cons _ (.cons_cons _ (.cons_cons _ (.cons_cons _ (.cons_cons _ (.cons_cons _ .slnil)))))))) (.inr ⟨rfl, rfl⟩) ?_
                    refine WD_take' 18 rfl (by kernel_rfl) (by kernel_rfl) (by kernel_rfl) (by kernel_rfl) (by kernel_rfl) rfl (fun _ _ _ h => h) rfl _ (M126.sub (.cons_cons _ (.cons_cons _ (.cons_cons _ (.cons_cons _ (.cons_cons _ (.cons_cons _ (.cons_cons _ .slnil)))))))) rfl (fun w_ hS => L_pick rfl rfl false rfl (.bool false) rfl  ⟨rfl, rfl⟩) ?_
                    refine WD_done (by kernel_rfl) ?_
                    refine thenN ?_
                    obtain rfl := someE hz125
                    exact ⟨_, updL_same _ _ ⟨rfl, rfl, rfl, rfl, rfl, rfl, rfl, rfl, trivial⟩, M126⟩
                · replace hz125 := ifN c127 hz125
                  refine WD_known 69 false (vfalse c127) ?_
                  refine WD_take 5 rfl (by kernel_rfl) (by kernel_rfl) (by kernel_rfl) (by kernel_rfl) (by kernel_rfl) (fun _ _ _ h => h) rfl undef (M126.sub (.cons_cons _ (.cons_cons _ (.cons_cons _ (.cons_cons _ (.cons_cons _ (.cons_cons _ (.cons_cons _ .slnil)))))))) (.inr ⟨rfl, rfl⟩) ?_
                  refine WD_take 6 rfl (by kernel_rfl) (by kernel_rfl) (by kernel_rfl) (by kernel_rfl) (by kernel_rfl) (fun _ _ _ h => h) rfl undef (M126.sub (.cons_cons _ (.cons_cons _ (.cons_cons _ (.cons_cons _ (.cons_cons _ (.cons_cons _ (.cons_cons _ .slnil)))))))) (.inr ⟨rfl, rfl⟩) ?_
                  refine WD_take 7 rfl (by kernel_rfl) (by kernel_rfl) (by kernel_rfl) (by kernel_rfl) (by kernel_rfl) (fun _ _ _ h => h) rfl undef (M126.sub (.cons_cons _ (.cons_cons _ (.cons_cons _ (.cons_cons _ (.cons_cons _ (.cons_cons _ (.cons_cons _ .slnil)))))))) (.inr ⟨rfl, rfl⟩) ?_
                  refine WD_take 8 rfl (by kernel_rfl) (by kernel_rfl) (by kernel_rfl) (by kernel_rfl) (by kernel_rfl) (fun _ _ _ h => h) rfl undef (M126.sub (.cons_cons _ (.cons_cons _ (.cons_cons _ (.cons_cons _ (.cons_cons _ (.cons_cons _ (.cons_cons _ .slnil)))))))) (.inr ⟨rfl, rfl⟩) ?_
                  refine WD_take' 9 rfl (by kernel_rfl) (by kernel_rfl) (by kernel_rfl) (by kernel_rfl) (by kernel_rfl) rfl (fun _ _ _ h => h) rfl _ (M126.sub (.cons_cons _ (.cons_cons _ (.cons_cons _ (.cons_cons _ (.cons_cons _ (.cons_cons _ (.cons_cons _ .slnil)))))))) rfl (fun w_ hS => L_pick rfl rfl false rfl (.bool false) rfl  ⟨rfl, rfl⟩) ?_
                  refine WD_take' 10 rfl (by kernel_rfl) (by kernel_rfl) (by kernel_rfl) (by kernel_rfl) (by kernel_rfl) rfl (fun _ _ _ h => h) rfl _ (M126.sub (.cons_cons _ (.cons_cons _ (.cons_cons _ (.cons_cons _ (.cons_cons _ (.cons_cons _ (.cons_cons _ .slnil)))))))) rfl (fun w_ hS => L_move rfl rfl (.bool false) rfl  ⟨rfl, rfl⟩) ?_
                  refine WD_take 11 rfl (by kernel_rfl) (by kernel_rfl) (by kernel_rfl) (by kernel_rfl) (by kernel_rfl) (fun _ _ _ h => h) rfl undef (M126.sub (.cons_cons _ (.cons_cons _ (.cons_cons _ (.cons_cons _ (.cons_cons _ (.cons_cons _ (.cons_cons _ .slnil)))))))) (.inr ⟨rfl, rfl⟩) ?_
                  refine WD_take 12 rfl (by kernel_rfl) (by kernel_rfl) (by kernel_rfl) (by kernel_rfl) (by kernel_rfl) (fun _ _ _ h => h) rfl undef (M126.sub (.cons_cons _ (.cons_cons _ (.cons_cons _ (.cons_cons _ (.cons_cons _ (.cons_cons _ (.cons_cons _ .slnil)))))))) (.inr ⟨rfl, rfl⟩) ?_
                  refine WD_take 13 rfl (by kernel_rfl) (by kernel_rfl) (by kernel_rfl) (by kernel_rfl) (by kernel_rfl) (fun _ _ _ h => h) rfl undef (M126.sub (.cons_cons _ (.cons_cons _ (.cons_cons _ (.cons_cons _ (.cons_cons _ (.cons_cons _ (.cons_cons _ .slnil)))))))) (.inr ⟨rfl, rfl⟩) ?_
                  refine WD_take 14 rfl (by kernel_rfl) (by kernel_rfl) (by kernel_rfl) (by kernel_rfl) (by kernel_rfl) (fun _ _ _ h => h) rfl undef (M126.sub (.cons_cons _ (.cons_cons _ (.cons_cons _ (.cons_cons _ (.cons_cons _ (.cons_cons _ (.cons_cons _ .slnil)))))))) (.inr ⟨rfl, rfl⟩) ?_
                  refine WD_take 15 rfl (by kernel_rfl) (by kernel_rfl) (by kernel_rfl) (by kernel_rfl) (by kernel_rfl) (fun _ _ _ h => h) rfl undef (M126.sub (.cons_cons _ (.cons_cons _ (.cons_cons _ (.cons_cons _ (.cons_cons _ (.cons_cons _ (.cons_cons _ .slnil)))))))) (.inr ⟨rfl, rfl⟩) ?_
                  refine WD_take 16 rfl (by kernel_rfl) (by kernel_rfl) (by kernel_rfl) (by kernel_rfl) (by kernel_rfl) (fun _ _ _ h => h) rfl undef (M126.sub (.cons_cons _ (.cons_cons _ (.cons_cons _ (.cons_cons _ (.cons_cons _ (.cons_cons _ (.cons_cons _ .slnil)))))))) (.inr ⟨rfl, rfl⟩) ?_
                  refine WD_take 17 rfl (by kernel_rfl) (by kernel_rfl) (by kernel_rfl) (by kernel_rfl) (by kernel_rfl) (fun _ _ _ h => h) rfl undef (M126.sub (.cons_cons _ (.cons_cons _ (.cons_cons _ (.cons_cons _ (.cons_cons _ (.cons_cons _ (.cons_cons _ .slnil)))))))) (.inr ⟨rfl, rfl⟩) ?_
                  refine WD_take' 18 rfl (by kernel_rfl) (by kernel_rfl) (by kernel_rfl) (by kernel_rfl) (by kernel_rfl) rfl (fun _ _ _ h => h) rfl _ (M126.sub (.cons_cons _ (.cons_cons _ (.cons_cons _ (.cons_cons _ (.cons_cons _ (.cons_cons _ (.cons_cons _ .slnil)))))))) rfl (fun w_ hS => L_pick rfl rfl false rfl (.bool false) rfl  ⟨rfl, rfl⟩) ?_
                  refine WD_done (by kernel_rfl) ?_
                  refine thenN ?_
                  obtain rfl := someE hz125
                  exact ⟨_, updL_same _ _ ⟨rfl, rfl, rfl, rfl, rfl, rfl, rfl, rfl, trivial⟩, M126⟩
              · rintro _ W133 ⟨ρ135, rfl, M134⟩
                refine WC_ifb rfl (fun c136 => ?_) (fun c136 => ?_)
                · replace H121 := ifP c136 H121
                  refine WC_skip ?_
                  refine thenN ?_
                  refine WC_block ?_
                  refine WC_region ?_
                  refine WL_of (L_move rfl rfl (.int .i64 x117) rfl ?_)
                  refine WL_of (L_bin rfl rfl (.int .i64 x117) (.int .i64 1) rfl rfl (.int .i64 (wrap64 (x117 + 1))) (B_add _ _ _ x117 1) ?_)
                  refine WL_of (L_assign rfl rfl (.int .i64 (wrap64 (x117 + 1))) rfl ?_)
                  refine WL_nil ?_
                  refine blkN ?_
                  refine thenN ?_
                  exact ⟨k122, by omega, wrap64 (x117 + 1), _, updL_same _ _ ⟨rfl, rfl, rfl, rfl, rfl, rfl, rfl, trivial⟩, M134, (by omega), H121⟩
                · replace H121 := ifN (by rw [c136]; simp) H121
                  refine WC_exit ?_
                  refine thenE ?_
                  refine thenE ?_
                  refine blkX ?_
                  refine thenN ?_
                  refine WC_seq ?_
                  refine WC_region ?_
                  refine WL_of (L_build' rfl rfl [] rfl Tryd.underlying24 zr24 pl24 [.string (sv (lit [])), .int .i64 0, .slice none 0 0] rfl ?_)
                  refine WL_of (L_move rfl rfl (.int .i64 x117) rfl ?_)
                  have M137 : Mem W133 [(one g1, W2), (one g57, W61), (S45, W41), (S49, W41), (S53, W41), (one g32, W41), (Fr, w)] := M134.front [(one g57, W61), (S45, W41), (S49, W41), (S53, W41), (one g32, W41)] rfl
                  refine WL_of (L_store M137 rfl (.agg #[.string (sv (lit [])), .int .i64 0, .slice none 0 0]) rfl [.string (sv (lit [])), .int .i64 0, .slice none 0 0] rfl 3 sz24 rfl rfl rfl B3 rfl rfl [.string (sv (lit [])), .int .i64 0, .slice none 0 0] rfl ?_)
                  intro W138 B139 M140
                  refine WL_of (L_assign rfl rfl (.int .i64 150) rfl ?_)
                  refine WL_of (L_assign rfl rfl (.int .i64 x117) rfl ?_)
                  refine WL_nil ?_
                  refine thenN ?_
                  refine WC_ret ?_
                  refine thenR ?_
                  obtain rfl := someE H121
                  have M141 : Mem W138 [(none0, W138), (one g1, W138), (one g57, W61), (S45, W41), (S49, W41), (S53, W41), (one g32, W41), (Fr, w)] := M140.empty
                  have M142 : Mem W138 [(Fr, w), (none0, W138), (one g1, W138), (one g57, W61), (S45, W41), (S49, W41), (S53, W41), (one g32, W41)] := M141.front [(none0, W138), (one g1, W138), (one g57, W61), (S45, W41), (S49, W41), (S53, W41), (one g32, W41)] rfl
                  have M143 : Mem W138 [(none0, W138), (Fr, w), (one g1, W138), (one g57, W61), (S45, W41), (S49, W41), (S53, W41), (one g32, W41)] := M142.front [(Fr, w)] rfl
                  have M144 : Mem W138 [(none0, W138), (Fr, w)] := M143.sub (List.prefix_append [(none0, W138), (Fr, w)] [(one g1, W138), (one g57, W61), (S45, W41), (S49, W41), (S53, W41), (one g32, W41)]).sublist
                  refine retR [.agg #[.string (sv (lit [])), .int .i64 0, .slice none 0 0], .int .i64 150, .int .i64 x117] ⟨⟨_, rfl, R_loadVarN Tryd.underlying24 rfl B139.el (M140.agree 0 rfl) sz24 rfl⟩, rfl, rfl, trivial⟩ ?_
                  exact ⟨none, 0, none0, rfl, M144, OR.nil W138 none0 W138 none0 44⟩
          · replace H := ifN c114 H
            refine WC_skip ?_
            refine thenN ?_
            refine WC_seq ?_
            refine WC_region ?_
            refine WL_of (L_loadN rfl rfl Tryd.underlying24 rfl B62.el (M113.agree 0 rfl) 0 rfl 3 sz24 [.string (sv r39.1.Name), .int .i64 r39.1.Pivot, .slice A43 r39.1.Steps.length c44] rfl rfl ?_)
            have M145 : Mem W111 [(one g1, W2), (one g57, W61), (S45, W41), (S49, W41), (S53, W41), (one g32, W41), (Fr, w)] := M113.front [(one g57, W61), (S45, W41), (S49, W41), (S53, W41), (one g32, W41)] rfl
            refine WL_of (L_store M145 rfl (.agg #[.string (sv r39.1.Name), .int .i64 r39.1.Pivot, .slice A43 r39.1.Steps.length c44]) rfl [.string (sv r39.1.Name), .int .i64 r39.1.Pivot, .slice A43 r39.1.Steps.length c44] rfl 3 sz24 rfl rfl rfl B3 rfl rfl [.string (sv r39.1.Name), .int .i64 r39.1.Pivot, .slice A43 r39.1.Steps.length c44] rfl ?_)
            intro W146 B147 M148
            refine WL_of (L_assign rfl rfl (.int .i64 0) rfl ?_)
            refine WL_of (L_assign rfl rfl (.int .i64 0) rfl ?_)
            refine WL_nil ?_
            refine thenN ?_
            refine WC_ret ?_
            obtain rfl := someE H
            have M149 : Mem W146 [(S45, W41), (one g1, W146), (one g57, W61), (S49, W41), (S53, W41), (one g32, W41), (Fr, w)] := M148.front [(one g1, W146), (one g57, W61)] rfl
            have M150 : Mem W146 [(S45, W146), (one g1, W146), (one g57, W61), (S49, W41), (S53, W41), (one g32, W41), (Fr, w)] := M149.rebase
            have M151 : Mem W146 [(Fr, w), (S45, W146), (one g1, W146), (one g57, W61), (S49, W41), (S53, W41), (one g32, W41)] := M150.front [(S45, W146), (one g1, W146), (one g57, W61), (S49, W41), (S53, W41), (one g32, W41)] rfl
            have M152 : Mem W146 [(S45, W146), (Fr, w), (one g1, W146), (one g57, W61), (S49, W41), (S53, W41), (one g32, W41)] := M151.front [(Fr, w)] rfl
            have M153 : Mem W146 [(S45, W146), (Fr, w)] := M152.sub (List.prefix_append [(S45, W146), (Fr, w)] [(one g1, W146), (one g57, W61), (S49, W41), (S53, W41), (one g32, W41)]).sublist
            refine retR [.agg #[.string (sv r39.1.Name), .int .i64 r39.1.Pivot, .slice A43 r39.1.Steps.length c44], .int .i64 0, .int .i64 0] ⟨⟨_, rfl, R_loadVarN Tryd.underlying24 rfl B147.el (M148.agree 0 rfl) sz24 rfl⟩, rfl, rfl, trivial⟩ ?_
            exact ⟨A43, c44, S45, rfl, M153, (ho46.agree (M149.agree 0 rfl)).map (fun _ _ h => h)⟩

/-! ### annals/annalslaw15.one: function 15 -/
def annalslaw15_one  : Option api_Plan :=
  (some (⟨(lit [97]), 0, ([(⟨(lit [98]), (lit [99]), 1⟩ : api_Step)] : List api_Step)⟩ : api_Plan))
set_option maxRecDepth 100000 in
set_option maxHeartbeats 4000000 in
theorem annalslaw15_one_ok  (r : api_Plan) (w : World) (Fr : BS) (hG : Gl Fr w) (hF : ∀ b, Fr b → b < w.heap.size)  (H : annalslaw15_one = some r) :
    CallsR Tryd.prog 15 #[] w (fun v w' => ∃ (A0 : Option Addr) (c0 : Nat) (S0 : BS), v = .agg #[.string (sv r.Name), .int .i64 r.Pivot, .slice A0 (List.length r.Steps) c0] ∧ Mem w' [(S0, w'), (Fr, w)] ∧ OR w' S0 w' none0 44 A0 c0 r.Steps) := by
  have M0 := Mem.start w Fr hF
  refine enterZ (args := []) [.cell 0 24] Tryd.func15 rfl rfl rfl rfl ?_
  unfold annalslaw15_one at H
  refine WC_seq ?_
  refine WC_region ?_
  refine WL_of (L_alloc M0 rfl rfl zr24 [.string (sv (lit [])), .int .i64 0, .slice none 0 0] rfl ?_)
  intro g1 W2 B3 M4
  refine WL_nil ?_
  refine thenN ?_
  refine WC_seq ?_
  refine WC_region ?_
  refine WL_of (L_build' rfl rfl [(0, .string (sv (lit [98]))), (1, .string (sv (lit [99]))), (2, .int .i64 1)] rfl Tryd.underlying44 zr44 pl44 [.string (sv (lit [98])), .string (sv (lit [99])), .int .i64 1] rfl ?_)
  refine WL_of (L_buildSlice' M4 rfl rfl [(0, .agg #[.string (sv (lit [98])), .string (sv (lit [99])), .int .i64 1])] rfl Tryd.underlying22 sz44 zr44 rfl rfl [.string (sv (lit [98])), .string (sv (lit [99])), .int .i64 1] (by kernel_rfl) ?_)
  intro g5 W6 B7 M8
  refine WL_of (L_build' rfl rfl [(0, .string (sv (lit [97]))), (2, .slice (some ⟨g5, 0, none⟩) 1 1)] rfl Tryd.underlying24 zr24 pl24 [.string (sv (lit [97])), .int .i64 0, .slice (some ⟨g5, 0, none⟩) 1 1] rfl ?_)
  have M9 : Mem W6 [(one g1, W2), (one g5, W6), (Fr, w)] := M8.front [(one g5, W6)] rfl
  refine WL_of (L_store M9 rfl (.agg #[.string (sv (lit [97])), .int .i64 0, .slice (some ⟨g5, 0, none⟩) 1 1]) rfl [.string (sv (lit [97])), .int .i64 0, .slice (some ⟨g5, 0, none⟩) 1 1] rfl 3 sz24 rfl rfl rfl B3 rfl rfl [.string (sv (lit [97])), .int .i64 0, .slice (some ⟨g5, 0, none⟩) 1 1] rfl ?_)
  intro W10 B11 M12
  refine WL_nil ?_
  refine thenN ?_
  refine WC_ret ?_
  obtain rfl := someE H
  have ho13 : OR W6 (one g5) W6 none0 44 (some ⟨g5, 0, none⟩) 1 ([(⟨(lit [98]), (lit [99]), 1⟩ : api_Step)] : List api_Step) := OR.lit (xs := ([(⟨(lit [98]), (lit [99]), 1⟩ : api_Step)] : List api_Step)) (css := [[.string (sv (lit [98])), .string (sv (lit [99])), .int .i64 1]]) B7 (⟨rfl, trivial⟩) rfl (Nat.le_of_ble_eq_true rfl)
  have M14 : Mem W10 [(one g5, W6), (one g1, W10), (Fr, w)] := M12.front [(one g1, W10)] rfl
  have M15 : Mem W10 [(one g5, W10), (one g1, W10), (Fr, w)] := M14.rebase
  have M16 : Mem W10 [(Fr, w), (one g5, W10), (one g1, W10)] := M15.front [(one g5, W10), (one g1, W10)] rfl
  have M17 : Mem W10 [(one g5, W10), (Fr, w), (one g1, W10)] := M16.front [(Fr, w)] rfl
  have M18 : Mem W10 [(one g5, W10), (Fr, w)] := M17.sub (List.prefix_append [(one g5, W10), (Fr, w)] [(one g1, W10)]).sublist
  refine retR [.agg #[.string (sv (lit [97])), .int .i64 0, .slice (some ⟨g5, 0, none⟩) 1 1]] ⟨⟨_, rfl, R_loadVarN Tryd.underlying24 rfl B11.el (M12.agree 0 rfl) sz24 rfl⟩, trivial⟩ ?_
  exact ⟨(some ⟨g5, 0, none⟩), 1, one g5, rfl, M18, (ho13.agree (M14.agree 0 rfl)).map (fun _ _ h => h)⟩

/-! ### annals/plan.Check: function 9 -/
def plan_Check (k : Nat) (a0 : api_Plan) : Option Int :=
  (plan_check k a0).bind (fun (r6 : (Int × Int)) => (some r6.1))
set_option maxRecDepth 100000 in
set_option maxHeartbeats 4000000 in
theorem plan_Check_ok (k : Nat) (a0 : api_Plan) (Aa0_0 : Option Addr) (ca0_0 : Nat) (r : Int) (w : World) (Fr : BS) (hG : Gl Fr w) (hF : ∀ b, Fr b → b < w.heap.size) (ha0_0 : SR w Fr w Fr Aa0_0 ca0_0 a0.Steps) (H : plan_Check k a0 = some r) :
    CallsR Tryd.prog 9 #[.agg #[.string (sv a0.Name), .int .i64 a0.Pivot, .slice Aa0_0 a0.Steps.length ca0_0]] w (fun v w' => v = .int .i64 r ∧ Mem w' [(Fr, w)]) := by
  have M0 := Mem.start w Fr hF
  refine enterZ (args := [.agg #[.string (sv a0.Name), .int .i64 a0.Pivot, .slice Aa0_0 a0.Steps.length ca0_0]]) [.tmp 2] Tryd.func9 rfl rfl rfl rfl ?_
  unfold plan_Check at H
  refine WC_seq ?_
  refine WC_region ?_
  refine WL_of (L_box M0 rfl rfl (.agg #[.string (sv a0.Name), .int .i64 a0.Pivot, .slice Aa0_0 a0.Steps.length ca0_0]) rfl [.string (sv a0.Name), .int .i64 a0.Pivot, .slice Aa0_0 a0.Steps.length ca0_0] rfl ?_)
  intro g1 W2 B3 M4
  refine WL_of (L_assign rfl rfl (.int .i64 0) rfl ?_)
  refine WL_nil ?_
  refine thenN ?_
  refine WC_seq ?_
  refine WC_region ?_
  refine WL_of (L_loadN rfl rfl Tryd.underlying24 rfl B3.el (M4.agree 0 rfl) 0 rfl 3 sz24 [.string (sv a0.Name), .int .i64 a0.Pivot, .slice Aa0_0 a0.Steps.length ca0_0] rfl rfl ?_)
  obtain ⟨r6, hr7, H⟩ := bindS H
  refine WL_of (L_call' rfl rfl cf19 [.agg #[.string (sv a0.Name), .int .i64 a0.Pivot, .slice Aa0_0 a0.Steps.length ca0_0]] rfl (plan_check_ok k a0 Aa0_0 ca0_0 r6 _ (Un [(one g1, W2), (Fr, w)]) (hG.call M4 1 rfl) M4.frame ((ha0_0.agree (M4.agree 1 rfl) (M4.agree 1 rfl)).sub (Un.at 1 rfl) (Un.at 1 rfl)) hr7) ?_)
  rintro _ W8 ⟨rfl, M9⟩
  have M10 : Mem W8 [(one g1, W2), (Fr, w)] := M4.back (New := []) M9
  refine WL_of (L_move rfl rfl (.tuple #[.int .i64 r6.1, .int .i64 r6.2]) rfl ?_)
  refine WL_of (L_extract rfl rfl [.int .i64 r6.1, .int .i64 r6.2] rfl (.int .i64 r6.1) rfl ?_)
  refine WL_of (L_extract rfl rfl [.int .i64 r6.1, .int .i64 r6.2] rfl (.int .i64 r6.2) rfl ?_)
  refine WL_of (L_assign rfl rfl (.int .i64 r6.1) rfl ?_)
  refine WL_of (L_assign rfl rfl (.int .i64 r6.2) rfl ?_)
  refine WL_nil ?_
  refine thenN ?_
  refine WC_seq ?_
  refine WC_region ?_
  refine WL_of (L_move rfl rfl (.int .i64 r6.1) rfl ?_)
  refine WL_of (L_assign rfl rfl (.int .i64 r6.1) rfl ?_)
  refine WL_nil ?_
  refine thenN ?_
  refine WC_ret ?_
  obtain rfl := someE H
  have M11 : Mem W8 [(Fr, w), (one g1, W2)] := M10.front [(one g1, W2)] rfl
  have M12 : Mem W8 [(Fr, w)] := M11.sub (List.prefix_append [(Fr, w)] [(one g1, W2)]).sublist
  refine retR [.int .i64 r6.1] ⟨rfl, trivial⟩ ?_
  exact ⟨rfl, M12⟩

/-! ### annals/plan.Print: function 7 -/
def plan_Print (k : Nat) (a0 : api_Plan) : Option (Str × Int) :=
  (plan_Check k a0).bind (fun (r6 : Int) => (if (r6 : Int) ≠ 0 then (some ((lit []), r6)) else (plan_write k a0).bind (fun (r15 : Str) => (some (r15, 0)))))
set_option maxRecDepth 100000 in
set_option maxHeartbeats 4000000 in
theorem plan_Print_ok (k : Nat) (a0 : api_Plan) (Aa0_0 : Option Addr) (ca0_0 : Nat) (r : Str × Int) (w : World) (Fr : BS) (hG : Gl Fr w) (hF : ∀ b, Fr b → b < w.heap.size) (ha0_0 : SR w Fr w Fr Aa0_0 ca0_0 a0.Steps) (H : plan_Print k a0 = some r) :
    CallsR Tryd.prog 7 #[.agg #[.string (sv a0.Name), .int .i64 a0.Pivot, .slice Aa0_0 a0.Steps.length ca0_0]] w (fun v w' => v = .tuple #[.string (sv r.1), .int .i64 r.2] ∧ Mem w' [(Fr, w)]) := by
  have M0 := Mem.start w Fr hF
  refine enterZ (args := [.agg #[.string (sv a0.Name), .int .i64 a0.Pivot, .slice Aa0_0 a0.Steps.length ca0_0]]) [.tmp 2, .tmp 3] Tryd.func7 rfl rfl rfl rfl ?_
  unfold plan_Print at H
  refine WC_seq ?_
  refine WC_region ?_
  refine WL_of (L_box M0 rfl rfl (.agg #[.string (sv a0.Name), .int .i64 a0.Pivot, .slice Aa0_0 a0.Steps.length ca0_0]) rfl [.string (sv a0.Name), .int .i64 a0.Pivot, .slice Aa0_0 a0.Steps.length ca0_0] rfl ?_)
  intro g1 W2 B3 M4
  refine WL_of (L_assign rfl rfl (.string (sv (lit []))) rfl ?_)
  refine WL_of (L_assign rfl rfl (.int .i64 0) rfl ?_)
  refine WL_nil ?_
  refine thenN ?_
  refine WC_seq ?_
  refine WC_seq ?_
  refine WC_region ?_
  refine WL_of (L_loadN rfl rfl Tryd.underlying24 rfl B3.el (M4.agree 0 rfl) 0 rfl 3 sz24 [.string (sv a0.Name), .int .i64 a0.Pivot, .slice Aa0_0 a0.Steps.length ca0_0] rfl rfl ?_)
  obtain ⟨r6, hr7, H⟩ := bindS H
  refine WL_of (L_call' rfl rfl cf9 [.agg #[.string (sv a0.Name), .int .i64 a0.Pivot, .slice Aa0_0 a0.Steps.length ca0_0]] rfl (plan_Check_ok k a0 Aa0_0 ca0_0 r6 _ (Un [(one g1, W2), (Fr, w)]) (hG.call M4 1 rfl) M4.frame ((ha0_0.agree (M4.agree 1 rfl) (M4.agree 1 rfl)).sub (Un.at 1 rfl) (Un.at 1 rfl)) hr7) ?_)
  rintro _ W8 ⟨rfl, M9⟩
  have M10 : Mem W8 [(one g1, W2), (Fr, w)] := M4.back (New := []) M9
  refine WL_of (L_assign rfl rfl (.int .i64 r6) rfl ?_)
  refine WL_nil ?_
  refine thenN ?_
  refine WC_seq ?_
  refine WC_region ?_
  refine WL_of (L_move rfl rfl (.int .i64 r6) rfl ?_)
  refine WL_of (L_bin rfl rfl (.int .i64 r6) (.int .i64 0) rfl rfl (.bool (decide ((r6 : Int) ≠ 0))) (B_neq _ _ _ _ r6 0) ?_)
  refine WL_nil ?_
  refine thenN ?_
  refine WC_if (p := (r6 : Int) ≠ 0) rfl (fun c11 => ?_) (fun c11 => ?_)
  · replace H := ifP c11 H
    refine WC_seq ?_
    refine WC_region ?_
    refine WL_of (L_move rfl rfl (.int .i64 r6) rfl ?_)
    refine WL_of (L_assign rfl rfl (.string (sv (lit []))) rfl ?_)
    refine WL_of (L_assign rfl rfl (.int .i64 r6) rfl ?_)
    refine WL_nil ?_
    refine thenN ?_
    refine WC_ret ?_
    refine thenR ?_
    obtain rfl := someE H
    have M12 : Mem W8 [(Fr, w), (one g1, W2)] := M10.front [(one g1, W2)] rfl
    have M13 : Mem W8 [(Fr, w)] := M12.sub (List.prefix_append [(Fr, w)] [(one g1, W2)]).sublist
    refine retR [.string (sv (lit [])), .int .i64 r6] ⟨rfl, rfl, trivial⟩ ?_
    exact ⟨rfl, M13⟩
  · replace H := ifN c11 H
    refine WC_skip ?_
    refine thenN ?_
    refine WC_seq ?_
    refine WC_region ?_
    refine WL_of (L_loadN rfl rfl Tryd.underlying24 rfl B3.el (M10.agree 0 rfl) 0 rfl 3 sz24 [.string (sv a0.Name), .int .i64 a0.Pivot, .slice Aa0_0 a0.Steps.length ca0_0] rfl rfl ?_)
    obtain ⟨r15, hr16, H⟩ := bindS H
    refine WL_of (L_call' rfl rfl cf18 [.agg #[.string (sv a0.Name), .int .i64 a0.Pivot, .slice Aa0_0 a0.Steps.length ca0_0]] rfl (plan_write_ok k a0 Aa0_0 ca0_0 r15 _ (Un [(one g1, W2), (Fr, w)]) (hG.call M10 1 rfl) M10.frame ((ha0_0.agree (M10.agree 1 rfl) (M10.agree 1 rfl)).sub (Un.at 1 rfl) (Un.at 1 rfl)) hr16) ?_)
    rintro _ W17 ⟨rfl, M18⟩
    have M19 : Mem W17 [(one g1, W2), (Fr, w)] := M10.back (New := []) M18
    refine WL_of (L_assign rfl rfl (.string (sv r15)) rfl ?_)
    refine WL_of (L_assign rfl rfl (.int .i64 0) rfl ?_)
    refine WL_nil ?_
    refine thenN ?_
    refine WC_ret ?_
    obtain rfl := someE H
    have M20 : Mem W17 [(Fr, w), (one g1, W2)] := M19.front [(one g1, W2)] rfl
    have M21 : Mem W17 [(Fr, w)] := M20.sub (List.prefix_append [(Fr, w)] [(one g1, W2)]).sublist
    refine retR [.string (sv r15), .int .i64 0] ⟨rfl, rfl, trivial⟩ ?_
    exact ⟨rfl, M21⟩

/-! ### annals/annalslaw15.num: function 8 -/
def annalslaw15_num (a0 : Int) : Option Int :=
  (some a0)
set_option maxRecDepth 100000 in
set_option maxHeartbeats 4000000 in
theorem annalslaw15_num_ok (a0 : Int) (r : Int) (w : World) (Fr : BS) (hG : Gl Fr w) (hF : ∀ b, Fr b → b < w.heap.size)  (H : annalslaw15_num a0 = some r) :
    CallsR Tryd.prog 8 #[.int .i64 a0] w (fun v w' => v = .int .i64 r ∧ Mem w' [(Fr, w)]) := by
  have M0 := Mem.start w Fr hF
  refine enterZ (args := [.int .i64 a0]) [.tmp 2] Tryd.func8 rfl rfl rfl rfl ?_
  unfold annalslaw15_num at H
  refine WC_seq ?_
  refine WC_region ?_
  refine WL_of (L_assign rfl rfl (.int .i64 0) rfl ?_)
  refine WL_nil ?_
  refine thenN ?_
  refine WC_seq ?_
  refine WC_region ?_
  refine WL_of (L_move rfl rfl (.int .i64 a0) rfl ?_)
  refine WL_of (L_assign rfl rfl (.int .i64 a0) rfl ?_)
  refine WL_nil ?_
  refine thenN ?_
  refine WC_ret ?_
  obtain rfl := someE H
  refine retR [.int .i64 a0] ⟨rfl, trivial⟩ ?_
  exact ⟨rfl, M0⟩

/-! ### annals/annalsref15.Same: function 16 -/
def annalsref15_Same.l0 : Nat → api_Plan → api_Plan → Bool → Int → Option Bool
  | 0, _, _, _, _ => none
  | k + 1, a0, a1, x23, x24 => (if (x24 : Int) < (a0.Steps.length : Int) then (atL a0.Steps x24).bind (fun q33 => (atL a1.Steps x24).bind (fun q42 => (if q33 ≠ q42 then (some false) else (annalsref15_Same.l0 k a0 a1 x23 (wrap64 (x24 + 1)))))) else (some true))
def annalsref15_Same (k : Nat) (a0 : api_Plan) (a1 : api_Plan) : Option Bool :=
  ((if (a0.Name : Str) ≠ a1.Name then (some true) else (if (a0.Pivot : Int) ≠ a1.Pivot then (some true) else (some (decide (((a0.Steps.length : Int) : Int) ≠ (a1.Steps.length : Int))))))).bind (fun (z9 : Bool) => (if z9 = true then (some false) else (annalsref15_Same.l0 k a0 a1 false 0)))
set_option maxRecDepth 100000 in
set_option maxHeartbeats 4000000 in
theorem annalsref15_Same_ok (k : Nat) (a0 : api_Plan) (Aa0_0 : Option Addr) (ca0_0 : Nat) (a1 : api_Plan) (Aa1_0 : Option Addr) (ca1_0 : Nat) (r : Bool) (w : World) (Fr : BS) (hG : Gl Fr w) (hF : ∀ b, Fr b → b < w.heap.size) (ha0_0 : SR w Fr w Fr Aa0_0 ca0_0 a0.Steps) (ha1_0 : SR w Fr w Fr Aa1_0 ca1_0 a1.Steps) (H : annalsref15_Same k a0 a1 = some r) :
    CallsR Tryd.prog 16 #[.agg #[.string (sv a0.Name), .int .i64 a0.Pivot, .slice Aa0_0 a0.Steps.length ca0_0], .agg #[.string (sv a1.Name), .int .i64 a1.Pivot, .slice Aa1_0 a1.Steps.length ca1_0]] w (fun v w' => v = .bool r ∧ Mem w' [(Fr, w)]) := by
  have M0 := Mem.start w Fr hF
  refine enterZ (args := [.agg #[.string (sv a0.Name), .int .i64 a0.Pivot, .slice Aa0_0 a0.Steps.length ca0_0], .agg #[.string (sv a1.Name), .int .i64 a1.Pivot, .slice Aa1_0 a1.Steps.length ca1_0]]) [.tmp 4] Tryd.func16 rfl rfl rfl rfl ?_
  unfold annalsref15_Same at H
  refine WC_seq ?_
  refine WC_region ?_
  refine WL_of (L_box M0 rfl rfl (.agg #[.string (sv a0.Name), .int .i64 a0.Pivot, .slice Aa0_0 a0.Steps.length ca0_0]) rfl [.string (sv a0.Name), .int .i64 a0.Pivot, .slice Aa0_0 a0.Steps.length ca0_0] rfl ?_)
  intro g1 W2 B3 M4
  refine WL_of (L_box M4 rfl rfl (.agg #[.string (sv a1.Name), .int .i64 a1.Pivot, .slice Aa1_0 a1.Steps.length ca1_0]) rfl [.string (sv a1.Name), .int .i64 a1.Pivot, .slice Aa1_0 a1.Steps.length ca1_0] rfl ?_)
  intro g5 W6 B7 M8
  refine WL_of (L_assign rfl rfl (.bool false) rfl ?_)
  refine WL_nil ?_
  refine thenN ?_
  refine WC_seq ?_
  obtain ⟨z9, hz10, H⟩ := bindS H
  refine WC_cut (fun ρ w_ => ∃  (ρ0 : Nat → Value), ρ = updL ρ0 [(2, .pointer (some ⟨g1, 0, none⟩)), (3, .pointer (some ⟨g5, 0, none⟩)), (4, .bool false), (26, .bool z9)] ∧ Mem w_ [(one g5, W6), (one g1, W2), (Fr, w)]) ?_ ?_
  · refine WC_region ?_
    refine WL_of (L_field rfl rfl fd24_0 ⟨g1, 0, none⟩ rfl ?_)
    refine WL_of (L_load1 rfl rfl Tryd.underlying9 rfl B3.el (M8.agree 1 rfl) 0 rfl (.string (sv a0.Name)) rfl ?_)
    refine WL_of (L_field rfl rfl fd24_0 ⟨g5, 0, none⟩ rfl ?_)
    refine WL_of (L_load1 rfl rfl Tryd.underlying9 rfl B7.el (M8.agree 0 rfl) 0 rfl (.string (sv a1.Name)) rfl ?_)
    refine WL_of (L_bin rfl rfl (.string (sv a0.Name)) (.string (sv a1.Name)) rfl rfl (.bool (decide ((a0.Name : Str) ≠ a1.Name))) (B_sneq _ _ _ a0.Name a1.Name) ?_)
    refine WL_of (L_move rfl rfl (.bool (decide ((a0.Name : Str) ≠ a1.Name))) rfl ?_)
    by_cases c11 : (a0.Name : Str) ≠ a1.Name
    · replace hz10 := ifP c11 hz10
      refine WL_known 11 true (vtrue c11) ?_
      refine WL_of (WO_off rfl rfl ?_)
      refine WL_of (WO_off rfl rfl ?_)
      refine WL_of (WO_off rfl rfl ?_)
      refine WL_of (WO_off rfl rfl ?_)
      refine WL_of (WO_off rfl rfl ?_)
      refine WL_of (L_pick rfl rfl true rfl (.bool true) rfl ?_)
      refine WL_of (L_move rfl rfl (.bool true) rfl ?_)
      refine WL_of (WO_off rfl rfl ?_)
      refine WL_of (WO_off rfl rfl ?_)
      refine WL_of (WO_off rfl rfl ?_)
      refine WL_of (WO_off rfl rfl ?_)
      refine WL_of (WO_off rfl rfl ?_)
      refine WL_of (WO_off rfl rfl ?_)
      refine WL_of (WO_off rfl rfl ?_)
      refine WL_of (L_pick rfl rfl true rfl (.bool true) rfl ?_)
      refine WL_nil ?_
      refine thenN ?_
      obtain rfl := someE hz10
      exact ⟨_, updL_same _ _ ⟨rfl, rfl, rfl, rfl, trivial⟩, M8⟩
    · replace hz10 := ifN c11 hz10
      refine WL_known 11 false (vfalse c11) ?_
      refine WL_of (L_field rfl rfl fd24_1 ⟨g1, 0, none⟩ rfl ?_)
      refine WL_of (L_load1 rfl rfl Tryd.underlying3 rfl B3.el (M8.agree 1 rfl) 1 rfl (.int .i64 a0.Pivot) rfl ?_)
      refine WL_of (L_field rfl rfl fd24_1 ⟨g5, 0, none⟩ rfl ?_)
      refine WL_of (L_load1 rfl rfl Tryd.underlying3 rfl B7.el (M8.agree 0 rfl) 1 rfl (.int .i64 a1.Pivot) rfl ?_)
      refine WL_of (L_bin rfl rfl (.int .i64 a0.Pivot) (.int .i64 a1.Pivot) rfl rfl (.bool (decide ((a0.Pivot : Int) ≠ a1.Pivot))) (B_neq _ _ _ _ a0.Pivot a1.Pivot) ?_)
      refine WL_of (L_pick rfl rfl false rfl (.bool (decide ((a0.Pivot : Int) ≠ a1.Pivot))) rfl ?_)
      refine WL_of (L_move rfl rfl (.bool (decide ((a0.Pivot : Int) ≠ a1.Pivot))) rfl ?_)
      by_cases c12 : (a0.Pivot : Int) ≠ a1.Pivot
      · replace hz10 := ifP c12 hz10
        refine WL_known 18 true (vtrue c12) ?_
        refine WL_of (WO_off rfl rfl ?_)
        refine WL_of (WO_off rfl rfl ?_)
        refine WL_of (WO_off rfl rfl ?_)
        refine WL_of (WO_off rfl rfl ?_)
        refine WL_of (WO_off rfl rfl ?_)
        refine WL_of (WO_off rfl rfl ?_)
        refine WL_of (WO_off rfl rfl ?_)
        refine WL_of (L_pick rfl rfl true rfl (.bool true) rfl ?_)
        refine WL_nil ?_
        refine thenN ?_
        obtain rfl := someE hz10
        exact ⟨_, updL_same _ _ ⟨rfl, rfl, rfl, rfl, trivial⟩, M8⟩
      · replace hz10 := ifN c12 hz10
        refine WL_known 18 false (vfalse c12) ?_
        refine WL_of (L_field rfl rfl fd24_2 ⟨g1, 0, none⟩ rfl ?_)
        refine WL_of (L_load1 rfl rfl Tryd.underlying22 rfl B3.el (M8.agree 1 rfl) 2 rfl (.slice Aa0_0 a0.Steps.length ca0_0) rfl ?_)
        refine WL_of (L_len rfl rfl (.slice Aa0_0 a0.Steps.length ca0_0) rfl (a0.Steps.length) (N_slice Tryd.underlying22 _ _ _) ?_)
        refine WL_of (L_field rfl rfl fd24_2 ⟨g5, 0, none⟩ rfl ?_)
        refine WL_of (L_load1 rfl rfl Tryd.underlying22 rfl B7.el (M8.agree 0 rfl) 2 rfl (.slice Aa1_0 a1.Steps.length ca1_0) rfl ?_)
        refine WL_of (L_len rfl rfl (.slice Aa1_0 a1.Steps.length ca1_0) rfl (a1.Steps.length) (N_slice Tryd.underlying22 _ _ _) ?_)
        refine WL_of (L_bin rfl rfl (.int .i64 (a0.Steps.length : Int)) (.int .i64 (a1.Steps.length : Int)) rfl rfl (.bool (decide (((a0.Steps.length : Int) : Int) ≠ (a1.Steps.length : Int)))) (B_neq _ _ _ _ (a0.Steps.length : Int) (a1.Steps.length : Int)) ?_)
        refine WL_of (L_pick rfl rfl false rfl (.bool (decide (((a0.Steps.length : Int) : Int) ≠ (a1.Steps.length : Int)))) rfl ?_)
        refine WL_nil ?_
        refine thenN ?_
        obtain rfl := someE hz10
        exact ⟨_, updL_same _ _ ⟨rfl, rfl, rfl, rfl, trivial⟩, M8⟩
  · rintro _ W13 ⟨ρ15, rfl, M14⟩
    refine WC_ifb rfl (fun c16 => ?_) (fun c16 => ?_)
    · replace H := ifP c16 H
      refine WC_seq ?_
      refine WC_region ?_
      refine WL_of (L_assign rfl rfl (.bool false) rfl ?_)
      refine WL_nil ?_
      refine thenN ?_
      refine WC_ret ?_
      refine thenR ?_
      obtain rfl := someE H
      have M17 : Mem W13 [(Fr, w), (one g5, W6), (one g1, W2)] := M14.front [(one g5, W6), (one g1, W2)] rfl
      have M18 : Mem W13 [(Fr, w)] := M17.sub (List.prefix_append [(Fr, w)] [(one g5, W6), (one g1, W2)]).sublist
      refine retR [.bool false] ⟨rfl, trivial⟩ ?_
      exact ⟨rfl, M18⟩
    · replace H := ifN (by rw [c16]; simp) H
      refine WC_skip ?_
      refine thenN ?_
      refine WC_seq ?_
      refine WC_seq ?_
      refine WC_region ?_
      refine WL_of (L_assign rfl rfl (.int .i64 0) rfl ?_)
      refine WL_nil ?_
      refine thenN ?_
      refine WC_block ?_
      refine WC_loop (fun k29 ρ w_ => ∃ (x23 : Bool) (x24 : Int) (ρ0 : Nat → Value), ρ = updL ρ0 [(2, .pointer (some ⟨g1, 0, none⟩)), (3, .pointer (some ⟨g5, 0, none⟩)), (4, .bool x23), (5, .int .i64 x24)] ∧ Mem w_ [(one g5, W6), (one g1, W2), (Fr, w)] ∧ k29 ≤ k ∧ annalsref15_Same.l0 k29 a0 a1 x23 x24 = some r) k ?_ ?_
      · exact ⟨false, 0, _, updL_same _ _ ⟨rfl, rfl, rfl, rfl, trivial⟩, M14, (Nat.le_refl _), H⟩
      · rintro k29 _ W25 ⟨x23, x24, ρ27, rfl, M26, hk30, H28⟩
        cases k29 with
        | zero => rw [annalsref15_Same.l0] at H28; cases H28
        | succ k29 =>
        rw [annalsref15_Same.l0] at H28
        refine WC_seq ?_
        refine WC_seq ?_
        refine WC_region ?_
        refine WL_of (L_move rfl rfl (.int .i64 x24) rfl ?_)
        refine WL_of (L_field rfl rfl fd24_2 ⟨g1, 0, none⟩ rfl ?_)
        refine WL_of (L_load1 rfl rfl Tryd.underlying22 rfl B3.el (M26.agree 1 rfl) 2 rfl (.slice Aa0_0 a0.Steps.length ca0_0) rfl ?_)
        refine WL_of (L_len rfl rfl (.slice Aa0_0 a0.Steps.length ca0_0) rfl (a0.Steps.length) (N_slice Tryd.underlying22 _ _ _) ?_)
        refine WL_of (L_bin rfl rfl (.int .i64 x24) (.int .i64 (a0.Steps.length : Int)) rfl rfl (.bool (decide ((x24 : Int) < (a0.Steps.length : Int)))) (B_lss _ _ _ _ x24 (a0.Steps.length : Int)) ?_)
        refine WL_nil ?_
        refine thenN ?_
        refine WC_if (p := (x24 : Int) < (a0.Steps.length : Int)) rfl (fun c31 => ?_) (fun c31 => ?_)
        · replace H28 := ifP c31 H28
          refine WC_skip ?_
          refine thenN ?_
          refine WC_seq ?_
          refine WC_block ?_
          refine WC_seq ?_
          refine WD_start (n := 11) (fun w_ => Mem w_ [(one g5, W6), (one g1, W2), (Fr, w)]) [] mixed rfl ?_
          have M32 := M26.drawn
          refine WD_take' 0 rfl (by kernel_rfl) (by kernel_rfl) (by kernel_rfl) (by kernel_rfl) (by kernel_rfl) rfl (fun _ _ _ h => h) rfl _ (M32.sub (.cons_cons _ (.cons_cons _ (.cons_cons _ .slnil)))) rfl (fun w_ hS => L_field rfl rfl fd24_2 ⟨g1, 0, none⟩ rfl  ⟨rfl, rfl⟩) ?_
          refine WD_take' 1 rfl (by kernel_rfl) (by kernel_rfl) (by kernel_rfl) (by kernel_rfl) (by kernel_rfl) rfl (fun _ _ _ h => h) rfl _ (M32.sub (.cons_cons _ (.cons_cons _ (.cons_cons _ .slnil)))) rfl (fun w_ hS => L_load1 rfl rfl Tryd.underlying22 rfl B3.el (hS.agree 1 rfl) 2 rfl (.slice Aa0_0 a0.Steps.length ca0_0) rfl  ⟨rfl, rfl⟩) ?_
          refine WD_take' 2 rfl (by kernel_rfl) (by kernel_rfl) (by kernel_rfl) (by kernel_rfl) (by kernel_rfl) rfl (fun _ _ _ h => h) rfl _ (M32.sub (.cons_cons _ (.cons_cons _ (.cons_cons _ .slnil)))) rfl (fun w_ hS => L_move rfl rfl (.int .i64 x24) rfl  ⟨rfl, rfl⟩) ?_
          obtain ⟨q33, hq34, H28⟩ := bindS H28
          obtain ⟨ad35, cs36, hA37, E38, R39⟩ := ha0_0.at hq34
          have hl40 := atL_spec hq34
          refine WD_take' 3 rfl (by kernel_rfl) (by kernel_rfl) (by kernel_rfl) (by kernel_rfl) (by kernel_rfl) rfl (fun _ _ _ h => h) rfl _ (M32.sub (.cons_cons _ (.cons_cons _ (.cons_cons _ .slnil)))) rfl (fun w_ hS => L_index rfl rfl Tryd.underlying22 sz44 rfl rfl hA37 hl40.1 hl40.2.1  ⟨rfl, rfl⟩) ?_
          obtain rfl := R39
          have E41 : El w Fr (Addr.add ad35 (Int.toNat x24 * 3)) [.string (sv q33.Do), .string (sv q33.Undo), .int .i64 q33.Tries] := E38
          refine WD_take' 4 rfl (by kernel_rfl) (by kernel_rfl) (by kernel_rfl) (by kernel_rfl) (by kernel_rfl) rfl (fun _ _ _ h => h) rfl _ (M32.sub (.cons_cons _ (.cons_cons _ (.cons_cons _ .slnil)))) rfl (fun w_ hS => L_loadN rfl rfl Tryd.underlying44 rfl E41 (hS.agree 2 rfl) 0 rfl 3 sz44 [.string (sv q33.Do), .string (sv q33.Undo), .int .i64 q33.Tries] rfl rfl  ⟨rfl, rfl⟩) ?_
          refine WD_take' 5 rfl (by kernel_rfl) (by kernel_rfl) (by kernel_rfl) (by kernel_rfl) (by kernel_rfl) rfl (fun _ _ _ h => h) rfl _ (M32.sub (.cons_cons _ (.cons_cons _ (.cons_cons _ .slnil)))) rfl (fun w_ hS => L_field rfl rfl fd24_2 ⟨g5, 0, none⟩ rfl  ⟨rfl, rfl⟩) ?_
          refine WD_take' 6 rfl (by kernel_rfl) (by kernel_rfl) (by kernel_rfl) (by kernel_rfl) (by kernel_rfl) rfl (fun _ _ _ h => h) rfl _ (M32.sub (.cons_cons _ (.cons_cons _ (.cons_cons _ .slnil)))) rfl (fun w_ hS => L_load1 rfl rfl Tryd.underlying22 rfl B7.el (hS.agree 0 rfl) 2 rfl (.slice Aa1_0 a1.Steps.length ca1_0) rfl  ⟨rfl, rfl⟩) ?_
          refine WD_take' 7 rfl (by kernel_rfl) (by kernel_rfl) (by kernel_rfl) (by kernel_rfl) (by kernel_rfl) rfl (fun _ _ _ h => h) rfl _ (M32.sub (.cons_cons _ (.cons_cons _ (.cons_cons _ .slnil)))) rfl (fun w_ hS => L_move rfl rfl (.int .i64 x24) rfl  ⟨rfl, rfl⟩) ?_
          obtain ⟨q42, hq43, H28⟩ := bindS H28
          obtain ⟨ad44, cs45, hA46, E47, R48⟩ := ha1_0.at hq43
          have hl49 := atL_spec hq43
          refine WD_take' 8 rfl (by kernel_rfl) (by kernel_rfl) (by kernel_rfl) (by kernel_rfl) (by kernel_rfl) rfl (fun _ _ _ h => h) rfl _ (M32.sub (.cons_cons _ (.cons_cons _ (.cons_cons _ .slnil)))) rfl (fun w_ hS => L_index rfl rfl Tryd.underlying22 sz44 rfl rfl hA46 hl49.1 hl49.2.1  ⟨rfl, rfl⟩) ?_
          obtain rfl := R48
          have E50 : El w Fr (Addr.add ad44 (Int.toNat x24 * 3)) [.string (sv q42.Do), .string (sv q42.Undo), .int .i64 q42.Tries] := E47
          refine WD_take' 9 rfl (by kernel_rfl) (by kernel_rfl) (by kernel_rfl) (by kernel_rfl) (by kernel_rfl) rfl (fun _ _ _ h => h) rfl _ (M32.sub (.cons_cons _ (.cons_cons _ (.cons_cons _ .slnil)))) rfl (fun w_ hS => L_loadN rfl rfl Tryd.underlying44 rfl E50 (hS.agree 2 rfl) 0 rfl 3 sz44 [.string (sv q42.Do), .string (sv q42.Undo), .int .i64 q42.Tries] rfl rfl  ⟨rfl, rfl⟩) ?_
          refine WD_take' 10 rfl (by kernel_rfl) (by kernel_rfl) (by kernel_rfl) (by kernel_rfl) (by kernel_rfl) rfl (fun _ _ _ h => h) rfl _ (M32.sub (.cons_cons _ (.cons_cons _ (.cons_cons _ .slnil)))) rfl (fun w_ hS => L_bin rfl rfl (.agg #[.string (sv q33.Do), .string (sv q33.Undo), .int .i64 q33.Tries]) (.agg #[.string (sv q42.Do), .string (sv q42.Undo), .int .i64 q42.Tries]) rfl rfl (.bool (decide (q33 ≠ q42))) (eq44_neq _ _ q33 q42)  ⟨rfl, rfl⟩) ?_
          refine WD_done (by kernel_rfl) ?_
          refine thenN ?_
          refine WC_if (p := q33 ≠ q42) rfl (fun c51 => ?_) (fun c51 => ?_)
          · replace H28 := ifP c51 H28
            refine WC_seq ?_
            refine WC_region ?_
            refine WL_of (L_assign rfl rfl (.bool false) rfl ?_)
            refine WL_nil ?_
            refine thenN ?_
            refine WC_ret ?_
            refine blkR ?_
            refine thenR ?_
            refine thenR ?_
            refine blkR ?_
            refine thenR ?_
            obtain rfl := someE H28
            have M52 : Mem (drawnZ W25) [(Fr, w), (one g5, W6), (one g1, W2)] := M32.front [(one g5, W6), (one g1, W2)] rfl
            have M53 : Mem (drawnZ W25) [(Fr, w)] := M52.sub (List.prefix_append [(Fr, w)] [(one g5, W6), (one g1, W2)]).sublist
            refine retR [.bool false] ⟨rfl, trivial⟩ ?_
            exact ⟨rfl, M53⟩
          · replace H28 := ifN c51 H28
            refine WC_skip ?_
            refine blkN ?_
            refine thenN ?_
            refine WC_region ?_
            refine WL_of (L_move rfl rfl (.int .i64 x24) rfl ?_)
            refine WL_of (L_bin rfl rfl (.int .i64 x24) (.int .i64 1) rfl rfl (.int .i64 (wrap64 (x24 + 1))) (B_add _ _ _ x24 1) ?_)
            refine WL_of (L_assign rfl rfl (.int .i64 (wrap64 (x24 + 1))) rfl ?_)
            refine WL_nil ?_
            refine thenN ?_
            exact ⟨k29, by omega, x23, wrap64 (x24 + 1), _, updL_same _ _ ⟨rfl, rfl, rfl, rfl, trivial⟩, M32, (by omega), H28⟩
        · replace H28 := ifN c31 H28
          refine WC_exit ?_
          refine thenE ?_
          refine thenE ?_
          refine blkX ?_
          refine thenN ?_
          refine WC_seq ?_
          refine WC_region ?_
          refine WL_of (L_assign rfl rfl (.bool true) rfl ?_)
          refine WL_nil ?_
          refine thenN ?_
          refine WC_ret ?_
          obtain rfl := someE H28
          have M54 : Mem W25 [(Fr, w), (one g5, W6), (one g1, W2)] := M26.front [(one g5, W6), (one g1, W2)] rfl
          have M55 : Mem W25 [(Fr, w)] := M54.sub (List.prefix_append [(Fr, w)] [(one g5, W6), (one g1, W2)]).sublist
          refine retR [.bool true] ⟨rfl, trivial⟩ ?_
          exact ⟨rfl, M55⟩


end Go.Z
