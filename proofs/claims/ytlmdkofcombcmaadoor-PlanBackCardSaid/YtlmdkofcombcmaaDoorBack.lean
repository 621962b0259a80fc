/- PlanBack, as a card: for every plan the call of annalslaw15.PlanBack returns true and the plan reads as before. No conditions beside the statement's own. -/
import Derived.Test.YtlmdkofcombcmaaDoorN7
import Derived.Test.YtlmdkofcombcmaaDoorZ17
import Derived.Test.YtlmdkofcombcmaaDoorCards
import Derived.Test.YtlmdkofcombcmaaDoorTie
import Derived.WalkKit
import Derived.Lib.LaidU8
import Derived.ProofKit
import Derived.MakeChecks
import Derived.ChangeMaps5
import Derived.OpenShut
import Derived.Deep.DeepHandedRow
namespace Go.Proofs.YtlmdkofcombcmaaDoor.planBack
open Go Go.ChangeMaps Go.Lib Go.MakeChecks  Go.ChangeShapes Go.WideShapes Go.ChangeAt Go.RowKit Go.Lib Go.Z
set_option linter.unusedVariables false

theorem law (p : api_Plan) : ∃ k, annalslaw15_PlanBack k p = some true := back p

theorem own : ownKnob Tryd.prog.godebug = none := by kernel_rfl
theorem g0 : Tryd.prog.globalNamed "annals/text.letters" = some 0 := by kernel_rfl
theorem y0 : (Tryd.prog.globals[0]?).map (·.type) = some 133 := by kernel_rfl
theorem g2 : Tryd.prog.globalNamed "unicode/utf8.first" = some 2 := by kernel_rfl
theorem y2 : (Tryd.prog.globals[2]?).map (·.type) = some 138 := by kernel_rfl
theorem g3 : Tryd.prog.globalNamed "unicode/utf8.acceptRanges" = some 3 := by kernel_rfl
theorem y3 : (Tryd.prog.globals[3]?).map (·.type) = some 142 := by kernel_rfl
theorem g4 : Tryd.prog.globalNamed "internal/strconv.uint64pow10" = some 4 := by kernel_rfl
theorem y4 : (Tryd.prog.globals[4]?).map (·.type) = some 151 := by kernel_rfl
theorem g5 : Tryd.prog.globalNamed "annals/annalsref2.letters" = some 5 := by kernel_rfl
theorem y5 : (Tryd.prog.globals[5]?).map (·.type) = some 160 := by kernel_rfl
theorem g6 : Tryd.prog.globalNamed "math/bits.deBruijn32tab" = some 6 := by kernel_rfl
theorem y6 : (Tryd.prog.globals[6]?).map (·.type) = some 163 := by kernel_rfl
theorem g7 : Tryd.prog.globalNamed "math/bits.deBruijn64tab" = some 7 := by kernel_rfl
theorem y7 : (Tryd.prog.globals[7]?).map (·.type) = some 164 := by kernel_rfl
theorem c5 : Tryd.prog.cellsOf 5 = 1 := by kernel_rfl
theorem c3 : Tryd.prog.cellsOf 3 = 1 := by kernel_rfl
theorem c21 : Tryd.prog.cellsOf 21 = 1 := by kernel_rfl
theorem c125 : Tryd.prog.cellsOf 125 = 1 := by kernel_rfl
theorem c132 : Tryd.prog.cellsOf 132 = 2 := by kernel_rfl
theorem c138 : Tryd.prog.cellsOf 138 = 256 := by kernel_rfl
theorem c151 : Tryd.prog.cellsOf 151 = 20 := by kernel_rfl
theorem c163 : Tryd.prog.cellsOf 163 = 32 := by kernel_rfl
theorem c164 : Tryd.prog.cellsOf 164 = 64 := by kernel_rfl
theorem c159 : Tryd.prog.cellsOf 159 = 2 := by kernel_rfl

theorem c24 : Tryd.prog.cellsOf 24 = 3 := by kernel_rfl
theorem c44 : Tryd.prog.cellsOf 44 = 3 := by kernel_rfl
theorem c9 : Tryd.prog.cellsOf 9 = 1 := by kernel_rfl
theorem laidOut : laidOutB Tryd.prog = true := by kernel_rfl

theorem d2 : (Rows.laid_unicode_utf8_first : DataW Unit) = Go.Lib.firstData := by kernel_rfl
theorem d3 : (Rows.laid_unicode_utf8_acceptRanges : DataW Unit) = Go.Lib.acceptData := by kernel_rfl
theorem d4 : (Rows.laid_internal_strconv_uint64pow10 : DataW Unit) = tabData .u64 Lib.pow10Tab := by kernel_rfl
theorem d0 : (Rows.laid_annals_text_letters : DataW Unit) = .agg (text_letters.map fun x => .agg (([x.lo_, x.hi_] : List Int).map fun z => .lit (.int .i32 z))) := by kernel_rfl
theorem d5 : (Rows.laid_annals_annalsref2_letters : DataW Unit) = .agg (annalsref2_letters.map fun x => .agg (([x.i0_, x.i1_] : List Int).map fun z => .lit (.int .i64 z))) := by kernel_rfl
theorem d6 : (Rows.laid_math_bits_deBruijn32tab : DataW Unit) = tabData .u8 (math_bits_deBruijn32tab.map fun b => (b.toNat : Int)) := by kernel_rfl
theorem d7 : (Rows.laid_math_bits_deBruijn64tab : DataW Unit) = tabData .u8 (math_bits_deBruijn64tab.map fun b => (b.toNat : Int)) := by kernel_rfl
theorem u8x : U8Extra Tryd.prog Tryd.lays260_ren := ⟨by kernel_rfl, by kernel_rfl, by kernel_rfl, by kernel_rfl, by kernel_rfl, by kernel_rfl, by kernel_rfl⟩

set_option maxRecDepth 100000 in
theorem tables {W : World} (hh : laidMetH Tryd.prog Rows.planBackRow.laid W) : Gl (old W) W := by
  rw [laidMetH_plain _ _ _ (by kernel_rfl)] at hh
  have r0 : VarReads Tryd.prog W "annals/text.letters" Rows.laid_annals_text_letters := Go.Lib.laidMet.reads hh (by simp [Rows.planBackRow])
  have r2 : VarReads Tryd.prog W "unicode/utf8.first" Rows.laid_unicode_utf8_first := Go.Lib.laidMet.reads hh (by simp [Rows.planBackRow])
  have r3 : VarReads Tryd.prog W "unicode/utf8.acceptRanges" Rows.laid_unicode_utf8_acceptRanges := Go.Lib.laidMet.reads hh (by simp [Rows.planBackRow])
  have r4 : VarReads Tryd.prog W "internal/strconv.uint64pow10" Rows.laid_internal_strconv_uint64pow10 := Go.Lib.laidMet.reads hh (by simp [Rows.planBackRow])
  have r5 : VarReads Tryd.prog W "annals/annalsref2.letters" Rows.laid_annals_annalsref2_letters := Go.Lib.laidMet.reads hh (by simp [Rows.planBackRow])
  have r6 : VarReads Tryd.prog W "math/bits.deBruijn32tab" Rows.laid_math_bits_deBruijn32tab := Go.Lib.laidMet.reads hh (by simp [Rows.planBackRow])
  have r7 : VarReads Tryd.prog W "math/bits.deBruijn64tab" Rows.laid_math_bits_deBruijn64tab := Go.Lib.laidMet.reads hh (by simp [Rows.planBackRow])
  rw [d0] at r0; rw [d2] at r2; rw [d3] at r3; rw [d4] at r4; rw [d5] at r5; rw [d6] at r6; rw [d7] at r7
  refine ⟨?_, ?_, ?_, ?_, utf_stays (utf8Tabs_of_reads Tryd.lays260 u8x r2 r3), tab_stays g4 y4 Tryd.underlying151 Tryd.underlying125 c125 c151 r4⟩
  · refine tab_structs (k := .i32) (fun x : text_span => [x.lo_, x.hi_]) text_letters g0 y0 Tryd.underlying133 Tryd.underlying132 (fun j f hj => ?_) c132 rfl rfl (fun x => rfl) r0
    match j, hj with
    | 0, hj => simp at hj; subst hj; exact ⟨Tryd.underlying21, rfl, c21⟩
    | 1, hj => simp at hj; subst hj; exact ⟨Tryd.underlying21, rfl, c21⟩
    | j + 2, hj => simp at hj
  · exact tab_arrays (k := .i64) (fun x : T159 => [x.i0_, x.i1_]) annalsref2_letters g5 y5 Tryd.underlying160 Tryd.underlying159 Tryd.underlying3 c3 c159 rfl rfl (fun x => rfl) r5
  · exact tab_bytes math_bits_deBruijn32tab g6 y6 Tryd.underlying163 Tryd.underlying5 c5 c163 rfl r6
  · exact tab_bytes math_bits_deBruijn64tab g7 y7 Tryd.underlying164 Tryd.underlying5 c5 c164 rfl r7

set_option maxRecDepth 100000 in
theorem step_el {H : Type} {enc : TypeId × Value → H} {W : World} {n : Nat} {cs : List Value} {y : DataW H × List MemPlace} (h : DataW.trod enc Tryd.prog W 0 (fun _ => true) true n 44 cs = some y) : ∃ x : api_Step, Rep.rep W (old W) x cs := by
  obtain ⟨y0, y1, y2, m, _, hl, g0, g1, g2⟩ := Deep.trod_struct3 Tryd.underlying44 h
  rw [c44] at hl
  match cs, hl with
  | [a, b, c], _ =>
    obtain ⟨s0, e0, _, _⟩ := DataW.trod_string (cs := [a]) Tryd.underlying9 (by rw [c9] at g0; exact g0)
    obtain ⟨s1, e1, _, _⟩ := DataW.trod_string (cs := [b]) Tryd.underlying9 (by rw [c9] at g1; exact g1)
    obtain ⟨z, e2, _, _⟩ := DataW.trod_int (cs := [c]) Tryd.underlying3 (by rw [c3] at g2; exact g2)
    injection e0 with e0 _
    injection e1 with e1 _
    injection e2 with e2 _
    subst e0 e1 e2
    refine ⟨⟨s0.data.toList, s1.data.toList, z⟩, ?_⟩
    show [Value.string s0, .string s1, .int .i64 z] = [.string (sv s0.data.toList), .string (sv s1.data.toList), .int .i64 z]
    rw [← sv_of, ← sv_of]

set_option maxRecDepth 100000 in
theorem contract (H : Type) (enc : TypeId × Value → H) (W : World) (base : Nat) (args : Array Value) (ds gs : List (DataW H)) (before : List MemPlace)
    (hval : ∀ (j : Nat) t v, Tryd.f3.params[j]? = some t → args[j]? = some v → Value.okWide Tryd.prog W .any base t v)
    (hW : DataW.Whole enc Tryd.prog Tryd.f3.params.toList Rows.planBackSpec.vars false W args.toList ds gs before) (hL : laidMetH Tryd.prog Rows.planBackRow.laid W) :
    Calls Tryd.prog 3 args W fun e W' => ∃ v, e = .returned v ∧ Rows.planBackSpec.post enc Tryd.prog Tryd.f3 false true false false W args v W' := by
  have hW' := hW
  obtain ⟨p, q, hA0, hV, rfl, hfz, hnd⟩ := hW
  have hA : DataW.TrodAll enc Tryd.prog W 0 (fun _ => true) true Tryd.f3.params.toList args.toList ds p := hA0
  rw [Tryd.params3] at hA hval
  obtain ⟨v0, vs0, d0', ds0, p0, q0, hargs, rfl, rfl, h0, r0⟩ := trodAll_cons hA
  obtain ⟨rfl, rfl, rfl⟩ := trodAll_nil r0
  obtain rfl : args = #[v0] := by cases args; simp_all
  obtain ⟨rfl, rfl⟩ := trodVars_none hV
  clear hA0 hA
  simp only [List.append_nil] at hW'
  have hlt : ∀ p ∈ p0, p.block < W.heap.size := fun p hp => hW'.lt p hp
  have hv0 := hval 0 24 v0 rfl rfl
  have h0k := h0
  obtain ⟨c0, c1, c2, y0, y1, y2, n, rfl, _, _, g0, g1, g2⟩ := Go.Joins.open_agg3 Tryd.underlying24 (by kernel_rfl) c24 hv0 h0
  obtain ⟨s, e0, _, _⟩ := DataW.trod_string Tryd.underlying9 g0
  obtain ⟨z, e1, _, _⟩ := DataW.trod_int Tryd.underlying3 g1
  obtain ⟨A, c, xs, e2, hSR⟩ := open_SR (α := api_Step) Tryd.underlying22 c44 (by decide) (fun n cs y h => step_el h) g2
  injection e0 with e0 _
  injection e1 with e1 _
  injection e2 with e2 _
  subst e0 e1 e2
  obtain ⟨k, hk⟩ := law (⟨s.data.toList, z, xs⟩ : api_Plan)
  have walk := annalslaw15_PlanBack_ok k (⟨s.data.toList, z, xs⟩ : api_Plan) A c true W (old W) (tables hL) (fun b hb => hb) hSR hk
  have es : sv (⟨s.data.toList, z, xs⟩ : api_Plan).Name = s := (sv_of s).symm
  rw [es] at walk
  refine Calls.mono walk fun e W' ⟨v, he, hv, hM⟩ => ?_
  subst he hv
  exact ⟨_, rfl, post_of_mem (pa := p0) (pv := []) hW' (fun _ _ _ => trodAll_cons_mk (shut_bool Tryd.underlying4 _) trodAll_mk0) (fun sp hs => by
      have := trodAll_cons_mk (stay hM laidOut (by kernel_rfl) (of_decide_eq_true (by kernel_rfl)) h0k hlt sp hs) (trodAll_mk0)
      rw [List.append_nil] at this
      exact this) (fun _ _ => rfl) (List.append_nil p0).symm
    hM (ok_one (by kernel_rfl) rfl (okWide_bool_mk Tryd.underlying4 _))⟩

/-- A world for the witness: the settled one, the tables laid. -/
def lay (h : Array Obj) (g : Nat) (cs : List Value) : Array Obj := h.modify g fun
  | .cells _ t frozen => .cells cs.toArray t frozen
  | o => o
def layAll (h : Array Obj) : Array Obj :=
  let h := lay h 0 (text_letters.flatMap fun x => [.int .i32 x.lo_, .int .i32 x.hi_])
  let h := lay h 2 (Go.Lib.firstTab.map fun z => .int .u8 z)
  let h := lay h 3 ((List.range 16).flatMap fun i => [.int .u8 (Go.Lib.accLo i), .int .u8 (Go.Lib.accHi i)])
  let h := lay h 4 (Go.Lib.pow10Tab.map fun z => .int .u64 z)
  let h := lay h 5 (annalsref2_letters.flatMap fun x => [.int .i64 x.i0_, .int .i64 x.i1_])
  let h := lay h 6 (u8c math_bits_deBruijn32tab)
  lay h 7 (u8c math_bits_deBruijn64tab)
noncomputable def laidWorld (os : Os) : World := { World.holding Tryd.prog os ⟨#[], #[], []⟩ with heap := layAll (World.holding Tryd.prog os ⟨#[], #[], []⟩).heap }
set_option maxRecDepth 100000 in
theorem laid_met (os : Os) : laidMet Tryd.prog Rows.planBackRow.laid ((laidWorld os).forCall (fun _ _ => 0) ⟨#[], #[.agg #[.string ⟨#[]⟩, .int .i64 0, .slice none 0 0]], []⟩).memory :=
  laidMet_of_run' 8 (by kernel_rfl) (by kernel_rfl)
theorem reads (os : Os) {H : Type} (enc : TypeId × Value → H) : ∃ places, DataW.whole enc Tryd.prog ((laidWorld os).forCall (fun _ _ => 0) ⟨#[], #[.agg #[.string ⟨#[]⟩, .int .i64 0, .slice none 0 0]], []⟩).memory Tryd.f3.params.toList Rows.planBackSpec.vars false #[Value.agg #[.string ⟨#[]⟩, .int .i64 0, .slice none 0 0]].toList 8 = some ([.agg [.lit (.string []), .lit (.int .i64 0), .nil]], [], places) :=
  ⟨[], by kernel_rfl⟩
set_option maxRecDepth 100000 in
theorem lifted (os : Os) (started : os.Started) (H : Type) (enc : TypeId × Value → H) (F : Stop.Interp) :
    ReturnsInHanded {} Tryd.checked os 3 .any ((OpenSpec.ofChange Rows.planBackSpec).preRow enc Tryd.prog Tryd.f3 Rows.planBackRow.domain false Rows.planBackRow.laid) (((OpenSpec.ofChange Rows.planBackSpec).at F).post enc Tryd.prog Tryd.f3 false true false false) := by
  obtain ⟨places, hx⟩ := reads os enc
  refine returnsInHanded_of_row (C := Tryd.checked) (s := OpenSpec.ofChange Rows.planBackSpec) own started (by kernel_rfl) Tryd.func3
    (witness_row_at (enc := enc) (C := Tryd.checked) false (laidWorld os) #[.agg #[.string ⟨#[]⟩, .int .i64 0, .slice none 0 0]] rfl (by kernel_rfl) (by kernel_rfl) (by kernel_rfl)
      (OpenSpec.preRow_of_cond 8 hx (by kernel_rfl) (fun k hk => by cases hk) (by kernel_rfl) (laid_met os))) ?_
  intro W base args ds gs before hval hW _ _ _ hL _ _
  exact contract H enc W base args ds gs before hval hW hL
theorem said : Rows.PlanBackSaid :=
  OpenClaim.holds_of_cond 3 Tryd.f3 rfl rfl rfl rfl rfl rfl rfl ⟨rfl, rfl, rfl, rfl, rfl⟩ rfl rfl rfl rfl rfl (by kernel_rfl) Tryd.func3 (by kernel_rfl)
    (of_decide_eq_true (by kernel_rfl)) (by unfold Func.isWrapper; first | (rw [if_pos (by decide +kernel)]; kernel_rfl) | (rw [if_neg (by decide +kernel)]; exact ⟨rfl, rfl⟩))
    (fun os started H enc _ F => by rw [OpenClaim.pre_eq_preRow]; exact lifted os started H enc F)
theorem plain (f : FuncId) (fn : Func) (hf : Tryd.pinned.checked.prog.funcNamed "annals/annalslaw15.PlanBack" = some f) (hfn : Tryd.pinned.checked.prog.funcs[f]? = some fn) :
    false = Tryd.pinned.checked.prog.looks [] ∧ ∀ (j : Nat) t, fn.params[j]? = some t → Tryd.pinned.checked.prog.wantsStandIn t = false := by
  obtain rfl : f = 3 := Option.some.inj ((show Tryd.prog.funcNamed "annals/annalslaw15.PlanBack" = some 3 by kernel_rfl).symm.trans hf) |>.symm
  obtain rfl : fn = Tryd.f3 := (Option.some.inj (Tryd.func3.symm.trans hfn)).symm
  refine ⟨by kernel_rfl, fun j t ht => ?_⟩
  rw [Tryd.params3] at ht
  obtain rfl : t = 24 := by simpa using Array.mem_of_getElem? ht
  exact (show Tryd.prog.wantsStandIn 24 = false by kernel_rfl)
theorem card : Rows.PlanBackCardSaid :=
  Claim7.holds_tied_plain_at .later [] _ _ _ _ said (fun _ h => by cases h) (by kernel_rfl) (fun _ h => by cases h) planBack_row_tie rfl ⟨rfl, rfl⟩ (by kernel_rfl) rfl plain (by kernel_rfl)
#print axioms card
end Go.Proofs.YtlmdkofcombcmaaDoor.planBack
