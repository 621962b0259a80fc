/- PlanOneWay, as a card: for every line the call of annalslaw15.PlanOneWay returns true and the line reads as before. No conditions beside the statement's own. -/
import Derived.Test.YtlmdkofcombcmaaDoorL17
import Derived.Test.YtlmdkofcombcmaaDoorCards
import Derived.Test.YtlmdkofcombcmaaDoorTie
import Derived.WalkKit
import Derived.Lib.LaidU8
import Derived.ProofKit
import Derived.MakeChecks
import Derived.ChangeMaps5
import Derived.OpenShut
import Derived.Deep.DeepHandedRow
namespace Go.Proofs.YtlmdkofcombcmaaDoor.planOneWay
open Go Go.ChangeMaps Go.MakeChecks  Go.ChangeShapes Go.WideShapes Go.ChangeAt Go.RowKit Go.Lib Go.Z
set_option linter.unusedVariables false

theorem law (s : Str) : ∃ k, annalslaw15_PlanOneWay k s = some true := oneWay s

theorem own : ownKnob Tryd.prog.godebug = none := by kernel_rfl
theorem g0 : Tryd.prog.globalNamed "annals/text.letters" = some 0 := by kernel_rfl
theorem y0 : (Tryd.prog.globals[0]?).map (·.type) = some 133 := by kernel_rfl
theorem g2 : Tryd.prog.globalNamed "unicode/utf8.first" = some 2 := by kernel_rfl
theorem y2 : (Tryd.prog.globals[2]?).map (·.type) = some 138 := by kernel_rfl
theorem g3 : Tryd.prog.globalNamed "unicode/utf8.acceptRanges" = some 3 := by kernel_rfl
theorem y3 : (Tryd.prog.globals[3]?).map (·.type) = some 142 := by kernel_rfl
theorem g4 : Tryd.prog.globalNamed "internal/strconv.uint64pow10" = some 4 := by kernel_rfl
theorem y4 : (Tryd.prog.globals[4]?).map (·.type) = some 151 := by kernel_rfl
theorem g5 : Tryd.prog.globalNamed "annals/annalsref2.letters" = some 5 := by kernel_rfl
theorem y5 : (Tryd.prog.globals[5]?).map (·.type) = some 160 := by kernel_rfl
theorem g6 : Tryd.prog.globalNamed "math/bits.deBruijn32tab" = some 6 := by kernel_rfl
theorem y6 : (Tryd.prog.globals[6]?).map (·.type) = some 163 := by kernel_rfl
theorem g7 : Tryd.prog.globalNamed "math/bits.deBruijn64tab" = some 7 := by kernel_rfl
theorem y7 : (Tryd.prog.globals[7]?).map (·.type) = some 164 := by kernel_rfl
theorem c5 : Tryd.prog.cellsOf 5 = 1 := by kernel_rfl
theorem c3 : Tryd.prog.cellsOf 3 = 1 := by kernel_rfl
theorem c21 : Tryd.prog.cellsOf 21 = 1 := by kernel_rfl
theorem c125 : Tryd.prog.cellsOf 125 = 1 := by kernel_rfl
theorem c132 : Tryd.prog.cellsOf 132 = 2 := by kernel_rfl
theorem c138 : Tryd.prog.cellsOf 138 = 256 := by kernel_rfl
theorem c151 : Tryd.prog.cellsOf 151 = 20 := by kernel_rfl
theorem c163 : Tryd.prog.cellsOf 163 = 32 := by kernel_rfl
theorem c164 : Tryd.prog.cellsOf 164 = 64 := by kernel_rfl
theorem c159 : Tryd.prog.cellsOf 159 = 2 := by kernel_rfl

theorem d2 : (Rows.laid_unicode_utf8_first : DataW Unit) = Go.Lib.firstData := by kernel_rfl
theorem d3 : (Rows.laid_unicode_utf8_acceptRanges : DataW Unit) = Go.Lib.acceptData := by kernel_rfl
theorem d4 : (Rows.laid_internal_strconv_uint64pow10 : DataW Unit) = tabData .u64 Lib.pow10Tab := by kernel_rfl
theorem d0 : (Rows.laid_annals_text_letters : DataW Unit) = .agg (text_letters.map fun x => .agg (([x.lo_, x.hi_] : List Int).map fun z => .lit (.int .i32 z))) := by kernel_rfl
theorem d5 : (Rows.laid_annals_annalsref2_letters : DataW Unit) = .agg (annalsref2_letters.map fun x => .agg (([x.i0_, x.i1_] : List Int).map fun z => .lit (.int .i64 z))) := by kernel_rfl
theorem d6 : (Rows.laid_math_bits_deBruijn32tab : DataW Unit) = tabData .u8 (math_bits_deBruijn32tab.map fun b => (b.toNat : Int)) := by kernel_rfl
theorem d7 : (Rows.laid_math_bits_deBruijn64tab : DataW Unit) = tabData .u8 (math_bits_deBruijn64tab.map fun b => (b.toNat : Int)) := by kernel_rfl
theorem u8x : U8Extra Tryd.prog Tryd.lays260_ren := ⟨by kernel_rfl, by kernel_rfl, by kernel_rfl, by kernel_rfl, by kernel_rfl, by kernel_rfl, by kernel_rfl⟩

set_option maxRecDepth 100000 in
theorem tables {W : World} (hh : laidMetH Tryd.prog Rows.planOneWayRow.laid W) : Gl (old W) W := by
  rw [laidMetH_plain _ _ _ (by kernel_rfl)] at hh
  have r0 : VarReads Tryd.prog W "annals/text.letters" Rows.laid_annals_text_letters := Go.Lib.laidMet.reads hh (by simp [Rows.planOneWayRow])
  have r2 : VarReads Tryd.prog W "unicode/utf8.first" Rows.laid_unicode_utf8_first := Go.Lib.laidMet.reads hh (by simp [Rows.planOneWayRow])
  have r3 : VarReads Tryd.prog W "unicode/utf8.acceptRanges" Rows.laid_unicode_utf8_acceptRanges := Go.Lib.laidMet.reads hh (by simp [Rows.planOneWayRow])
  have r4 : VarReads Tryd.prog W "internal/strconv.uint64pow10" Rows.laid_internal_strconv_uint64pow10 := Go.Lib.laidMet.reads hh (by simp [Rows.planOneWayRow])
  have r5 : VarReads Tryd.prog W "annals/annalsref2.letters" Rows.laid_annals_annalsref2_letters := Go.Lib.laidMet.reads hh (by simp [Rows.planOneWayRow])
  have r6 : VarReads Tryd.prog W "math/bits.deBruijn32tab" Rows.laid_math_bits_deBruijn32tab := Go.Lib.laidMet.reads hh (by simp [Rows.planOneWayRow])
  have r7 : VarReads Tryd.prog W "math/bits.deBruijn64tab" Rows.laid_math_bits_deBruijn64tab := Go.Lib.laidMet.reads hh (by simp [Rows.planOneWayRow])
  rw [d0] at r0; rw [d2] at r2; rw [d3] at r3; rw [d4] at r4; rw [d5] at r5; rw [d6] at r6; rw [d7] at r7
  refine ⟨?_, ?_, ?_, ?_, utf_stays (utf8Tabs_of_reads Tryd.lays260 u8x r2 r3), tab_stays g4 y4 Tryd.underlying151 Tryd.underlying125 c125 c151 r4⟩
  · refine tab_structs (k := .i32) (fun x : text_span => [x.lo_, x.hi_]) text_letters g0 y0 Tryd.underlying133 Tryd.underlying132 (fun j f hj => ?_) c132 rfl rfl (fun x => rfl) r0
    match j, hj with
    | 0, hj => simp at hj; subst hj; exact ⟨Tryd.underlying21, rfl, c21⟩
    | 1, hj => simp at hj; subst hj; exact ⟨Tryd.underlying21, rfl, c21⟩
    | j + 2, hj => simp at hj
  · exact tab_arrays (k := .i64) (fun x : T159 => [x.i0_, x.i1_]) annalsref2_letters g5 y5 Tryd.underlying160 Tryd.underlying159 Tryd.underlying3 c3 c159 rfl rfl (fun x => rfl) r5
  · exact tab_bytes math_bits_deBruijn32tab g6 y6 Tryd.underlying163 Tryd.underlying5 c5 c163 rfl r6
  · exact tab_bytes math_bits_deBruijn64tab g7 y7 Tryd.underlying164 Tryd.underlying5 c5 c164 rfl r7

set_option maxRecDepth 100000 in
theorem contract (H : Type) (enc : TypeId × Value → H) (W : World) (base : Nat) (args : Array Value) (ds gs : List (DataW H)) (before : List MemPlace)
    (hval : ∀ (j : Nat) t v, Tryd.f4.params[j]? = some t → args[j]? = some v → Value.okWide Tryd.prog W .any base t v)
    (hW : DataW.Whole enc Tryd.prog Tryd.f4.params.toList Rows.planOneWaySpec.vars false W args.toList ds gs before) (hL : laidMetH Tryd.prog Rows.planOneWayRow.laid W) :
    Calls Tryd.prog 4 args W fun e W' => ∃ v, e = .returned v ∧ Rows.planOneWaySpec.post enc Tryd.prog Tryd.f4 false true false false W args v W' := by
  have hW' := hW
  obtain ⟨p, q, hA0, hV, rfl, hfz, hnd⟩ := hW
  have hA : DataW.TrodAll enc Tryd.prog W 0 (fun _ => true) true Tryd.f4.params.toList args.toList ds p := hA0
  rw [Tryd.params4] at hA hval
  obtain ⟨v0, vs0, d0', ds0, p0, q0, hargs, rfl, rfl, h0, r0⟩ := trodAll_cons hA
  obtain ⟨rfl, rfl, rfl⟩ := trodAll_nil r0
  obtain rfl : args = #[v0] := by cases args; simp_all
  obtain ⟨rfl, rfl⟩ := trodVars_none hV
  obtain ⟨s, rfl, rfl, rfl, hs⟩ := open_string Tryd.underlying9 (hval 0 9 v0 rfl rfl) h0
  clear hA0
  simp only [List.append_nil] at hW'
  obtain ⟨k, hk⟩ := law s.data.toList
  have walk := annalslaw15_PlanOneWay_ok k s.data.toList true W (old W) (tables hL) (fun b hb => hb) hk
  rw [← sv_of s] at walk
  refine Calls.mono walk fun e W' ⟨v, he, hv, hM⟩ => ?_
  subst he hv
  exact ⟨_, rfl, post_of_mem (pa := []) (pv := []) hW' (fun _ _ _ => trodAll_cons_mk (shut_bool Tryd.underlying4 _) trodAll_mk0) (fun _ _ => trodAll_cons_mk (shut_string Tryd.underlying9 hs) trodAll_mk0) (fun _ _ => rfl) rfl
    hM (ok_one (by kernel_rfl) rfl (okWide_bool_mk Tryd.underlying4 _))⟩

/-- A world for the witness: the settled one, the tables laid. -/
def lay (h : Array Obj) (g : Nat) (cs : List Value) : Array Obj := h.modify g fun
  | .cells _ t frozen => .cells cs.toArray t frozen
  | o => o
def layAll (h : Array Obj) : Array Obj :=
  let h := lay h 0 (text_letters.flatMap fun x => [.int .i32 x.lo_, .int .i32 x.hi_])
  let h := lay h 2 (Go.Lib.firstTab.map fun z => .int .u8 z)
  let h := lay h 3 ((List.range 16).flatMap fun i => [.int .u8 (Go.Lib.accLo i), .int .u8 (Go.Lib.accHi i)])
  let h := lay h 4 (Go.Lib.pow10Tab.map fun z => .int .u64 z)
  let h := lay h 5 (annalsref2_letters.flatMap fun x => [.int .i64 x.i0_, .int .i64 x.i1_])
  let h := lay h 6 (u8c math_bits_deBruijn32tab)
  lay h 7 (u8c math_bits_deBruijn64tab)
noncomputable def laidWorld (os : Os) : World := { World.holding Tryd.prog os ⟨#[], #[], []⟩ with heap := layAll (World.holding Tryd.prog os ⟨#[], #[], []⟩).heap }
set_option maxRecDepth 100000 in
theorem laid_met (os : Os) : laidMet Tryd.prog Rows.planOneWayRow.laid ((laidWorld os).forCall (fun _ _ => 0) ⟨#[], #[.string ⟨#[]⟩], []⟩).memory :=
  laidMet_of_run' 8 (by kernel_rfl) (by kernel_rfl)
theorem reads (os : Os) {H : Type} (enc : TypeId × Value → H) : ∃ places, DataW.whole enc Tryd.prog ((laidWorld os).forCall (fun _ _ => 0) ⟨#[], #[.string ⟨#[]⟩], []⟩).memory Tryd.f4.params.toList Rows.planOneWaySpec.vars false #[Value.string ⟨#[]⟩].toList 8 = some ([.lit (.string [])], [], places) :=
  ⟨[], by kernel_rfl⟩
set_option maxRecDepth 100000 in
theorem lifted (os : Os) (started : os.Started) (H : Type) (enc : TypeId × Value → H) (F : Stop.Interp) :
    ReturnsInHanded {} Tryd.checked os 4 .any ((OpenSpec.ofChange Rows.planOneWaySpec).preRow enc Tryd.prog Tryd.f4 Rows.planOneWayRow.domain false Rows.planOneWayRow.laid) (((OpenSpec.ofChange Rows.planOneWaySpec).at F).post enc Tryd.prog Tryd.f4 false true false false) := by
  obtain ⟨places, hx⟩ := reads os enc
  refine returnsInHanded_of_row (C := Tryd.checked) (s := OpenSpec.ofChange Rows.planOneWaySpec) own started (by kernel_rfl) Tryd.func4
    (witness_row_at (enc := enc) (C := Tryd.checked) false (laidWorld os) #[.string ⟨#[]⟩] rfl (by kernel_rfl) (by kernel_rfl) (by kernel_rfl)
      (OpenSpec.preRow_of_cond 8 hx (by kernel_rfl) (fun k hk => by cases hk) (by kernel_rfl) (laid_met os))) ?_
  intro W base args ds gs before hval hW _ _ _ hL _ _
  exact contract H enc W base args ds gs before hval hW hL
theorem said : Rows.PlanOneWaySaid :=
  OpenClaim.holds_of_cond 4 Tryd.f4 rfl rfl rfl rfl rfl rfl rfl ⟨rfl, rfl, rfl, rfl, rfl⟩ rfl rfl rfl rfl rfl (by kernel_rfl) Tryd.func4 (by kernel_rfl)
    (of_decide_eq_true (by kernel_rfl)) (by unfold Func.isWrapper; first | (rw [if_pos (by decide +kernel)]; kernel_rfl) | (rw [if_neg (by decide +kernel)]; exact ⟨rfl, rfl⟩))
    (fun os started H enc _ F => by rw [OpenClaim.pre_eq_preRow]; exact lifted os started H enc F)
theorem plain (f : FuncId) (fn : Func) (hf : Tryd.pinned.checked.prog.funcNamed "annals/annalslaw15.PlanOneWay" = some f) (hfn : Tryd.pinned.checked.prog.funcs[f]? = some fn) :
    false = Tryd.pinned.checked.prog.looks [] ∧ ∀ (j : Nat) t, fn.params[j]? = some t → Tryd.pinned.checked.prog.wantsStandIn t = false := by
  obtain rfl : f = 4 := Option.some.inj ((show Tryd.prog.funcNamed "annals/annalslaw15.PlanOneWay" = some 4 by kernel_rfl).symm.trans hf) |>.symm
  obtain rfl : fn = Tryd.f4 := (Option.some.inj (Tryd.func4.symm.trans hfn)).symm
  refine ⟨by kernel_rfl, fun j t ht => ?_⟩
  rw [Tryd.params4] at ht
  obtain rfl : t = 9 := by simpa using Array.mem_of_getElem? ht
  exact (show Tryd.prog.wantsStandIn 9 = false by kernel_rfl)
theorem card : Rows.PlanOneWayCardSaid :=
  Claim7.holds_tied_plain_at .later [] _ _ _ _ said (fun _ h => by cases h) (by kernel_rfl) (fun _ h => by cases h) planOneWay_row_tie rfl ⟨rfl, rfl⟩ (by kernel_rfl) rfl plain (by kernel_rfl)
#print axioms card
end Go.Proofs.YtlmdkofcombcmaaDoor.planOneWay
