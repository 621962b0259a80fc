/- The walks: for each Go function a function of values that it computes, and the proof that it does (printed by wip/tools/zgen.py). -/
import Derived.Test.YtlmdkofcombcmaaDoorZ16
import Derived.Test.YtlmdkofcombcmaaDoorShelf
import Derived.Test.YtlmdkofcombcmaaDoorProg
set_option linter.unusedVariables false
set_option linter.unusedSimpArgs false
namespace Go.Z
open Go
open Go.Proofs
open Go.RowKit (wrap32 wrap64)

structure api_Word where
  Kind : Int
  At : Int
  Text : Str
  Num : Int
  deriving DecidableEq, Inhabited
instance : Rep api_Word := ⟨4, fun _ _ x cs => cs = [.int .i64 x.Kind, .int .i64 x.At, .string (sv x.Text), .int .i64 x.Num], fun h => by rw [h]; rfl, fun _ h => h, fun _ h => h, fun h => by rw [h]; rfl⟩
structure text_span where
  lo_ : Int
  hi_ : Int
  deriving DecidableEq, Inhabited
instance : Rep text_span := ⟨2, fun _ _ x cs => cs = [.int .i32 x.lo_, .int .i32 x.hi_], fun h => by rw [h]; rfl, fun _ h => h, fun _ h => h, fun h => by rw [h]; rfl⟩
structure plan_reader where
  words_ : List api_Word
  at_ : Int
  end_ : Int
  deriving DecidableEq, Inhabited
instance : Rep plan_reader := ⟨3, fun u S x cs => ∃ A0 c0, cs = [.slice A0 x.words_.length c0, .int .i64 x.at_, .int .i64 x.end_] ∧ SR u S u S A0 c0 x.words_, fun h => by obtain ⟨A0, c0, h, _⟩ := h; rw [h]; rfl,
  fun ag h => by obtain ⟨A0, c0, h, h0⟩ := h; exact ⟨A0, c0, h, h0.agree ag ag⟩,
  fun hs h => by obtain ⟨A0, c0, h, h0⟩ := h; exact ⟨A0, c0, h, h0.sub hs hs⟩, fun h => by obtain ⟨A0, c0, h, _⟩ := h; rw [h]; rfl⟩
structure api_Step where
  Do : Str
  Undo : Str
  Tries : Int
  deriving DecidableEq, Inhabited
instance : Rep api_Step := ⟨3, fun _ _ x cs => cs = [.string (sv x.Do), .string (sv x.Undo), .int .i64 x.Tries], fun h => by rw [h]; rfl, fun _ h => h, fun _ h => h, fun h => by rw [h]; rfl⟩
structure api_Plan where
  Name : Str
  Pivot : Int
  Steps : List api_Step
  deriving DecidableEq, Inhabited
instance : Rep api_Plan := ⟨3, fun u S x cs => ∃ A0 c0, cs = [.string (sv x.Name), .int .i64 x.Pivot, .slice A0 x.Steps.length c0] ∧ SR u S u S A0 c0 x.Steps, fun h => by obtain ⟨A0, c0, h, _⟩ := h; rw [h]; rfl,
  fun ag h => by obtain ⟨A0, c0, h, h0⟩ := h; exact ⟨A0, c0, h, h0.agree ag ag⟩,
  fun hs h => by obtain ⟨A0, c0, h, h0⟩ := h; exact ⟨A0, c0, h, h0.sub hs hs⟩, fun h => by obtain ⟨A0, c0, h, _⟩ := h; rw [h]; rfl⟩
structure annalsref2_Piece where
  R : Int
  At : Int
  N : Int
  deriving DecidableEq, Inhabited
instance : Rep annalsref2_Piece := ⟨3, fun _ _ x cs => cs = [.int .i64 x.R, .int .i64 x.At, .int .i64 x.N], fun h => by rw [h]; rfl, fun _ h => h, fun _ h => h, fun h => by rw [h]; rfl⟩
structure T159 where
  i0_ : Int
  i1_ : Int
  deriving DecidableEq, Inhabited
instance : Rep T159 := ⟨2, fun _ _ x cs => cs = [.int .i64 x.i0_, .int .i64 x.i1_], fun h => by rw [h]; rfl, fun _ h => h, fun _ h => h, fun h => by rw [h]; rfl⟩

theorem sz75 : szIs Tryd.prog 75 1 := by unfold szIs; kernel_rfl
theorem fd77_0 (A : Addr) (w : World) : (Instr.fieldAt 77 (.pointer (some A)) 0).run Tryd.prog w = .ok (.pointer (some (A.add 0))) w :=
  R_field' 0 0 0 Tryd.underlying77 rfl sz75 A w
theorem cf34 (args : Array Value) (w : World) : (callFunc 34 args).run Tryd.prog w = .ok (.enter 34 args) w := R_call Tryd.func34 (by kernel_rfl) rfl args w
theorem cf90 (args : Array Value) (w : World) : (callFunc 90 args).run Tryd.prog w = .ok (.enter 90 args) w := R_call Tryd.func90 (by kernel_rfl) rfl args w
theorem mixed : Tryd.prog.follows .mixedOrders = true := by kernel_rfl
theorem cf89 (args : Array Value) (w : World) : (callFunc 89 args).run Tryd.prog w = .ok (.enter 89 args) w := R_call Tryd.func89 (by kernel_rfl) rfl args w
theorem cf76 (args : Array Value) (w : World) : (callFunc 76 args).run Tryd.prog w = .ok (.enter 76 args) w := R_call Tryd.func76 (by kernel_rfl) rfl args w
theorem sz5 : szIs Tryd.prog 5 1 := by unfold szIs; kernel_rfl
theorem zr5 : (Tryd.prog.info? 5).bind (·.zero) = some (.int .u8 0) := by kernel_rfl
theorem cf77 (args : Array Value) (w : World) : (callFunc 77 args).run Tryd.prog w = .ok (.enter 77 args) w := R_call Tryd.func77 (by kernel_rfl) rfl args w
theorem cf40 (args : Array Value) (w : World) : (callFunc 40 args).run Tryd.prog w = .ok (.enter 40 args) w := R_call Tryd.func40 (by kernel_rfl) rfl args w
theorem sz36 : szIs Tryd.prog 36 1 := by unfold szIs; kernel_rfl
theorem fd77_1 (A : Addr) (w : World) : (Instr.fieldAt 77 (.pointer (some A)) 1).run Tryd.prog w = .ok (.pointer (some (A.add 1))) w :=
  R_field' 1 1 0 Tryd.underlying77 rfl sz36 A w
theorem el5 : ElInfo Tryd.prog 5 1 1 := ElInfo_ex (.int .u8 0) (by kernel_rfl) rfl (by decide)
theorem bi5 : (Tryd.prog.info? 5).map (fun i => (i.zero, i.size, i.bytes)) = some (some (.int .u8 0), 1, 1) := by kernel_rfl
theorem cf75 (args : Array Value) (w : World) : (callFunc 75 args).run Tryd.prog w = .ok (.enter 75 args) w := R_call Tryd.func75 (by kernel_rfl) rfl args w
theorem ce5 : Tryd.prog.cellsOf 5 = 1 := by kernel_rfl
theorem cf48 (args : Array Value) (w : World) : (callFunc 48 args).run Tryd.prog w = .ok (.enter 48 args) w := R_call Tryd.func48 (by kernel_rfl) rfl args w
theorem cf96 (args : Array Value) (w : World) : (callFunc 96 args).run Tryd.prog w = .ok (.enter 96 args) w := R_call Tryd.func96 (by kernel_rfl) rfl args w
theorem zr153 : (Tryd.prog.info? 153).bind (·.zero) = some (.agg #[.int .u8 0, .int .u8 0, .int .u8 0, .int .u8 0, .int .u8 0, .int .u8 0, .int .u8 0, .int .u8 0, .int .u8 0, .int .u8 0, .int .u8 0, .int .u8 0, .int .u8 0, .int .u8 0, .int .u8 0, .int .u8 0, .int .u8 0, .int .u8 0, .int .u8 0, .int .u8 0, .int .u8 0, .int .u8 0, .int .u8 0, .int .u8 0, .int .u8 0, .int .u8 0, .int .u8 0, .int .u8 0, .int .u8 0, .int .u8 0, .int .u8 0, .int .u8 0, .int .u8 0, .int .u8 0, .int .u8 0, .int .u8 0, .int .u8 0, .int .u8 0, .int .u8 0, .int .u8 0, .int .u8 0, .int .u8 0, .int .u8 0, .int .u8 0, .int .u8 0, .int .u8 0, .int .u8 0, .int .u8 0, .int .u8 0, .int .u8 0, .int .u8 0, .int .u8 0, .int .u8 0, .int .u8 0, .int .u8 0, .int .u8 0, .int .u8 0, .int .u8 0, .int .u8 0, .int .u8 0, .int .u8 0, .int .u8 0, .int .u8 0, .int .u8 0, .int .u8 0]) := by kernel_rfl
theorem cf87 (args : Array Value) (w : World) : (callFunc 87 args).run Tryd.prog w = .ok (.enter 87 args) w := R_call Tryd.func87 (by kernel_rfl) rfl args w
theorem cf88 (args : Array Value) (w : World) : (callFunc 88 args).run Tryd.prog w = .ok (.enter 88 args) w := R_call Tryd.func88 (by kernel_rfl) rfl args w
theorem zr124 : (Tryd.prog.info? 124).bind (·.zero) = some (.agg #[.int .u8 0, .int .u8 0, .int .u8 0, .int .u8 0, .int .u8 0, .int .u8 0, .int .u8 0, .int .u8 0, .int .u8 0, .int .u8 0, .int .u8 0, .int .u8 0, .int .u8 0, .int .u8 0, .int .u8 0, .int .u8 0, .int .u8 0, .int .u8 0, .int .u8 0, .int .u8 0, .int .u8 0, .int .u8 0, .int .u8 0, .int .u8 0]) := by kernel_rfl
theorem cf74 (args : Array Value) (w : World) : (callFunc 74 args).run Tryd.prog w = .ok (.enter 74 args) w := R_call Tryd.func74 (by kernel_rfl) rfl args w
theorem cf54 (args : Array Value) (w : World) : (callFunc 54 args).run Tryd.prog w = .ok (.enter 54 args) w := R_call Tryd.func54 (by kernel_rfl) rfl args w
theorem cf91 (args : Array Value) (w : World) : (callFunc 91 args).run Tryd.prog w = .ok (.enter 91 args) w := R_call Tryd.func91 (by kernel_rfl) rfl args w
theorem cf55 (args : Array Value) (w : World) : (callFunc 55 args).run Tryd.prog w = .ok (.enter 55 args) w := R_call Tryd.func55 (by kernel_rfl) rfl args w
theorem cf59 (args : Array Value) (w : World) : (callFunc 59 args).run Tryd.prog w = .ok (.enter 59 args) w := R_call Tryd.func59 (by kernel_rfl) rfl args w
theorem cf92 (args : Array Value) (w : World) : (callFunc 92 args).run Tryd.prog w = .ok (.enter 92 args) w := R_call Tryd.func92 (by kernel_rfl) rfl args w
theorem zr77 : (Tryd.prog.info? 77).bind (·.zero) = some (.agg #[.pointer none, .slice none 0 0]) := by kernel_rfl
theorem cf78 (args : Array Value) (w : World) : (callFunc 78 args).run Tryd.prog w = .ok (.enter 78 args) w := R_call Tryd.func78 (by kernel_rfl) rfl args w
theorem cf79 (args : Array Value) (w : World) : (callFunc 79 args).run Tryd.prog w = .ok (.enter 79 args) w := R_call Tryd.func79 (by kernel_rfl) rfl args w
theorem cf27 (args : Array Value) (w : World) : (callFunc 27 args).run Tryd.prog w = .ok (.enter 27 args) w := R_call Tryd.func27 (by kernel_rfl) rfl args w
theorem cf29 (args : Array Value) (w : World) : (callFunc 29 args).run Tryd.prog w = .ok (.enter 29 args) w := R_call Tryd.func29 (by kernel_rfl) rfl args w
theorem cf60 (args : Array Value) (w : World) : (callFunc 60 args).run Tryd.prog w = .ok (.enter 60 args) w := R_call Tryd.func60 (by kernel_rfl) rfl args w
theorem cf58 (args : Array Value) (w : World) : (callFunc 58 args).run Tryd.prog w = .ok (.enter 58 args) w := R_call Tryd.func58 (by kernel_rfl) rfl args w
theorem zr88 : (Tryd.prog.info? 88).bind (·.zero) = some (.agg #[.int .i64 0, .int .i64 0, .string (sv []), .int .i64 0]) := by kernel_rfl
theorem cf44 (args : Array Value) (w : World) : (callFunc 44 args).run Tryd.prog w = .ok (.enter 44 args) w := R_call Tryd.func44 (by kernel_rfl) rfl args w
theorem cf61 (args : Array Value) (w : World) : (callFunc 61 args).run Tryd.prog w = .ok (.enter 61 args) w := R_call Tryd.func61 (by kernel_rfl) rfl args w
theorem pl88 (w : World) : (((match Tryd.prog.underlying 88 with | some (.struct fs) => fs | _ => #[]) : Array Field).mapM fun f => do pure (f.offset, ← sizeOf f.type) : Sem (Array (Nat × Nat))).run Tryd.prog w = .ok #[(0, 1), (1, 1), (2, 1), (3, 1)] w := by kernel_rfl
theorem sz88 : szIs Tryd.prog 88 4 := by unfold szIs; kernel_rfl
theorem sz132 : szIs Tryd.prog 132 2 := by unfold szIs; kernel_rfl
theorem sz21 : szIs Tryd.prog 21 1 := by unfold szIs; kernel_rfl
theorem fd132_0 (A : Addr) (w : World) : (Instr.fieldAt 132 (.pointer (some A)) 0).run Tryd.prog w = .ok (.pointer (some (A.add 0))) w :=
  R_field' 0 0 0 Tryd.underlying132 rfl sz21 A w
theorem fd132_1 (A : Addr) (w : World) : (Instr.fieldAt 132 (.pointer (some A)) 1).run Tryd.prog w = .ok (.pointer (some (A.add 1))) w :=
  R_field' 1 1 0 Tryd.underlying132 rfl sz21 A w
theorem cf57 (args : Array Value) (w : World) : (callFunc 57 args).run Tryd.prog w = .ok (.enter 57 args) w := R_call Tryd.func57 (by kernel_rfl) rfl args w
theorem cf56 (args : Array Value) (w : World) : (callFunc 56 args).run Tryd.prog w = .ok (.enter 56 args) w := R_call Tryd.func56 (by kernel_rfl) rfl args w
theorem cf35 (args : Array Value) (w : World) : (callFunc 35 args).run Tryd.prog w = .ok (.enter 35 args) w := R_call Tryd.func35 (by kernel_rfl) rfl args w
theorem cf43 (args : Array Value) (w : World) : (callFunc 43 args).run Tryd.prog w = .ok (.enter 43 args) w := R_call Tryd.func43 (by kernel_rfl) rfl args w
theorem cf45 (args : Array Value) (w : World) : (callFunc 45 args).run Tryd.prog w = .ok (.enter 45 args) w := R_call Tryd.func45 (by kernel_rfl) rfl args w
theorem cf46 (args : Array Value) (w : World) : (callFunc 46 args).run Tryd.prog w = .ok (.enter 46 args) w := R_call Tryd.func46 (by kernel_rfl) rfl args w
theorem cf32 (args : Array Value) (w : World) : (callFunc 32 args).run Tryd.prog w = .ok (.enter 32 args) w := R_call Tryd.func32 (by kernel_rfl) rfl args w
theorem cf33 (args : Array Value) (w : World) : (callFunc 33 args).run Tryd.prog w = .ok (.enter 33 args) w := R_call Tryd.func33 (by kernel_rfl) rfl args w
theorem sz3 : szIs Tryd.prog 3 1 := by unfold szIs; kernel_rfl
theorem fd88_1 (A : Addr) (w : World) : (Instr.fieldAt 88 (.pointer (some A)) 1).run Tryd.prog w = .ok (.pointer (some (A.add 1))) w :=
  R_field' 1 1 0 Tryd.underlying88 rfl sz3 A w
theorem el88 : ElInfo Tryd.prog 88 4 40 := ElInfo_ex (.agg #[.int .i64 0, .int .i64 0, .string (sv []), .int .i64 0]) (by kernel_rfl) rfl (by decide)
theorem fd88_0 (A : Addr) (w : World) : (Instr.fieldAt 88 (.pointer (some A)) 0).run Tryd.prog w = .ok (.pointer (some (A.add 0))) w :=
  R_field' 0 0 0 Tryd.underlying88 rfl sz3 A w
theorem fd63_1 (A : Addr) (w : World) : (Instr.fieldAt 63 (.pointer (some A)) 1).run Tryd.prog w = .ok (.pointer (some (A.add 1))) w :=
  R_field' 1 1 0 Tryd.underlying63 rfl sz3 A w
theorem sz58 : szIs Tryd.prog 58 1 := by unfold szIs; kernel_rfl
theorem fd63_0 (A : Addr) (w : World) : (Instr.fieldAt 63 (.pointer (some A)) 0).run Tryd.prog w = .ok (.pointer (some (A.add 0))) w :=
  R_field' 0 0 0 Tryd.underlying63 rfl sz58 A w
theorem sz9 : szIs Tryd.prog 9 1 := by unfold szIs; kernel_rfl
theorem fd88_2 (A : Addr) (w : World) : (Instr.fieldAt 88 (.pointer (some A)) 2).run Tryd.prog w = .ok (.pointer (some (A.add 2))) w :=
  R_field' 2 2 0 Tryd.underlying88 rfl sz9 A w
theorem cf49 (args : Array Value) (w : World) : (callFunc 49 args).run Tryd.prog w = .ok (.enter 49 args) w := R_call Tryd.func49 (by kernel_rfl) rfl args w
theorem fd63_2 (A : Addr) (w : World) : (Instr.fieldAt 63 (.pointer (some A)) 2).run Tryd.prog w = .ok (.pointer (some (A.add 2))) w :=
  R_field' 2 2 0 Tryd.underlying63 rfl sz3 A w
theorem cf36 (args : Array Value) (w : World) : (callFunc 36 args).run Tryd.prog w = .ok (.enter 36 args) w := R_call Tryd.func36 (by kernel_rfl) rfl args w
theorem zr44 : (Tryd.prog.info? 44).bind (·.zero) = some (.agg #[.string (sv []), .string (sv []), .int .i64 0]) := by kernel_rfl
theorem pl44 (w : World) : (((match Tryd.prog.underlying 44 with | some (.struct fs) => fs | _ => #[]) : Array Field).mapM fun f => do pure (f.offset, ← sizeOf f.type) : Sem (Array (Nat × Nat))).run Tryd.prog w = .ok #[(0, 1), (1, 1), (2, 1)] w := by kernel_rfl
theorem sz44 : szIs Tryd.prog 44 3 := by unfold szIs; kernel_rfl
theorem fd88_3 (A : Addr) (w : World) : (Instr.fieldAt 88 (.pointer (some A)) 3).run Tryd.prog w = .ok (.pointer (some (A.add 3))) w :=
  R_field' 3 3 0 Tryd.underlying88 rfl sz3 A w
theorem fd44_2 (A : Addr) (w : World) : (Instr.fieldAt 44 (.pointer (some A)) 2).run Tryd.prog w = .ok (.pointer (some (A.add 2))) w :=
  R_field' 2 2 0 Tryd.underlying44 rfl sz3 A w
theorem fd44_1 (A : Addr) (w : World) : (Instr.fieldAt 44 (.pointer (some A)) 1).run Tryd.prog w = .ok (.pointer (some (A.add 1))) w :=
  R_field' 1 1 0 Tryd.underlying44 rfl sz9 A w
theorem fd24_1 (A : Addr) (w : World) : (Instr.fieldAt 24 (.pointer (some A)) 1).run Tryd.prog w = .ok (.pointer (some (A.add 1))) w :=
  R_field' 1 1 0 Tryd.underlying24 rfl sz3 A w
theorem sz22 : szIs Tryd.prog 22 1 := by unfold szIs; kernel_rfl
theorem fd24_2 (A : Addr) (w : World) : (Instr.fieldAt 24 (.pointer (some A)) 2).run Tryd.prog w = .ok (.pointer (some (A.add 2))) w :=
  R_field' 2 2 0 Tryd.underlying24 rfl sz22 A w
theorem el44 : ElInfo Tryd.prog 44 3 40 := ElInfo_ex (.agg #[.string (sv []), .string (sv []), .int .i64 0]) (by kernel_rfl) rfl (by decide)
theorem zr24 : (Tryd.prog.info? 24).bind (·.zero) = some (.agg #[.string (sv []), .int .i64 0, .slice none 0 0]) := by kernel_rfl
theorem sz24 : szIs Tryd.prog 24 3 := by unfold szIs; kernel_rfl
theorem fd24_0 (A : Addr) (w : World) : (Instr.fieldAt 24 (.pointer (some A)) 0).run Tryd.prog w = .ok (.pointer (some (A.add 0))) w :=
  R_field' 0 0 0 Tryd.underlying24 rfl sz9 A w
theorem cf22 (args : Array Value) (w : World) : (callFunc 22 args).run Tryd.prog w = .ok (.enter 22 args) w := R_call Tryd.func22 (by kernel_rfl) rfl args w
theorem cf37 (args : Array Value) (w : World) : (callFunc 37 args).run Tryd.prog w = .ok (.enter 37 args) w := R_call Tryd.func37 (by kernel_rfl) rfl args w
theorem sz4 : szIs Tryd.prog 4 1 := by unfold szIs; kernel_rfl
theorem zr4 : (Tryd.prog.info? 4).bind (·.zero) = some (.bool false) := by kernel_rfl
theorem el4 : ElInfo Tryd.prog 4 1 1 := ElInfo_ex (.bool false) (by kernel_rfl) rfl (by decide)
theorem zr3 : (Tryd.prog.info? 3).bind (·.zero) = some (.int .i64 0) := by kernel_rfl
theorem el3 : ElInfo Tryd.prog 3 1 8 := ElInfo_ex (.int .i64 0) (by kernel_rfl) rfl (by decide)
theorem cf25 (args : Array Value) (w : World) : (callFunc 25 args).run Tryd.prog w = .ok (.enter 25 args) w := R_call Tryd.func25 (by kernel_rfl) rfl args w
theorem cf42 (args : Array Value) (w : World) : (callFunc 42 args).run Tryd.prog w = .ok (.enter 42 args) w := R_call Tryd.func42 (by kernel_rfl) rfl args w
theorem fd44_0 (A : Addr) (w : World) : (Instr.fieldAt 44 (.pointer (some A)) 0).run Tryd.prog w = .ok (.pointer (some (A.add 0))) w :=
  R_field' 0 0 0 Tryd.underlying44 rfl sz9 A w
theorem cf30 (args : Array Value) (w : World) : (callFunc 30 args).run Tryd.prog w = .ok (.enter 30 args) w := R_call Tryd.func30 (by kernel_rfl) rfl args w
theorem cf31 (args : Array Value) (w : World) : (callFunc 31 args).run Tryd.prog w = .ok (.enter 31 args) w := R_call Tryd.func31 (by kernel_rfl) rfl args w
theorem cf28 (args : Array Value) (w : World) : (callFunc 28 args).run Tryd.prog w = .ok (.enter 28 args) w := R_call Tryd.func28 (by kernel_rfl) rfl args w
theorem pl24 (w : World) : (((match Tryd.prog.underlying 24 with | some (.struct fs) => fs | _ => #[]) : Array Field).mapM fun f => do pure (f.offset, ← sizeOf f.type) : Sem (Array (Nat × Nat))).run Tryd.prog w = .ok #[(0, 1), (1, 1), (2, 1)] w := by kernel_rfl
theorem cf20 (args : Array Value) (w : World) : (callFunc 20 args).run Tryd.prog w = .ok (.enter 20 args) w := R_call Tryd.func20 (by kernel_rfl) rfl args w
theorem zr63 : (Tryd.prog.info? 63).bind (·.zero) = some (.agg #[.slice none 0 0, .int .i64 0, .int .i64 0]) := by kernel_rfl
theorem pl63 (w : World) : (((match Tryd.prog.underlying 63 with | some (.struct fs) => fs | _ => #[]) : Array Field).mapM fun f => do pure (f.offset, ← sizeOf f.type) : Sem (Array (Nat × Nat))).run Tryd.prog w = .ok #[(0, 1), (1, 1), (2, 1)] w := by kernel_rfl
theorem cf21 (args : Array Value) (w : World) : (callFunc 21 args).run Tryd.prog w = .ok (.enter 21 args) w := R_call Tryd.func21 (by kernel_rfl) rfl args w
theorem cf19 (args : Array Value) (w : World) : (callFunc 19 args).run Tryd.prog w = .ok (.enter 19 args) w := R_call Tryd.func19 (by kernel_rfl) rfl args w
theorem cf18 (args : Array Value) (w : World) : (callFunc 18 args).run Tryd.prog w = .ok (.enter 18 args) w := R_call Tryd.func18 (by kernel_rfl) rfl args w
theorem cf9 (args : Array Value) (w : World) : (callFunc 9 args).run Tryd.prog w = .ok (.enter 9 args) w := R_call Tryd.func9 (by kernel_rfl) rfl args w
theorem si44 : Tryd.prog.stoodInHeld 44 = false := by kernel_rfl
theorem gd44 : Tryd.prog.eqGuardType Tryd.prog.depth 44 = false := by kernel_rfl
theorem eq44 (a b : api_Step) (w : World) : (Op.equal 44 (.agg #[.string (sv a.Do), .string (sv a.Undo), .int .i64 a.Tries]) (.agg #[.string (sv b.Do), .string (sv b.Undo), .int .i64 b.Tries])).run Tryd.prog w = .ok (decide (a = b)) w := by
  obtain ⟨x0, x1, x2⟩ := a
  obtain ⟨y0, y1, y2⟩ := b
  show (Op.equalIn (9999 + 1) 44 _ _).run _ _ = _
  unfold Op.equalIn
  have hp : (program).run Tryd.prog w = .ok Tryd.prog w := rfl
  simp only [Sem.run_bind, run_underlying Tryd.underlying44, Result.andThen, hp, si44]
  by_cases h0 : x0 = y0
  case neg => simp [Sem.run_bind, Result.andThen, R_partm Tryd.underlying3 rfl, R_partm Tryd.underlying9 rfl, eqi_string 9998 9 Tryd.underlying9, eqi_int 9998 3 _ Tryd.underlying3, h0]
  by_cases h1 : x1 = y1
  case neg => simp [Sem.run_bind, Result.andThen, R_partm Tryd.underlying3 rfl, R_partm Tryd.underlying9 rfl, eqi_string 9998 9 Tryd.underlying9, eqi_int 9998 3 _ Tryd.underlying3, h0, h1]
  by_cases h2 : x2 = y2
  case neg => simp [Sem.run_bind, Result.andThen, R_partm Tryd.underlying3 rfl, R_partm Tryd.underlying9 rfl, eqi_string 9998 9 Tryd.underlying9, eqi_int 9998 3 _ Tryd.underlying3, h0, h1, h2]
  simp [Sem.run_bind, Result.andThen, R_partm Tryd.underlying3 rfl, R_partm Tryd.underlying9 rfl, eqi_string 9998 9 Tryd.underlying9, eqi_int 9998 3 _ Tryd.underlying3, h0, h1, h2]
theorem eq44_eql (x y : Operand) (a b : api_Step) {w : World} : (binS .eql 44 x y (.agg #[.string (sv a.Do), .string (sv a.Undo), .int .i64 a.Tries]) (.agg #[.string (sv b.Do), .string (sv b.Undo), .int .i64 b.Tries])).run Tryd.prog w = .ok (.bool (decide (a = b))) w := by
  have hp : (program).run Tryd.prog w = .ok Tryd.prog w := rfl
  simp [binS, eqGuard, binOp, hp, gd44, eq44 a b w, Result.andThen]
theorem eq44_neq (x y : Operand) (a b : api_Step) {w : World} : (binS .neq 44 x y (.agg #[.string (sv a.Do), .string (sv a.Undo), .int .i64 a.Tries]) (.agg #[.string (sv b.Do), .string (sv b.Undo), .int .i64 b.Tries])).run Tryd.prog w = .ok (.bool (decide (a ≠ b))) w := by
  have hp : (program).run Tryd.prog w = .ok Tryd.prog w := rfl
  simp [binS, eqGuard, binOp, hp, gd44, eq44 a b w, Result.andThen]
theorem zr147 : (Tryd.prog.info? 147).bind (·.zero) = some (.agg #[.int .i64 0, .int .i64 0, .int .i64 0]) := by kernel_rfl
theorem pl147 (w : World) : (((match Tryd.prog.underlying 147 with | some (.struct fs) => fs | _ => #[]) : Array Field).mapM fun f => do pure (f.offset, ← sizeOf f.type) : Sem (Array (Nat × Nat))).run Tryd.prog w = .ok #[(0, 1), (1, 1), (2, 1)] w := by kernel_rfl
theorem sz147 : szIs Tryd.prog 147 3 := by unfold szIs; kernel_rfl
theorem cf93 (args : Array Value) (w : World) : (callFunc 93 args).run Tryd.prog w = .ok (.enter 93 args) w := R_call Tryd.func93 (by kernel_rfl) rfl args w
theorem el147 : ElInfo Tryd.prog 147 3 24 := ElInfo_ex (.agg #[.int .i64 0, .int .i64 0, .int .i64 0]) (by kernel_rfl) rfl (by decide)
theorem fd147_2 (A : Addr) (w : World) : (Instr.fieldAt 147 (.pointer (some A)) 2).run Tryd.prog w = .ok (.pointer (some (A.add 2))) w :=
  R_field' 2 2 0 Tryd.underlying147 rfl sz3 A w
theorem sz159 : szIs Tryd.prog 159 2 := by unfold szIs; kernel_rfl
theorem cf94 (args : Array Value) (w : World) : (callFunc 94 args).run Tryd.prog w = .ok (.enter 94 args) w := R_call Tryd.func94 (by kernel_rfl) rfl args w
theorem cf82 (args : Array Value) (w : World) : (callFunc 82 args).run Tryd.prog w = .ok (.enter 82 args) w := R_call Tryd.func82 (by kernel_rfl) rfl args w
theorem cf81 (args : Array Value) (w : World) : (callFunc 81 args).run Tryd.prog w = .ok (.enter 81 args) w := R_call Tryd.func81 (by kernel_rfl) rfl args w
theorem fd147_1 (A : Addr) (w : World) : (Instr.fieldAt 147 (.pointer (some A)) 1).run Tryd.prog w = .ok (.pointer (some (A.add 1))) w :=
  R_field' 1 1 0 Tryd.underlying147 rfl sz3 A w
theorem fd147_0 (A : Addr) (w : World) : (Instr.fieldAt 147 (.pointer (some A)) 0).run Tryd.prog w = .ok (.pointer (some (A.add 0))) w :=
  R_field' 0 0 0 Tryd.underlying147 rfl sz3 A w
theorem cf83 (args : Array Value) (w : World) : (callFunc 83 args).run Tryd.prog w = .ok (.enter 83 args) w := R_call Tryd.func83 (by kernel_rfl) rfl args w
theorem cf67 (args : Array Value) (w : World) : (callFunc 67 args).run Tryd.prog w = .ok (.enter 67 args) w := R_call Tryd.func67 (by kernel_rfl) rfl args w
theorem cf51 (args : Array Value) (w : World) : (callFunc 51 args).run Tryd.prog w = .ok (.enter 51 args) w := R_call Tryd.func51 (by kernel_rfl) rfl args w
theorem cf68 (args : Array Value) (w : World) : (callFunc 68 args).run Tryd.prog w = .ok (.enter 68 args) w := R_call Tryd.func68 (by kernel_rfl) rfl args w
theorem cf69 (args : Array Value) (w : World) : (callFunc 69 args).run Tryd.prog w = .ok (.enter 69 args) w := R_call Tryd.func69 (by kernel_rfl) rfl args w
theorem cf70 (args : Array Value) (w : World) : (callFunc 70 args).run Tryd.prog w = .ok (.enter 70 args) w := R_call Tryd.func70 (by kernel_rfl) rfl args w
theorem cf52 (args : Array Value) (w : World) : (callFunc 52 args).run Tryd.prog w = .ok (.enter 52 args) w := R_call Tryd.func52 (by kernel_rfl) rfl args w
theorem cf39 (args : Array Value) (w : World) : (callFunc 39 args).run Tryd.prog w = .ok (.enter 39 args) w := R_call Tryd.func39 (by kernel_rfl) rfl args w
theorem cf8 (args : Array Value) (w : World) : (callFunc 8 args).run Tryd.prog w = .ok (.enter 8 args) w := R_call Tryd.func8 (by kernel_rfl) rfl args w
theorem cf26 (args : Array Value) (w : World) : (callFunc 26 args).run Tryd.prog w = .ok (.enter 26 args) w := R_call Tryd.func26 (by kernel_rfl) rfl args w
theorem cf10 (args : Array Value) (w : World) : (callFunc 10 args).run Tryd.prog w = .ok (.enter 10 args) w := R_call Tryd.func10 (by kernel_rfl) rfl args w
theorem cf15 (args : Array Value) (w : World) : (callFunc 15 args).run Tryd.prog w = .ok (.enter 15 args) w := R_call Tryd.func15 (by kernel_rfl) rfl args w
theorem cf7 (args : Array Value) (w : World) : (callFunc 7 args).run Tryd.prog w = .ok (.enter 7 args) w := R_call Tryd.func7 (by kernel_rfl) rfl args w
theorem cf16 (args : Array Value) (w : World) : (callFunc 16 args).run Tryd.prog w = .ok (.enter 16 args) w := R_call Tryd.func16 (by kernel_rfl) rfl args w
theorem cf17 (args : Array Value) (w : World) : (callFunc 17 args).run Tryd.prog w = .ok (.enter 17 args) w := R_call Tryd.func17 (by kernel_rfl) rfl args w
theorem cf6 (args : Array Value) (w : World) : (callFunc 6 args).run Tryd.prog w = .ok (.enter 6 args) w := R_call Tryd.func6 (by kernel_rfl) rfl args w
theorem cf11 (args : Array Value) (w : World) : (callFunc 11 args).run Tryd.prog w = .ok (.enter 11 args) w := R_call Tryd.func11 (by kernel_rfl) rfl args w

def text_letters : List text_span := [⟨65, 90⟩, ⟨97, 122⟩, ⟨192, 214⟩, ⟨216, 246⟩, ⟨248, 383⟩, ⟨913, 929⟩, ⟨931, 937⟩, ⟨940, 974⟩, ⟨1024, 1119⟩, ⟨1329, 1366⟩, ⟨1488, 1514⟩, ⟨1569, 1594⟩, ⟨1601, 1610⟩, ⟨2308, 2361⟩, ⟨3585, 3632⟩, ⟨4304, 4346⟩, ⟨12353, 12438⟩, ⟨12449, 12538⟩, ⟨19968, 40959⟩, ⟨44032, 55203⟩, ⟨66560, 66639⟩, ⟨131072, 173791⟩]
def annalsref2_letters : List T159 := [⟨65, 90⟩, ⟨97, 122⟩, ⟨192, 214⟩, ⟨216, 246⟩, ⟨248, 383⟩, ⟨913, 929⟩, ⟨931, 937⟩, ⟨940, 974⟩, ⟨1024, 1119⟩, ⟨1329, 1366⟩, ⟨1488, 1514⟩, ⟨1569, 1594⟩, ⟨1601, 1610⟩, ⟨2308, 2361⟩, ⟨3585, 3632⟩, ⟨4304, 4346⟩, ⟨12353, 12438⟩, ⟨12449, 12538⟩, ⟨19968, 40959⟩, ⟨44032, 55203⟩, ⟨66560, 66639⟩, ⟨131072, 173791⟩]
def math_bits_deBruijn32tab : List UInt8 := [0, 1, 28, 2, 29, 14, 24, 3, 30, 22, 20, 15, 25, 17, 4, 8, 31, 27, 13, 23, 21, 19, 16, 7, 26, 12, 18, 6, 11, 5, 10, 9]
def math_bits_deBruijn64tab : List UInt8 := [0, 1, 56, 2, 57, 49, 28, 3, 61, 58, 42, 50, 38, 29, 17, 4, 62, 47, 59, 36, 45, 43, 51, 22, 53, 39, 33, 30, 24, 18, 12, 5, 63, 55, 48, 27, 60, 41, 37, 16, 46, 35, 44, 21, 52, 32, 23, 11, 54, 26, 40, 15, 34, 20, 31, 10, 25, 14, 19, 9, 13, 8, 7, 6]
structure Gl (Fr : BS) (w : World) : Prop where
  t_text_letters : SR w Fr w Fr (some ⟨0, 0, none⟩) 22 text_letters
  t_annalsref2_letters : SR w Fr w Fr (some ⟨5, 0, none⟩) 22 annalsref2_letters
  t_math_bits_deBruijn32tab : SR w Fr w Fr (some ⟨6, 0, none⟩) 32 math_bits_deBruijn32tab
  t_math_bits_deBruijn64tab : SR w Fr w Fr (some ⟨7, 0, none⟩) 64 math_bits_deBruijn64tab
  utf : ∀ w', Agree Fr w w' → Lib.Utf8Tabs 2 3 w'
  pow : ∀ w', Agree Fr w w' → Lib.TabIs Tryd.prog w' "internal/strconv.uint64pow10" .u64 Lib.pow10Tab
theorem Gl.call {Fr : BS} {w W : World} {L : List Ent} (h : Gl Fr w) (M : Mem W L) (i : Nat) (hi : L[i]? = some (Fr, w)) : Gl (Un L) W := ⟨(h.t_text_letters.agree (M.agree i hi) (M.agree i hi)).sub (Un.at i hi) (Un.at i hi), (h.t_annalsref2_letters.agree (M.agree i hi) (M.agree i hi)).sub (Un.at i hi) (Un.at i hi), (h.t_math_bits_deBruijn32tab.agree (M.agree i hi) (M.agree i hi)).sub (Un.at i hi) (Un.at i hi), (h.t_math_bits_deBruijn64tab.agree (M.agree i hi) (M.agree i hi)).sub (Un.at i hi) (Un.at i hi), fun w' ag => h.utf w' ((M.agree i hi).trans (ag.sub (Un.at i hi))), fun w' ag => h.pow w' ((M.agree i hi).trans (ag.sub (Un.at i hi)))⟩

/-! ### annals/text.blank: function 32 -/
def text_blank (a0 : UInt8) : Option Bool :=
  ((if a0 = (32 : UInt8) then (some true) else (some (decide (a0 = (9 : UInt8)))))).bind (fun (z1 : Bool) => (some z1))
set_option maxRecDepth 100000 in
set_option maxHeartbeats 4000000 in
theorem text_blank_ok (a0 : UInt8) (r : Bool) (w : World) (Fr : BS) (hG : Gl Fr w) (hF : ∀ b, Fr b → b < w.heap.size)  (H : text_blank a0 = some r) :
    CallsR Tryd.prog 32 #[.int .u8 (a0.toNat : Int)] w (fun v w' => v = .bool r ∧ Mem w' [(Fr, w)]) := by
  have M0 := Mem.start w Fr hF
  refine enterZ (args := [.int .u8 (a0.toNat : Int)]) [.tmp 2] Tryd.func32 rfl rfl rfl rfl ?_
  unfold text_blank at H
  refine WC_seq ?_
  refine WC_region ?_
  refine WL_of (L_assign rfl rfl (.bool false) rfl ?_)
  refine WL_nil ?_
  refine thenN ?_
  obtain ⟨z1, hz2, H⟩ := bindS H
  refine WC_cut (fun ρ w_ => ∃  (ρ0 : Nat → Value), ρ = updL ρ0 [(2, .bool z1)] ∧ Mem w_ [(Fr, w)]) ?_ ?_
  · refine WC_region ?_
    refine WL_of (L_move rfl rfl (.int .u8 (a0.toNat : Int)) rfl ?_)
    refine WL_of (L_bin rfl rfl (.int .u8 (a0.toNat : Int)) (.int .u8 32) rfl rfl (.bool (decide (a0 = (32 : UInt8)))) (B_eql8 _ _ _ a0 (32 : UInt8)) ?_)
    refine WL_of (L_move rfl rfl (.bool (decide (a0 = (32 : UInt8)))) rfl ?_)
    by_cases c3 : a0 = (32 : UInt8)
    · replace hz2 := ifP c3 hz2
      refine WL_known 5 true (vtrue c3) ?_
      refine WL_of (WO_off rfl rfl ?_)
      refine WL_of (WO_off rfl rfl ?_)
      refine WL_of (L_pick rfl rfl true rfl (.bool true) rfl ?_)
      refine WL_of (L_assign rfl rfl (.bool true) rfl ?_)
      refine WL_nil ?_
      refine thenN ?_
      obtain rfl := someE hz2
      exact ⟨_, updL_same _ _ ⟨rfl, trivial⟩, M0⟩
    · replace hz2 := ifN c3 hz2
      refine WL_known 5 false (vfalse c3) ?_
      refine WL_of (L_move rfl rfl (.int .u8 (a0.toNat : Int)) rfl ?_)
      refine WL_of (L_bin rfl rfl (.int .u8 (a0.toNat : Int)) (.int .u8 9) rfl rfl (.bool (decide (a0 = (9 : UInt8)))) (B_eql8 _ _ _ a0 (9 : UInt8)) ?_)
      refine WL_of (L_pick rfl rfl false rfl (.bool (decide (a0 = (9 : UInt8)))) rfl ?_)
      refine WL_of (L_assign rfl rfl (.bool (decide (a0 = (9 : UInt8)))) rfl ?_)
      refine WL_nil ?_
      refine thenN ?_
      obtain rfl := someE hz2
      exact ⟨_, updL_same _ _ ⟨rfl, trivial⟩, M0⟩
  · rintro _ W4 ⟨ρ6, rfl, M5⟩
    refine WC_ret ?_
    obtain rfl := someE H
    refine retR [.bool z1] ⟨rfl, trivial⟩ ?_
    exact ⟨rfl, M5⟩

def strings_IndexByte (a0 : Str) (a1 : UInt8) : Option Int := some (Lib.indexByte a0 a1 : Int)
set_option maxRecDepth 100000 in
theorem strings_IndexByte_ok (a0 : Str) (a1 : UInt8) (r : Int) (w : World) (Fr : BS) (hG : Gl Fr w) (hF : ∀ b, Fr b → b < w.heap.size) (H : strings_IndexByte a0 a1 = some r) :
    CallsR Tryd.prog 34 #[.string (sv a0), .int .u8 (a1.toNat : Int)] w (fun v w' => v = .int .i64 r ∧ Mem w' [(Fr, w)]) := by
  obtain rfl := someE H
  refine Calls.mono (by have h := Tryd.strings_IndexByte (sv a0) (a1.toNat : Int) w; rw [show ((a1.toNat : Int).toNat.toUInt8) = a1 from by simp] at h; exact h) ?_
  rintro e w' ⟨rfl, hw⟩
  rw [hw]
  exact ⟨_, rfl, rfl, Mem.start w Fr hF⟩

def unicode_utf8_ValidRune (a0 : Int) : Option Bool := some (Lib.validRune a0)
set_option maxRecDepth 100000 in
theorem unicode_utf8_ValidRune_ok (a0 : Int) (r : Bool) (w : World) (Fr : BS) (hG : Gl Fr w) (hF : ∀ b, Fr b → b < w.heap.size) (H : unicode_utf8_ValidRune a0 = some r) :
    CallsR Tryd.prog 90 #[.int .i32 a0] w (fun v w' => v = .bool r ∧ Mem w' [(Fr, w)]) := by
  obtain rfl := someE H
  refine Calls.mono (Tryd.utf8_ValidRune a0 w) ?_
  rintro e w' ⟨rfl, hw⟩
  rw [hw]
  exact ⟨_, rfl, rfl, Mem.start w Fr hF⟩

/-! ### internal/bytealg.Cutover: function 97 -/
def internal_bytealg_Cutover (a0 : Int) : Option Int :=
  (some (wrap64 (Int.tdiv (wrap64 (a0 + 16)) 8)))
set_option maxRecDepth 100000 in
set_option maxHeartbeats 4000000 in
theorem internal_bytealg_Cutover_ok (a0 : Int) (r : Int) (w : World) (Fr : BS) (hG : Gl Fr w) (hF : ∀ b, Fr b → b < w.heap.size)  (H : internal_bytealg_Cutover a0 = some r) :
    CallsR Tryd.prog 97 #[.int .i64 a0] w (fun v w' => v = .int .i64 r ∧ Mem w' [(Fr, w)]) := by
  have M0 := Mem.start w Fr hF
  refine enterZ (args := [.int .i64 a0]) [.tmp 2] Tryd.func97 rfl rfl rfl rfl ?_
  unfold internal_bytealg_Cutover at H
  refine WC_seq ?_
  refine WC_region ?_
  refine WL_of (L_assign rfl rfl (.int .i64 0) rfl ?_)
  refine WL_nil ?_
  refine thenN ?_
  refine WC_seq ?_
  refine WC_region ?_
  refine WL_of (L_move rfl rfl (.int .i64 a0) rfl ?_)
  refine WL_of (L_bin rfl rfl (.int .i64 a0) (.int .i64 16) rfl rfl (.int .i64 (wrap64 (a0 + 16))) (B_add _ _ _ a0 16) ?_)
  refine WL_of (L_bin rfl rfl (.int .i64 (wrap64 (a0 + 16))) (.int .i64 8) rfl rfl (.int .i64 (wrap64 (Int.tdiv (wrap64 (a0 + 16)) 8))) (B_quo _ _ _ (wrap64 (a0 + 16)) 8 (by decide)) ?_)
  refine WL_of (L_assign rfl rfl (.int .i64 (wrap64 (Int.tdiv (wrap64 (a0 + 16)) 8))) rfl ?_)
  refine WL_nil ?_
  refine thenN ?_
  refine WC_ret ?_
  obtain rfl := someE H
  refine retR [.int .i64 (wrap64 (Int.tdiv (wrap64 (a0 + 16)) 8))] ⟨rfl, trivial⟩ ?_
  exact ⟨rfl, M0⟩

/-! ### strings.IndexRune: function 89 -/
mutual
def strings_IndexRune.l0 : Nat → Str → Int → Nat → Option Int
  | 0, _, _, _ => none
  | k + 1, a0, x25, i26 => (if i26 < List.length a0 then (if ((dec a0 i26).1 : Int) = 65533 then (some (i26 : Nat)) else (strings_IndexRune.l0 k a0 x25 (i26 + (dec a0 i26).2))) else (some (-1)))
def strings_IndexRune.l3 : Nat → Str → Int → Int → Int → Option Int
  | 0, _, _, _, _ => none
  | k + 1, a0, a1, x63, x90 => (if (x90 : Int) < (List.length (lit (enc a1)) : Int) then (atL a0 (wrap64 (x63 - x90))).bind (fun b99 => (atL (lit (enc a1)) (wrap64 ((wrap64 ((List.length (lit (enc a1)) : Int) - 1)) - x90))).bind (fun b101 => (if b99 ≠ b101 then none else (strings_IndexRune.l3 k a0 a1 x63 (wrap64 (x90 + 1)))))) else (some (wrap64 (x63 - (wrap64 ((List.length (lit (enc a1)) : Int) - 1))))))
def strings_IndexRune.j0 : Nat → Str → Int → Int → Option Int
  | 0, _, _, _ => none
  | k + 1, a0, a1, x63 => (strings_IndexRune.l3 k a0 a1 x63 1)
def strings_IndexRune.l1 : Nat → Str → Int → Int → Int → Option Int
  | 0, _, _, _, _ => none
  | k + 1, a0, a1, x54, x55 => (if (x55 : Int) < (List.length a0 : Int) then (atL a0 x55).bind (fun b71 => (atL (lit (enc a1)) (wrap64 ((List.length (lit (enc a1)) : Int) - 1))).bind (fun b73 => (if b71 ≠ b73 then (subS a0 (wrap64 (x55 + 1)) (List.length a0 : Int)).bind (fun q77 => (atL (lit (enc a1)) (wrap64 ((List.length (lit (enc a1)) : Int) - 1))).bind (fun b79 => (strings_IndexByte q77 b79).bind (fun (r82 : Int) => (if (r82 : Int) < 0 then (some (-1)) else (strings_IndexRune.j0 k a0 a1 (wrap64 (x55 + (wrap64 (r82 + 1))))))))) else (strings_IndexRune.j0 k a0 a1 x55)))) else (some (-1)))
end
def strings_IndexRune (k : Nat) (a0 : Str) (a1 : Int) : Option Int :=
  ((if (0 : Int) ≤ a1 then (some (decide ((a1 : Int) < 128))) else (some false))).bind (fun (z1 : Bool) => (if z1 = true then (strings_IndexByte a0 (UInt8.ofInt a1)).bind (fun (r9 : Int) => (some r9)) else (if (a1 : Int) = 65533 then (strings_IndexRune.l0 k a0 0 0) else (unicode_utf8_ValidRune a1).bind (fun (r44 : Bool) => (if (!r44) = true then (some (-1)) else (strings_IndexRune.l1 k a0 a1 0 (wrap64 ((List.length (lit (enc a1)) : Int) - 1))))))))
set_option maxRecDepth 100000 in
set_option maxHeartbeats 4000000 in
theorem strings_IndexRune_ok (k : Nat) (a0 : Str) (a1 : Int) (r : Int) (w : World) (Fr : BS) (hG : Gl Fr w) (hF : ∀ b, Fr b → b < w.heap.size)  (H : strings_IndexRune k a0 a1 = some r) :
    CallsR Tryd.prog 89 #[.string (sv a0), .int .i32 a1] w (fun v w' => v = .int .i64 r ∧ Mem w' [(Fr, w)]) := by
  have M0 := Mem.start w Fr hF
  refine enterZ (args := [.string (sv a0), .int .i32 a1]) [.tmp 4] Tryd.func89 rfl rfl rfl rfl ?_
  unfold strings_IndexRune at H
  refine WC_seq ?_
  refine WC_region ?_
  refine WL_of (L_assign rfl rfl (.int .i64 0) rfl ?_)
  refine WL_nil ?_
  refine thenN ?_
  refine WC_block ?_
  obtain ⟨z1, hz2, H⟩ := bindS H
  refine WC_cut (fun ρ w_ => ∃  (ρ0 : Nat → Value), ρ = updL ρ0 [(0, .string (sv a0)), (1, .int .i32 a1), (4, .int .i64 0), (160, .bool z1)] ∧ Mem w_ [(Fr, w)]) ?_ ?_
  · refine WC_region ?_
    refine WL_of (L_move rfl rfl (.int .i32 a1) rfl ?_)
    refine WL_of (L_bin rfl rfl (.int .i32 0) (.int .i32 a1) rfl rfl (.bool (decide ((0 : Int) ≤ a1))) (B_leq _ _ _ _ 0 a1) ?_)
    refine WL_of (L_move rfl rfl (.bool (decide ((0 : Int) ≤ a1))) rfl ?_)
    by_cases c3 : (0 : Int) ≤ a1
    · replace hz2 := ifP c3 hz2
      refine WL_known 163 true (vtrue c3) ?_
      refine WL_of (L_move rfl rfl (.int .i32 a1) rfl ?_)
      refine WL_of (L_bin rfl rfl (.int .i32 a1) (.int .i32 128) rfl rfl (.bool (decide ((a1 : Int) < 128))) (B_lss _ _ _ _ a1 128) ?_)
      refine WL_of (L_pick rfl rfl true rfl (.bool (decide ((a1 : Int) < 128))) rfl ?_)
      refine WL_of (L_assign rfl rfl (.bool (decide ((a1 : Int) < 128))) rfl ?_)
      refine WL_nil ?_
      refine thenN ?_
      obtain rfl := someE hz2
      exact ⟨_, updL_same _ _ ⟨rfl, rfl, rfl, rfl, trivial⟩, M0⟩
    · replace hz2 := ifN c3 hz2
      refine WL_known 163 false (vfalse c3) ?_
      refine WL_of (WO_off rfl rfl ?_)
      refine WL_of (WO_off rfl rfl ?_)
      refine WL_of (L_pick rfl rfl false rfl (.bool false) rfl ?_)
      refine WL_of (L_assign rfl rfl (.bool false) rfl ?_)
      refine WL_nil ?_
      refine thenN ?_
      obtain rfl := someE hz2
      exact ⟨_, updL_same _ _ ⟨rfl, rfl, rfl, rfl, trivial⟩, M0⟩
  · rintro _ W4 ⟨ρ6, rfl, M5⟩
    refine WC_ifb rfl (fun c7 => ?_) (fun c7 => ?_)
    · replace H := ifP c7 H
      refine WC_seq ?_
      refine WC_region ?_
      refine WL_of (L_move rfl rfl (.string (sv a0)) rfl ?_)
      refine WL_of (L_move rfl rfl (.int .i32 a1) rfl ?_)
      refine WL_of (L_conv rfl rfl (.int .i32 a1) rfl (.int .u8 ((UInt8.ofInt a1).toNat : Int)) (C_i64_u8 Tryd.underlying21 Tryd.underlying5 a1) ?_)
      obtain ⟨r9, hr10, H⟩ := bindS H
      refine WL_of (L_call' rfl rfl cf34 [.string (sv a0), .int .u8 ((UInt8.ofInt a1).toNat : Int)] rfl (strings_IndexByte_ok a0 (UInt8.ofInt a1) r9 _ (Un [(Fr, w)]) (hG.call M5 0 rfl) M5.frame  hr10) ?_)
      rintro _ W11 ⟨rfl, M12⟩
      have M13 : Mem W11 [(Fr, w)] := M5.back (New := []) M12
      refine WL_of (L_assign rfl rfl (.int .i64 r9) rfl ?_)
      refine WL_nil ?_
      refine thenN ?_
      refine WC_ret ?_
      refine blkR ?_
      obtain rfl := someE H
      refine retR [.int .i64 r9] ⟨rfl, trivial⟩ ?_
      exact ⟨rfl, M13⟩
    · replace H := ifN (by rw [c7]; simp) H
      refine WC_seq ?_
      refine WC_region ?_
      refine WL_of (L_move rfl rfl (.int .i32 a1) rfl ?_)
      refine WL_of (L_bin rfl rfl (.int .i32 a1) (.int .i32 65533) rfl rfl (.bool (decide ((a1 : Int) = 65533))) (B_eql _ _ _ _ a1 65533) ?_)
      refine WL_of (L_assign rfl rfl (.bool (decide ((a1 : Int) = 65533))) rfl ?_)
      refine WL_nil ?_
      refine thenN ?_
      refine WC_if (p := (a1 : Int) = 65533) rfl (fun c14 => ?_) (fun c14 => ?_)
      · replace H := ifP c14 H
        refine WC_seq ?_
        refine WC_seq ?_
        refine WC_region ?_
        refine WL_of (L_move rfl rfl (.string (sv a0)) rfl ?_)
        refine WL_of (L_range M5 rfl rfl Tryd.underlying9 a0 rfl ?_)
        intro g15 W16 hi17 M18
        refine WL_nil ?_
        refine thenN ?_
        refine WC_block ?_
        refine WC_loop (fun k32 ρ w_ => ∃ (x25 : Int) (i26 : Nat) (ρ0 : Nat → Value), ρ = updL ρ0 [(4, .int .i64 x25), (175, .pointer (some ⟨g15, 0, none⟩))] ∧ Mem w_ [(one g15, w_), (Fr, w)] ∧ w_.heap[g15]? = some (.stringIter (sv a0) i26) ∧ k32 ≤ k ∧ strings_IndexRune.l0 k32 a0 x25 i26 = some r) k ?_ ?_
        · exact ⟨0, 0, _, updL_same _ _ ⟨rfl, rfl, trivial⟩, M18, hi17, (Nat.le_refl _), H⟩
        · rintro k32 _ W28 ⟨x25, i26, ρ30, rfl, M29, hi27, hk33, H31⟩
          cases k32 with
          | zero => rw [strings_IndexRune.l0] at H31; cases H31
          | succ k32 =>
          rw [strings_IndexRune.l0] at H31
          refine WC_seq ?_
          refine WC_region ?_
          refine WL_of (L_next M29 rfl rfl hi27 rfl (fun c34 => ?_) (fun c34 => ?_))
          · replace H31 := ifP c34 H31
            intro W35 hi36 M37
            refine WL_of (L_extract rfl rfl [.bool true, .int .i64 (i26 : Nat), .int .i32 ((dec a0 i26).1)] rfl (.bool true) rfl ?_)
            refine WL_nil ?_
            refine thenN ?_
            refine WC_seq ?_
            refine WC_yes rfl ?_
            refine WC_skip ?_
            refine thenN ?_
            refine WC_block ?_
            refine WC_seq ?_
            refine WC_region ?_
            refine WL_of (L_extract rfl rfl [.bool true, .int .i64 (i26 : Nat), .int .i32 ((dec a0 i26).1)] rfl (.int .i64 (i26 : Nat)) rfl ?_)
            refine WL_of (L_extract rfl rfl [.bool true, .int .i64 (i26 : Nat), .int .i32 ((dec a0 i26).1)] rfl (.int .i32 ((dec a0 i26).1)) rfl ?_)
            refine WL_of (L_assign rfl rfl (.int .i64 (i26 : Nat)) rfl ?_)
            refine WL_of (L_assign rfl rfl (.int .i32 ((dec a0 i26).1)) rfl ?_)
            refine WL_nil ?_
            refine thenN ?_
            refine WC_seq ?_
            refine WC_region ?_
            refine WL_of (L_move rfl rfl (.int .i32 ((dec a0 i26).1)) rfl ?_)
            refine WL_of (L_bin rfl rfl (.int .i32 ((dec a0 i26).1)) (.int .i32 65533) rfl rfl (.bool (decide (((dec a0 i26).1 : Int) = 65533))) (B_eql _ _ _ _ ((dec a0 i26).1) 65533) ?_)
            refine WL_nil ?_
            refine thenN ?_
            refine WC_if (p := ((dec a0 i26).1 : Int) = 65533) rfl (fun c38 => ?_) (fun c38 => ?_)
            · replace H31 := ifP c38 H31
              refine WC_seq ?_
              refine WC_region ?_
              refine WL_of (L_move rfl rfl (.int .i64 (i26 : Nat)) rfl ?_)
              refine WL_of (L_assign rfl rfl (.int .i64 (i26 : Nat)) rfl ?_)
              refine WL_nil ?_
              refine thenN ?_
              refine WC_ret ?_
              refine blkR ?_
              refine thenR ?_
              refine blkR ?_
              refine thenR ?_
              refine blkR ?_
              obtain rfl := someE H31
              have M39 : Mem W35 [(Fr, w), (one g15, W35)] := M37.front [(one g15, W35)] rfl
              have M40 : Mem W35 [(Fr, w)] := M39.sub (List.prefix_append [(Fr, w)] [(one g15, W35)]).sublist
              refine retR [.int .i64 (i26 : Nat)] ⟨rfl, trivial⟩ ?_
              exact ⟨rfl, M40⟩
            · replace H31 := ifN c38 H31
              refine WC_skip ?_
              refine blkN ?_
              refine thenN ?_
              exact ⟨k32, by omega, x25, (i26 + (dec a0 i26).2), _, updL_same _ _ ⟨rfl, rfl, trivial⟩, M37, hi36, (by omega), H31⟩
          · replace H31 := ifN c34 H31
            refine WL_of (L_extract rfl rfl [.bool false] rfl (.bool false) rfl ?_)
            refine WL_nil ?_
            refine thenN ?_
            refine WC_seq ?_
            refine WC_no rfl ?_
            refine WC_exit ?_
            refine thenE ?_
            refine thenE ?_
            refine blkX ?_
            refine thenN ?_
            refine WC_seq ?_
            refine WC_region ?_
            refine WL_of (L_assign rfl rfl (.int .i64 (-1)) rfl ?_)
            refine WL_nil ?_
            refine thenN ?_
            refine WC_ret ?_
            refine blkR ?_
            obtain rfl := someE H31
            have M41 : Mem W28 [(Fr, w), (one g15, W28)] := M29.front [(one g15, W28)] rfl
            have M42 : Mem W28 [(Fr, w)] := M41.sub (List.prefix_append [(Fr, w)] [(one g15, W28)]).sublist
            refine retR [.int .i64 (-1)] ⟨rfl, trivial⟩ ?_
            exact ⟨rfl, M42⟩
      · replace H := ifN c14 H
        refine WC_seq ?_
        refine WC_region ?_
        refine WL_of (L_move rfl rfl (.int .i32 a1) rfl ?_)
        obtain ⟨r44, hr45, H⟩ := bindS H
        refine WL_of (L_call' rfl rfl cf90 [.int .i32 a1] rfl (unicode_utf8_ValidRune_ok a1 r44 _ (Un [(Fr, w)]) (hG.call M5 0 rfl) M5.frame  hr45) ?_)
        rintro _ W46 ⟨rfl, M47⟩
        have M48 : Mem W46 [(Fr, w)] := M5.back (New := []) M47
        refine WL_of (L_not rfl rfl r44 rfl ?_)
        refine WL_of (L_assign rfl rfl (.bool (!r44)) rfl ?_)
        refine WL_nil ?_
        refine thenN ?_
        refine WC_ifb rfl (fun c49 => ?_) (fun c49 => ?_)
        · replace H := ifP c49 H
          refine WC_seq ?_
          refine WC_region ?_
          refine WL_of (L_assign rfl rfl (.int .i64 (-1)) rfl ?_)
          refine WL_nil ?_
          refine thenN ?_
          refine WC_ret ?_
          refine blkR ?_
          obtain rfl := someE H
          refine retR [.int .i64 (-1)] ⟨rfl, trivial⟩ ?_
          exact ⟨rfl, M48⟩
        · replace H := ifN (by rw [c49]; simp) H
          refine WC_scope ?_
          refine WC_seq ?_
          refine WC_region ?_
          refine WL_of (L_move rfl rfl (.int .i32 a1) rfl ?_)
          refine WL_of (L_conv rfl rfl (.int .i32 a1) rfl (.string (sv (lit (enc a1)))) (C_rune Tryd.underlying21 Tryd.underlying9 a1) ?_)
          refine WL_of (L_assign rfl rfl (.string (sv (lit (enc a1)))) rfl ?_)
          refine WL_nil ?_
          refine thenN ?_
          refine WC_seq ?_
          refine WC_region ?_
          refine WL_of (L_move rfl rfl (.string (sv (lit (enc a1)))) rfl ?_)
          refine WL_of (L_len rfl rfl (.string (sv (lit (enc a1)))) rfl (List.length (lit (enc a1))) (N_str Tryd.underlying9 (lit (enc a1))) ?_)
          refine WL_of (L_bin rfl rfl (.int .i64 (List.length (lit (enc a1)) : Int)) (.int .i64 1) rfl rfl (.int .i64 (wrap64 ((List.length (lit (enc a1)) : Int) - 1))) (B_sub _ _ _ (List.length (lit (enc a1)) : Int) 1) ?_)
          refine WL_of (L_assign rfl rfl (.int .i64 (wrap64 ((List.length (lit (enc a1)) : Int) - 1))) rfl ?_)
          refine WL_nil ?_
          refine thenN ?_
          refine WC_seq ?_
          refine WC_region ?_
          refine WL_of (L_move rfl rfl (.int .i64 (wrap64 ((List.length (lit (enc a1)) : Int) - 1))) rfl ?_)
          refine WL_of (L_assign rfl rfl (.int .i64 (wrap64 ((List.length (lit (enc a1)) : Int) - 1))) rfl ?_)
          refine WL_nil ?_
          refine thenN ?_
          refine WC_seq ?_
          refine WC_region ?_
          refine WL_of (L_assign rfl rfl (.int .i64 0) rfl ?_)
          refine WL_nil ?_
          refine thenN ?_
          refine WC_seq ?_
          refine WC_block ?_
          refine WC_loop (fun k60 ρ w_ => ∃ (x54 : Int) (x55 : Int) (ρ0 : Nat → Value), ρ = updL ρ0 [(0, .string (sv a0)), (4, .int .i64 x54), (7, .string (sv (lit (enc a1)))), (8, .int .i64 (wrap64 ((List.length (lit (enc a1)) : Int) - 1))), (9, .int .i64 x55)] ∧ Mem w_ [(Fr, w)] ∧ k60 ≤ k ∧ strings_IndexRune.l1 k60 a0 a1 x54 x55 = some r) k ?_ ?_
          · exact ⟨0, wrap64 ((List.length (lit (enc a1)) : Int) - 1), _, updL_same _ _ ⟨rfl, rfl, rfl, rfl, rfl, trivial⟩, M48, (Nat.le_refl _), H⟩
          · rintro k60 _ W56 ⟨x54, x55, ρ58, rfl, M57, hk61, H59⟩
            cases k60 with
            | zero => rw [strings_IndexRune.l1] at H59; cases H59
            | succ k60 =>
            rw [strings_IndexRune.l1] at H59
            refine WC_seq ?_
            refine WC_seq ?_
            refine WC_region ?_
            refine WL_of (L_move rfl rfl (.int .i64 x55) rfl ?_)
            refine WL_of (L_move rfl rfl (.string (sv a0)) rfl ?_)
            refine WL_of (L_len rfl rfl (.string (sv a0)) rfl (List.length a0) (N_str Tryd.underlying9 a0) ?_)
            refine WL_of (L_bin rfl rfl (.int .i64 x55) (.int .i64 (List.length a0 : Int)) rfl rfl (.bool (decide ((x55 : Int) < (List.length a0 : Int)))) (B_lss _ _ _ _ x55 (List.length a0 : Int)) ?_)
            refine WL_nil ?_
            refine thenN ?_
            refine WC_if (p := (x55 : Int) < (List.length a0 : Int)) rfl (fun c62 => ?_) (fun c62 => ?_)
            · replace H59 := ifP c62 H59
              refine WC_skip ?_
              refine thenN ?_
              refine WC_block ?_
              refine WC_scope ?_
              refine WC_cut (fun ρ w_ => ∃ (k67 : Nat), ∃ (x63 : Int) (ρ0 : Nat → Value), ρ = updL ρ0 [(0, .string (sv a0)), (4, .int .i64 x54), (7, .string (sv (lit (enc a1)))), (8, .int .i64 (wrap64 ((List.length (lit (enc a1)) : Int) - 1))), (9, .int .i64 x63)] ∧ Mem w_ [(Fr, w)] ∧ k67 ≤ k60 ∧ strings_IndexRune.j0 k67 a0 a1 x63 = some r) ?_ ?_
              · refine WC_seq ?_
                refine WD_start (n := 7) (fun w_ => Mem w_ [(Fr, w)]) [] mixed rfl ?_
                have M70 := M57.drawn
                refine WD_take' 0 rfl (by kernel_rfl) (by kernel_rfl) (by kernel_rfl) (by kernel_rfl) (by kernel_rfl) rfl (fun _ _ _ h => h) rfl _ (M70.sub (.cons_cons _ .slnil)) rfl (fun w_ hS => L_move rfl rfl (.string (sv a0)) rfl  ⟨rfl, rfl⟩) ?_
                refine WD_take' 1 rfl (by kernel_rfl) (by kernel_rfl) (by kernel_rfl) (by kernel_rfl) (by kernel_rfl) rfl (fun _ _ _ h => h) rfl _ (M70.sub (.cons_cons _ .slnil)) rfl (fun w_ hS => L_move rfl rfl (.int .i64 x55) rfl  ⟨rfl, rfl⟩) ?_
                obtain ⟨b71, hb72, H59⟩ := bindS H59
                refine WD_take' 2 rfl (by kernel_rfl) (by kernel_rfl) (by kernel_rfl) (by kernel_rfl) (by kernel_rfl) rfl (fun _ _ _ h => h) rfl _ (M70.sub (.cons_cons _ .slnil)) rfl (fun w_ hS => L_sindex rfl rfl Tryd.underlying9 .i64 a0 x55 rfl rfl b71 hb72  ⟨rfl, rfl⟩) ?_
                refine WD_take' 3 rfl (by kernel_rfl) (by kernel_rfl) (by kernel_rfl) (by kernel_rfl) (by kernel_rfl) rfl (fun _ _ _ h => h) rfl _ (M70.sub (.cons_cons _ .slnil)) rfl (fun w_ hS => L_move rfl rfl (.string (sv (lit (enc a1)))) rfl  ⟨rfl, rfl⟩) ?_
                refine WD_take' 4 rfl (by kernel_rfl) (by kernel_rfl) (by kernel_rfl) (by kernel_rfl) (by kernel_rfl) rfl (fun _ _ _ h => h) rfl _ (M70.sub (.cons_cons _ .slnil)) rfl (fun w_ hS => L_move rfl rfl (.int .i64 (wrap64 ((List.length (lit (enc a1)) : Int) - 1))) rfl  ⟨rfl, rfl⟩) ?_
                obtain ⟨b73, hb74, H59⟩ := bindS H59
                refine WD_take' 5 rfl (by kernel_rfl) (by kernel_rfl) (by kernel_rfl) (by kernel_rfl) (by kernel_rfl) rfl (fun _ _ _ h => h) rfl _ (M70.sub (.cons_cons _ .slnil)) rfl (fun w_ hS => L_sindex rfl rfl Tryd.underlying9 .i64 (lit (enc a1)) (wrap64 ((List.length (lit (enc a1)) : Int) - 1)) rfl rfl b73 hb74  ⟨rfl, rfl⟩) ?_
                refine WD_take' 6 rfl (by kernel_rfl) (by kernel_rfl) (by kernel_rfl) (by kernel_rfl) (by kernel_rfl) rfl (fun _ _ _ h => h) rfl _ (M70.sub (.cons_cons _ .slnil)) rfl (fun w_ hS => L_bin rfl rfl (.int .u8 (b71.toNat : Int)) (.int .u8 (b73.toNat : Int)) rfl rfl (.bool (decide (b71 ≠ b73))) (B_neq8 _ _ _ b71 b73)  ⟨rfl, rfl⟩) ?_
                refine WD_done (by kernel_rfl) ?_
                refine thenN ?_
                refine WC_if (p := b71 ≠ b73) rfl (fun c75 => ?_) (fun c75 => ?_)
                · replace H59 := ifP c75 H59
                  refine WC_seq ?_
                  refine WD_start (n := 9) (fun w_ => Mem w_ [(Fr, w)]) [] mixed rfl ?_
                  have M76 := M70.drawn
                  refine WD_take' 0 rfl (by kernel_rfl) (by kernel_rfl) (by kernel_rfl) (by kernel_rfl) (by kernel_rfl) rfl (fun _ _ _ h => h) rfl _ (M76.sub (.cons_cons _ .slnil)) rfl (fun w_ hS => L_move rfl rfl (.string (sv a0)) rfl  ⟨rfl, rfl⟩) ?_
                  refine WD_take' 1 rfl (by kernel_rfl) (by kernel_rfl) (by kernel_rfl) (by kernel_rfl) (by kernel_rfl) rfl (fun _ _ _ h => h) rfl _ (M76.sub (.cons_cons _ .slnil)) rfl (fun w_ hS => L_move rfl rfl (.int .i64 x55) rfl  ⟨rfl, rfl⟩) ?_
                  refine WD_take' 2 rfl (by kernel_rfl) (by kernel_rfl) (by kernel_rfl) (by kernel_rfl) (by kernel_rfl) rfl (fun _ _ _ h => h) rfl _ (M76.sub (.cons_cons _ .slnil)) rfl (fun w_ hS => L_bin rfl rfl (.int .i64 x55) (.int .i64 1) rfl rfl (.int .i64 (wrap64 (x55 + 1))) (B_add _ _ _ x55 1)  ⟨rfl, rfl⟩) ?_
                  obtain ⟨q77, hq78, H59⟩ := bindS H59
                  refine WD_take' 3 rfl (by kernel_rfl) (by kernel_rfl) (by kernel_rfl) (by kernel_rfl) (by kernel_rfl) rfl (fun _ _ _ h => h) rfl _ (M76.sub (.cons_cons _ .slnil)) rfl (fun w_ hS => L_sslice rfl rfl Tryd.underlying9 a0 rfl (wrap64 (x55 + 1)) (List.length a0 : Int) .i64 .i64 (.inl rfl) (.inr ⟨rfl, rfl⟩) q77 hq78  ⟨rfl, rfl⟩) ?_
                  refine WD_take' 4 rfl (by kernel_rfl) (by kernel_rfl) (by kernel_rfl) (by kernel_rfl) (by kernel_rfl) rfl (fun _ _ _ h => h) rfl _ (M76.sub (.cons_cons _ .slnil)) rfl (fun w_ hS => L_move rfl rfl (.string (sv (lit (enc a1)))) rfl  ⟨rfl, rfl⟩) ?_
                  refine WD_take' 5 rfl (by kernel_rfl) (by kernel_rfl) (by kernel_rfl) (by kernel_rfl) (by kernel_rfl) rfl (fun _ _ _ h => h) rfl _ (M76.sub (.cons_cons _ .slnil)) rfl (fun w_ hS => L_move rfl rfl (.int .i64 (wrap64 ((List.length (lit (enc a1)) : Int) - 1))) rfl  ⟨rfl, rfl⟩) ?_
                  obtain ⟨b79, hb80, H59⟩ := bindS H59
                  refine WD_take' 6 rfl (by kernel_rfl) (by kernel_rfl) (by kernel_rfl) (by kernel_rfl) (by kernel_rfl) rfl (fun _ _ _ h => h) rfl _ (M76.sub (.cons_cons _ .slnil)) rfl (fun w_ hS => L_sindex rfl rfl Tryd.underlying9 .i64 (lit (enc a1)) (wrap64 ((List.length (lit (enc a1)) : Int) - 1)) rfl rfl b79 hb80  ⟨rfl, rfl⟩) ?_
                  obtain ⟨r82, hr83, H59⟩ := bindS H59
                  refine WD_one 7 rfl (by kernel_rfl) (L_call' rfl rfl cf34 [.string (sv q77), .int .u8 (b79.toNat : Int)] rfl (strings_IndexByte_ok q77 b79 r82 _ (Un [(Fr, w)]) (hG.call M76 0 rfl) M76.frame  hr83) ?_)
                  rintro _ W84 ⟨rfl, M85⟩
                  have M86 : Mem W84 [(Fr, w)] := M76.back (New := []) M85
                  refine ⟨fun _ => (M86.sub (.cons_cons _ .slnil)), ?_⟩
                  refine WD_take' 8 rfl (by kernel_rfl) (by kernel_rfl) (by kernel_rfl) (by kernel_rfl) (by kernel_rfl) rfl (fun _ _ _ h => h) rfl _ (M86.sub (.cons_cons _ .slnil)) rfl (fun w_ hS => L_assign rfl rfl (.int .i64 r82) rfl  ⟨rfl, rfl⟩) ?_
                  refine WD_done (by kernel_rfl) ?_
                  refine thenN ?_
                  refine WC_seq ?_
                  refine WC_seq ?_
                  refine WC_region ?_
                  refine WL_of (L_move rfl rfl (.int .i64 r82) rfl ?_)
                  refine WL_of (L_bin rfl rfl (.int .i64 r82) (.int .i64 0) rfl rfl (.bool (decide ((r82 : Int) < 0))) (B_lss _ _ _ _ r82 0) ?_)
                  refine WL_nil ?_
                  refine thenN ?_
                  refine WC_if (p := (r82 : Int) < 0) rfl (fun c87 => ?_) (fun c87 => ?_)
                  · replace H59 := ifP c87 H59
                    refine WC_seq ?_
                    refine WC_region ?_
                    refine WL_of (L_assign rfl rfl (.int .i64 (-1)) rfl ?_)
                    refine WL_nil ?_
                    refine thenN ?_
                    refine WC_ret ?_
                    refine thenR ?_
                    refine thenR ?_
                    refine scopeR ?_
                    refine blkR ?_
                    refine thenR ?_
                    refine blkR ?_
                    refine thenR ?_
                    refine scopeR ?_
                    refine blkR ?_
                    obtain rfl := someE H59
                    refine retR [.int .i64 (-1)] ⟨rfl, trivial⟩ ?_
                    exact ⟨rfl, M86⟩
                  · replace H59 := ifN c87 H59
                    refine WC_skip ?_
                    refine thenN ?_
                    refine WC_region ?_
                    refine WL_of (L_move rfl rfl (.int .i64 x55) rfl ?_)
                    refine WL_of (L_move rfl rfl (.int .i64 r82) rfl ?_)
                    refine WL_of (L_bin rfl rfl (.int .i64 r82) (.int .i64 1) rfl rfl (.int .i64 (wrap64 (r82 + 1))) (B_add _ _ _ r82 1) ?_)
                    refine WL_of (L_bin rfl rfl (.int .i64 x55) (.int .i64 (wrap64 (r82 + 1))) rfl rfl (.int .i64 (wrap64 (x55 + (wrap64 (r82 + 1))))) (B_add _ _ _ x55 (wrap64 (r82 + 1))) ?_)
                    refine WL_of (L_assign rfl rfl (.int .i64 (wrap64 (x55 + (wrap64 (r82 + 1))))) rfl ?_)
                    refine WL_nil ?_
                    refine thenN ?_
                    exact ⟨k60, wrap64 (x55 + (wrap64 (r82 + 1))), _, updL_same _ _ ⟨rfl, rfl, rfl, rfl, rfl, trivial⟩, M86, (by omega), H59⟩
                · replace H59 := ifN c75 H59
                  refine WC_skip ?_
                  refine thenN ?_
                  exact ⟨k60, x55, _, updL_same _ _ ⟨rfl, rfl, rfl, rfl, rfl, trivial⟩, M70, (by omega), H59⟩
              · rintro _ W64 ⟨k67, x63, ρ66, rfl, M65, hk68, H69⟩
                cases k67 with
                | zero => rw [strings_IndexRune.j0] at H69; cases H69
                | succ k67 =>
                rw [strings_IndexRune.j0] at H69
                refine WC_seq ?_
                refine WC_seq ?_
                refine WC_region ?_
                refine WL_of (L_assign rfl rfl (.int .i64 1) rfl ?_)
                refine WL_nil ?_
                refine thenN ?_
                refine WC_block ?_
                refine WC_loop (fun k95 ρ w_ => ∃ (x90 : Int) (ρ0 : Nat → Value), ρ = updL ρ0 [(0, .string (sv a0)), (4, .int .i64 x54), (7, .string (sv (lit (enc a1)))), (8, .int .i64 (wrap64 ((List.length (lit (enc a1)) : Int) - 1))), (9, .int .i64 x63), (12, .int .i64 x90)] ∧ Mem w_ [(Fr, w)] ∧ k95 ≤ k67 ∧ strings_IndexRune.l3 k95 a0 a1 x63 x90 = some r) k67 ?_ ?_
                · exact ⟨1, _, updL_same _ _ ⟨rfl, rfl, rfl, rfl, rfl, rfl, trivial⟩, M65, (Nat.le_refl _), H69⟩
                · rintro k95 _ W91 ⟨x90, ρ93, rfl, M92, hk96, H94⟩
                  cases k95 with
                  | zero => rw [strings_IndexRune.l3] at H94; cases H94
                  | succ k95 =>
                  rw [strings_IndexRune.l3] at H94
                  refine WC_seq ?_
                  refine WC_seq ?_
                  refine WC_region ?_
                  refine WL_of (L_move rfl rfl (.int .i64 x90) rfl ?_)
                  refine WL_of (L_move rfl rfl (.string (sv (lit (enc a1)))) rfl ?_)
                  refine WL_of (L_len rfl rfl (.string (sv (lit (enc a1)))) rfl (List.length (lit (enc a1))) (N_str Tryd.underlying9 (lit (enc a1))) ?_)
                  refine WL_of (L_bin rfl rfl (.int .i64 x90) (.int .i64 (List.length (lit (enc a1)) : Int)) rfl rfl (.bool (decide ((x90 : Int) < (List.length (lit (enc a1)) : Int)))) (B_lss _ _ _ _ x90 (List.length (lit (enc a1)) : Int)) ?_)
                  refine WL_nil ?_
                  refine thenN ?_
                  refine WC_if (p := (x90 : Int) < (List.length (lit (enc a1)) : Int)) rfl (fun c97 => ?_) (fun c97 => ?_)
                  · replace H94 := ifP c97 H94
                    refine WC_skip ?_
                    refine thenN ?_
                    refine WC_seq ?_
                    refine WC_block ?_
                    refine WC_seq ?_
                    refine WD_start (n := 11) (fun w_ => Mem w_ [(Fr, w)]) [] mixed rfl ?_
                    have M98 := M92.drawn
                    refine WD_take' 0 rfl (by kernel_rfl) (by kernel_rfl) (by kernel_rfl) (by kernel_rfl) (by kernel_rfl) rfl (fun _ _ _ h => h) rfl _ (M98.sub (.cons_cons _ .slnil)) rfl (fun w_ hS => L_move rfl rfl (.string (sv a0)) rfl  ⟨rfl, rfl⟩) ?_
                    refine WD_take' 1 rfl (by kernel_rfl) (by kernel_rfl) (by kernel_rfl) (by kernel_rfl) (by kernel_rfl) rfl (fun _ _ _ h => h) rfl _ (M98.sub (.cons_cons _ .slnil)) rfl (fun w_ hS => L_move rfl rfl (.int .i64 x63) rfl  ⟨rfl, rfl⟩) ?_
                    refine WD_take' 2 rfl (by kernel_rfl) (by kernel_rfl) (by kernel_rfl) (by kernel_rfl) (by kernel_rfl) rfl (fun _ _ _ h => h) rfl _ (M98.sub (.cons_cons _ .slnil)) rfl (fun w_ hS => L_move rfl rfl (.int .i64 x90) rfl  ⟨rfl, rfl⟩) ?_
                    refine WD_take' 3 rfl (by kernel_rfl) (by kernel_rfl) (by kernel_rfl) (by kernel_rfl) (by kernel_rfl) rfl (fun _ _ _ h => h) rfl _ (M98.sub (.cons_cons _ .slnil)) rfl (fun w_ hS => L_bin rfl rfl (.int .i64 x63) (.int .i64 x90) rfl rfl (.int .i64 (wrap64 (x63 - x90))) (B_sub _ _ _ x63 x90)  ⟨rfl, rfl⟩) ?_
                    obtain ⟨b99, hb100, H94⟩ := bindS H94
                    refine WD_take' 4 rfl (by kernel_rfl) (by kernel_rfl) (by kernel_rfl) (by kernel_rfl) (by kernel_rfl) rfl (fun _ _ _ h => h) rfl _ (M98.sub (.cons_cons _ .slnil)) rfl (fun w_ hS => L_sindex rfl rfl Tryd.underlying9 .i64 a0 (wrap64 (x63 - x90)) rfl rfl b99 hb100  ⟨rfl, rfl⟩) ?_
                    refine WD_take' 5 rfl (by kernel_rfl) (by kernel_rfl) (by kernel_rfl) (by kernel_rfl) (by kernel_rfl) rfl (fun _ _ _ h => h) rfl _ (M98.sub (.cons_cons _ .slnil)) rfl (fun w_ hS => L_move rfl rfl (.string (sv (lit (enc a1)))) rfl  ⟨rfl, rfl⟩) ?_
                    refine WD_take' 6 rfl (by kernel_rfl) (by kernel_rfl) (by kernel_rfl) (by kernel_rfl) (by kernel_rfl) rfl (fun _ _ _ h => h) rfl _ (M98.sub (.cons_cons _ .slnil)) rfl (fun w_ hS => L_move rfl rfl (.int .i64 (wrap64 ((List.length (lit (enc a1)) : Int) - 1))) rfl  ⟨rfl, rfl⟩) ?_
                    refine WD_take' 7 rfl (by kernel_rfl) (by kernel_rfl) (by kernel_rfl) (by kernel_rfl) (by kernel_rfl) rfl (fun _ _ _ h => h) rfl _ (M98.sub (.cons_cons _ .slnil)) rfl (fun w_ hS => L_move rfl rfl (.int .i64 x90) rfl  ⟨rfl, rfl⟩) ?_
                    refine WD_take' 8 rfl (by kernel_rfl) (by kernel_rfl) (by kernel_rfl) (by kernel_rfl) (by kernel_rfl) rfl (fun _ _ _ h => h) rfl _ (M98.sub (.cons_cons _ .slnil)) rfl (fun w_ hS => L_bin rfl rfl (.int .i64 (wrap64 ((List.length (lit (enc a1)) : Int) - 1))) (.int .i64 x90) rfl rfl (.int .i64 (wrap64 ((wrap64 ((List.length (lit (enc a1)) : Int) - 1)) - x90))) (B_sub _ _ _ (wrap64 ((List.length (lit (enc a1)) : Int) - 1)) x90)  ⟨rfl, rfl⟩) ?_
                    obtain ⟨b101, hb102, H94⟩ := bindS H94
                    refine WD_take' 9 rfl (by kernel_rfl) (by kernel_rfl) (by kernel_rfl) (by kernel_rfl) (by kernel_rfl) rfl (fun _ _ _ h => h) rfl _ (M98.sub (.cons_cons _ .slnil)) rfl (fun w_ hS => L_sindex rfl rfl Tryd.underlying9 .i64 (lit (enc a1)) (wrap64 ((wrap64 ((List.length (lit (enc a1)) : Int) - 1)) - x90)) rfl rfl b101 hb102  ⟨rfl, rfl⟩) ?_
                    refine WD_take' 10 rfl (by kernel_rfl) (by kernel_rfl) (by kernel_rfl) (by kernel_rfl) (by kernel_rfl) rfl (fun _ _ _ h => h) rfl _ (M98.sub (.cons_cons _ .slnil)) rfl (fun w_ hS => L_bin rfl rfl (.int .u8 (b99.toNat : Int)) (.int .u8 (b101.toNat : Int)) rfl rfl (.bool (decide (b99 ≠ b101))) (B_neq8 _ _ _ b99 b101)  ⟨rfl, rfl⟩) ?_
                    refine WD_done (by kernel_rfl) ?_
                    refine thenN ?_
                    refine WC_if (p := b99 ≠ b101) rfl (fun c103 => ?_) (fun c103 => ?_)
                    · replace H94 := ifP c103 H94
                      exact noneS H94
                    · replace H94 := ifN c103 H94
                      refine WC_skip ?_
                      refine blkN ?_
                      refine thenN ?_
                      refine WC_region ?_
                      refine WL_of (L_move rfl rfl (.int .i64 x90) rfl ?_)
                      refine WL_of (L_bin rfl rfl (.int .i64 x90) (.int .i64 1) rfl rfl (.int .i64 (wrap64 (x90 + 1))) (B_add _ _ _ x90 1) ?_)
                      refine WL_of (L_assign rfl rfl (.int .i64 (wrap64 (x90 + 1))) rfl ?_)
                      refine WL_nil ?_
                      refine thenN ?_
                      exact ⟨k95, by omega, wrap64 (x90 + 1), _, updL_same _ _ ⟨rfl, rfl, rfl, rfl, rfl, rfl, trivial⟩, M98, (by omega), H94⟩
                  · replace H94 := ifN c97 H94
                    refine WC_exit ?_
                    refine thenE ?_
                    refine thenE ?_
                    refine blkX ?_
                    refine thenN ?_
                    refine WC_seq ?_
                    refine WC_seq ?_
                    refine WC_region ?_
                    refine WL_of (L_move rfl rfl (.int .i64 x63) rfl ?_)
                    refine WL_of (L_move rfl rfl (.int .i64 (wrap64 ((List.length (lit (enc a1)) : Int) - 1))) rfl ?_)
                    refine WL_of (L_bin rfl rfl (.int .i64 x63) (.int .i64 (wrap64 ((List.length (lit (enc a1)) : Int) - 1))) rfl rfl (.int .i64 (wrap64 (x63 - (wrap64 ((List.length (lit (enc a1)) : Int) - 1))))) (B_sub _ _ _ x63 (wrap64 ((List.length (lit (enc a1)) : Int) - 1))) ?_)
                    refine WL_of (L_assign rfl rfl (.int .i64 (wrap64 (x63 - (wrap64 ((List.length (lit (enc a1)) : Int) - 1))))) rfl ?_)
                    refine WL_nil ?_
                    refine thenN ?_
                    refine WC_ret ?_
                    refine thenR ?_
                    refine scopeR ?_
                    refine blkR ?_
                    refine thenR ?_
                    refine blkR ?_
                    refine thenR ?_
                    refine scopeR ?_
                    refine blkR ?_
                    obtain rfl := someE H94
                    refine retR [.int .i64 (wrap64 (x63 - (wrap64 ((List.length (lit (enc a1)) : Int) - 1))))] ⟨rfl, trivial⟩ ?_
                    exact ⟨rfl, M92⟩
            · replace H59 := ifN c62 H59
              refine WC_exit ?_
              refine thenE ?_
              refine thenE ?_
              refine blkX ?_
              refine thenN ?_
              refine WC_seq ?_
              refine WC_seq ?_
              refine WC_region ?_
              refine WL_of (L_assign rfl rfl (.int .i64 (-1)) rfl ?_)
              refine WL_nil ?_
              refine thenN ?_
              refine WC_ret ?_
              refine thenR ?_
              refine scopeR ?_
              refine blkR ?_
              obtain rfl := someE H59
              refine retR [.int .i64 (-1)] ⟨rfl, trivial⟩ ?_
              exact ⟨rfl, M57⟩

/-! ### annals/text.hex: function 76 -/
def text_hex.l0 : Nat → Str → Int → Bool → Int → Nat → Option (Int × Bool)
  | 0, _, _, _, _, _ => none
  | k + 1, a0, x15, x16, x17, i18 => (if i18 < List.length a0 then (strings_IndexRune k (lit [48, 49, 50, 51, 52, 53, 54, 55, 56, 57, 97, 98, 99, 100, 101, 102]) ((dec a0 i18).1)).bind (fun (r31 : Int) => (if (r31 : Int) < 0 then (some (0, false)) else (text_hex.l0 k a0 x15 x16 (or32 (wrap32 (x17 * 2 ^ 4)) (wrap32 r31)) (i18 + (dec a0 i18).2)))) else (some (x17, true)))
def text_hex (k : Nat) (a0 : Str) : Option (Int × Bool) :=
  (text_hex.l0 k a0 0 false 0 0)
set_option maxRecDepth 100000 in
set_option maxHeartbeats 4000000 in
theorem text_hex_ok (k : Nat) (a0 : Str) (r : Int × Bool) (w : World) (Fr : BS) (hG : Gl Fr w) (hF : ∀ b, Fr b → b < w.heap.size)  (H : text_hex k a0 = some r) :
    CallsR Tryd.prog 76 #[.string (sv a0)] w (fun v w' => v = .tuple #[.int .i32 r.1, .bool r.2] ∧ Mem w' [(Fr, w)]) := by
  have M0 := Mem.start w Fr hF
  refine enterZ (args := [.string (sv a0)]) [.tmp 2, .tmp 3] Tryd.func76 rfl rfl rfl rfl ?_
  unfold text_hex at H
  refine WC_seq ?_
  refine WC_region ?_
  refine WL_of (L_assign rfl rfl (.int .i32 0) rfl ?_)
  refine WL_of (L_assign rfl rfl (.bool false) rfl ?_)
  refine WL_nil ?_
  refine thenN ?_
  refine WC_seq ?_
  refine WC_region ?_
  refine WL_of (L_assign rfl rfl (.int .i32 0) rfl ?_)
  refine WL_nil ?_
  refine thenN ?_
  refine WC_seq ?_
  refine WC_seq ?_
  refine WC_region ?_
  refine WL_of (L_move rfl rfl (.string (sv a0)) rfl ?_)
  refine WL_of (L_range M0 rfl rfl Tryd.underlying9 a0 rfl ?_)
  intro g1 W2 hi3 M4
  refine WL_nil ?_
  refine thenN ?_
  refine WC_block ?_
  refine WC_loop (fun k24 ρ w_ => ∃ (x15 : Int) (x16 : Bool) (x17 : Int) (i18 : Nat) (ρ0 : Nat → Value), ρ = updL ρ0 [(2, .int .i32 x15), (3, .bool x16), (4, .int .i32 x17), (9, .pointer (some ⟨g1, 0, none⟩))] ∧ Mem w_ [(one g1, w_), (Fr, w)] ∧ w_.heap[g1]? = some (.stringIter (sv a0) i18) ∧ k24 ≤ k ∧ text_hex.l0 k24 a0 x15 x16 x17 i18 = some r) k ?_ ?_
  · exact ⟨0, false, 0, 0, _, updL_same _ _ ⟨rfl, rfl, rfl, rfl, trivial⟩, M4, hi3, (Nat.le_refl _), H⟩
  · rintro k24 _ W20 ⟨x15, x16, x17, i18, ρ22, rfl, M21, hi19, hk25, H23⟩
    cases k24 with
    | zero => rw [text_hex.l0] at H23; cases H23
    | succ k24 =>
    rw [text_hex.l0] at H23
    refine WC_seq ?_
    refine WC_region ?_
    refine WL_of (L_next M21 rfl rfl hi19 rfl (fun c26 => ?_) (fun c26 => ?_))
    · replace H23 := ifP c26 H23
      intro W27 hi28 M29
      refine WL_of (L_extract rfl rfl [.bool true, .int .i64 (i18 : Nat), .int .i32 ((dec a0 i18).1)] rfl (.bool true) rfl ?_)
      refine WL_nil ?_
      refine thenN ?_
      refine WC_seq ?_
      refine WC_yes rfl ?_
      refine WC_skip ?_
      refine thenN ?_
      refine WC_block ?_
      refine WC_seq ?_
      refine WC_region ?_
      refine WL_of (L_extract rfl rfl [.bool true, .int .i64 (i18 : Nat), .int .i32 ((dec a0 i18).1)] rfl (.int .i32 ((dec a0 i18).1)) rfl ?_)
      refine WL_of (L_assign rfl rfl (.int .i32 ((dec a0 i18).1)) rfl ?_)
      refine WL_nil ?_
      refine thenN ?_
      refine WC_seq ?_
      refine WC_region ?_
      refine WL_of (L_move rfl rfl (.int .i32 ((dec a0 i18).1)) rfl ?_)
      obtain ⟨r31, hr32, H23⟩ := bindS H23
      refine WL_of (L_call' rfl rfl cf89 [.string (sv (lit [48, 49, 50, 51, 52, 53, 54, 55, 56, 57, 97, 98, 99, 100, 101, 102])), .int .i32 ((dec a0 i18).1)] rfl (strings_IndexRune_ok k24 (lit [48, 49, 50, 51, 52, 53, 54, 55, 56, 57, 97, 98, 99, 100, 101, 102]) ((dec a0 i18).1) r31 _ (Un [(one g1, W27), (Fr, w)]) (hG.call M29 1 rfl) M29.frame  hr32) ?_)
      rintro _ W33 ⟨rfl, M34⟩
      have M35 : Mem W33 [(one g1, W27), (Fr, w)] := M29.back (New := []) M34
      refine WL_of (L_assign rfl rfl (.int .i64 r31) rfl ?_)
      refine WL_nil ?_
      refine thenN ?_
      refine WC_seq ?_
      refine WC_seq ?_
      refine WC_region ?_
      refine WL_of (L_move rfl rfl (.int .i64 r31) rfl ?_)
      refine WL_of (L_bin rfl rfl (.int .i64 r31) (.int .i64 0) rfl rfl (.bool (decide ((r31 : Int) < 0))) (B_lss _ _ _ _ r31 0) ?_)
      refine WL_nil ?_
      refine thenN ?_
      refine WC_if (p := (r31 : Int) < 0) rfl (fun c36 => ?_) (fun c36 => ?_)
      · replace H23 := ifP c36 H23
        refine WC_seq ?_
        refine WC_region ?_
        refine WL_of (L_assign rfl rfl (.int .i32 0) rfl ?_)
        refine WL_of (L_assign rfl rfl (.bool false) rfl ?_)
        refine WL_nil ?_
        refine thenN ?_
        refine WC_ret ?_
        refine thenR ?_
        refine blkR ?_
        refine thenR ?_
        refine blkR ?_
        refine thenR ?_
        obtain rfl := someE H23
        have M37 : Mem W33 [(Fr, w), (one g1, W27)] := M35.front [(one g1, W27)] rfl
        have M38 : Mem W33 [(Fr, w)] := M37.sub (List.prefix_append [(Fr, w)] [(one g1, W27)]).sublist
        refine retR [.int .i32 0, .bool false] ⟨rfl, rfl, trivial⟩ ?_
        exact ⟨rfl, M38⟩
      · replace H23 := ifN c36 H23
        refine WC_skip ?_
        refine thenN ?_
        refine WC_region ?_
        refine WL_of (L_move rfl rfl (.int .i32 x17) rfl ?_)
        refine WL_of (L_bin rfl rfl (.int .i32 x17) (.int .u64 4) rfl rfl (.int .i32 (wrap32 (x17 * 2 ^ 4))) (B_shl32 _ _ _ x17 _ 4 rfl) ?_)
        refine WL_of (L_move rfl rfl (.int .i64 r31) rfl ?_)
        refine WL_of (L_conv rfl rfl (.int .i64 r31) rfl (.int .i32 (wrap32 r31)) (C_i64_i32 Tryd.underlying3 Tryd.underlying21 r31) ?_)
        refine WL_of (L_bin rfl rfl (.int .i32 (wrap32 (x17 * 2 ^ 4))) (.int .i32 (wrap32 r31)) rfl rfl (.int .i32 (or32 (wrap32 (x17 * 2 ^ 4)) (wrap32 r31))) (B_or32 _ _ _ (wrap32 (x17 * 2 ^ 4)) (wrap32 r31)) ?_)
        refine WL_of (L_assign rfl rfl (.int .i32 (or32 (wrap32 (x17 * 2 ^ 4)) (wrap32 r31))) rfl ?_)
        refine WL_nil ?_
        refine blkN ?_
        refine thenN ?_
        have M39 : Mem W33 [(one g1, W33), (Fr, w)] := M35.rebase
        exact ⟨k24, by omega, x15, x16, or32 (wrap32 (x17 * 2 ^ 4)) (wrap32 r31), (i18 + (dec a0 i18).2), _, updL_same _ _ ⟨rfl, rfl, rfl, rfl, trivial⟩, M39, ((M35.agree 0 rfl) _ rfl).trans hi28, (by omega), H23⟩
    · replace H23 := ifN c26 H23
      refine WL_of (L_extract rfl rfl [.bool false] rfl (.bool false) rfl ?_)
      refine WL_nil ?_
      refine thenN ?_
      refine WC_seq ?_
      refine WC_no rfl ?_
      refine WC_exit ?_
      refine thenE ?_
      refine thenE ?_
      refine blkX ?_
      refine thenN ?_
      refine WC_seq ?_
      refine WC_region ?_
      refine WL_of (L_move rfl rfl (.int .i32 x17) rfl ?_)
      refine WL_of (L_assign rfl rfl (.int .i32 x17) rfl ?_)
      refine WL_of (L_assign rfl rfl (.bool true) rfl ?_)
      refine WL_nil ?_
      refine thenN ?_
      refine WC_ret ?_
      obtain rfl := someE H23
      have M40 : Mem W20 [(Fr, w), (one g1, W20)] := M21.front [(one g1, W20)] rfl
      have M41 : Mem W20 [(Fr, w)] := M40.sub (List.prefix_append [(Fr, w)] [(one g1, W20)]).sublist
      refine retR [.int .i32 x17, .bool true] ⟨rfl, rfl, trivial⟩ ?_
      exact ⟨rfl, M41⟩

/-! ### annals/text.braced: function 77 -/
def text_braced (k : Nat) (a0 : Str) : Option (Str × Int) :=
  ((if ((List.length a0 : Int) : Int) < 2 then (some true) else (atL a0 1).bind (fun b4 => (some (decide (b4 ≠ (123 : UInt8))))))).bind (fun (z1 : Bool) => (if z1 = true then (some ((lit []), 0)) else (strings_IndexByte a0 (125 : UInt8)).bind (fun (r11 : Int) => ((if (r11 : Int) < 3 then (some true) else (some (decide ((8 : Int) < r11))))).bind (fun (z16 : Bool) => (if z16 = true then (some ((lit []), 0)) else (subS a0 2 r11).bind (fun q23 => (text_hex k q23).bind (fun (r26 : (Int × Bool)) => ((if (!r26.2) = true then (some true) else (unicode_utf8_ValidRune r26.1).bind (fun (r35 : Bool) => (some (!r35))))).bind (fun (z31 : Bool) => (if z31 = true then (some ((lit []), 0)) else (some ((lit (enc r26.1)), wrap64 (r11 + 1))))))))))))
set_option maxRecDepth 100000 in
set_option maxHeartbeats 4000000 in
theorem text_braced_ok (k : Nat) (a0 : Str) (r : Str × Int) (w : World) (Fr : BS) (hG : Gl Fr w) (hF : ∀ b, Fr b → b < w.heap.size)  (H : text_braced k a0 = some r) :
    CallsR Tryd.prog 77 #[.string (sv a0)] w (fun v w' => v = .tuple #[.string (sv r.1), .int .i64 r.2] ∧ Mem w' [(Fr, w)]) := by
  have M0 := Mem.start w Fr hF
  refine enterZ (args := [.string (sv a0)]) [.tmp 2, .tmp 3] Tryd.func77 rfl rfl rfl rfl ?_
  unfold text_braced at H
  refine WC_seq ?_
  refine WC_region ?_
  refine WL_of (L_assign rfl rfl (.string (sv (lit []))) rfl ?_)
  refine WL_of (L_assign rfl rfl (.int .i64 0) rfl ?_)
  refine WL_nil ?_
  refine thenN ?_
  refine WC_seq ?_
  obtain ⟨z1, hz2, H⟩ := bindS H
  refine WC_cut (fun ρ w_ => ∃  (ρ0 : Nat → Value), ρ = updL ρ0 [(0, .string (sv a0)), (2, .string (sv (lit []))), (3, .int .i64 0), (14, .bool z1)] ∧ Mem w_ [(Fr, w)]) ?_ ?_
  · refine WC_region ?_
    refine WL_of (L_move rfl rfl (.string (sv a0)) rfl ?_)
    refine WL_of (L_len rfl rfl (.string (sv a0)) rfl (List.length a0) (N_str Tryd.underlying9 a0) ?_)
    refine WL_of (L_bin rfl rfl (.int .i64 (List.length a0 : Int)) (.int .i64 2) rfl rfl (.bool (decide (((List.length a0 : Int) : Int) < 2))) (B_lss _ _ _ _ (List.length a0 : Int) 2) ?_)
    refine WL_of (L_move rfl rfl (.bool (decide (((List.length a0 : Int) : Int) < 2))) rfl ?_)
    by_cases c3 : ((List.length a0 : Int) : Int) < 2
    · replace hz2 := ifP c3 hz2
      refine WL_known 10 true (vtrue c3) ?_
      refine WL_of (WO_off rfl rfl ?_)
      refine WL_of (WO_off rfl rfl ?_)
      refine WL_of (WO_off rfl rfl ?_)
      refine WL_of (L_pick rfl rfl true rfl (.bool true) rfl ?_)
      refine WL_nil ?_
      refine thenN ?_
      obtain rfl := someE hz2
      exact ⟨_, updL_same _ _ ⟨rfl, rfl, rfl, rfl, trivial⟩, M0⟩
    · replace hz2 := ifN c3 hz2
      refine WL_known 10 false (vfalse c3) ?_
      refine WL_of (L_move rfl rfl (.string (sv a0)) rfl ?_)
      obtain ⟨b4, hb5, hz2⟩ := bindS hz2
      refine WL_of (L_sindex rfl rfl Tryd.underlying9 .i64 a0 1 rfl rfl b4 hb5 ?_)
      refine WL_of (L_bin rfl rfl (.int .u8 (b4.toNat : Int)) (.int .u8 123) rfl rfl (.bool (decide (b4 ≠ (123 : UInt8)))) (B_neq8 _ _ _ b4 (123 : UInt8)) ?_)
      refine WL_of (L_pick rfl rfl false rfl (.bool (decide (b4 ≠ (123 : UInt8)))) rfl ?_)
      refine WL_nil ?_
      refine thenN ?_
      obtain rfl := someE hz2
      exact ⟨_, updL_same _ _ ⟨rfl, rfl, rfl, rfl, trivial⟩, M0⟩
  · rintro _ W6 ⟨ρ8, rfl, M7⟩
    refine WC_ifb rfl (fun c9 => ?_) (fun c9 => ?_)
    · replace H := ifP c9 H
      refine WC_seq ?_
      refine WC_region ?_
      refine WL_of (L_assign rfl rfl (.string (sv (lit []))) rfl ?_)
      refine WL_of (L_assign rfl rfl (.int .i64 0) rfl ?_)
      refine WL_nil ?_
      refine thenN ?_
      refine WC_ret ?_
      refine thenR ?_
      obtain rfl := someE H
      refine retR [.string (sv (lit [])), .int .i64 0] ⟨rfl, rfl, trivial⟩ ?_
      exact ⟨rfl, M7⟩
    · replace H := ifN (by rw [c9]; simp) H
      refine WC_skip ?_
      refine thenN ?_
      refine WC_seq ?_
      refine WC_region ?_
      refine WL_of (L_move rfl rfl (.string (sv a0)) rfl ?_)
      obtain ⟨r11, hr12, H⟩ := bindS H
      refine WL_of (L_call' rfl rfl cf34 [.string (sv a0), .int .u8 125] rfl (strings_IndexByte_ok a0 (125 : UInt8) r11 _ (Un [(Fr, w)]) (hG.call M7 0 rfl) M7.frame  hr12) ?_)
      rintro _ W13 ⟨rfl, M14⟩
      have M15 : Mem W13 [(Fr, w)] := M7.back (New := []) M14
      refine WL_of (L_assign rfl rfl (.int .i64 r11) rfl ?_)
      refine WL_nil ?_
      refine thenN ?_
      refine WC_seq ?_
      obtain ⟨z16, hz17, H⟩ := bindS H
      refine WC_cut (fun ρ w_ => ∃  (ρ0 : Nat → Value), ρ = updL ρ0 [(0, .string (sv a0)), (2, .string (sv (lit []))), (3, .int .i64 0), (4, .int .i64 r11), (22, .bool z16)] ∧ Mem w_ [(Fr, w)]) ?_ ?_
      · refine WC_region ?_
        refine WL_of (L_move rfl rfl (.int .i64 r11) rfl ?_)
        refine WL_of (L_bin rfl rfl (.int .i64 r11) (.int .i64 3) rfl rfl (.bool (decide ((r11 : Int) < 3))) (B_lss _ _ _ _ r11 3) ?_)
        refine WL_of (L_move rfl rfl (.bool (decide ((r11 : Int) < 3))) rfl ?_)
        by_cases c18 : (r11 : Int) < 3
        · replace hz17 := ifP c18 hz17
          refine WL_known 19 true (vtrue c18) ?_
          refine WL_of (WO_off rfl rfl ?_)
          refine WL_of (WO_off rfl rfl ?_)
          refine WL_of (L_pick rfl rfl true rfl (.bool true) rfl ?_)
          refine WL_nil ?_
          refine thenN ?_
          obtain rfl := someE hz17
          exact ⟨_, updL_same _ _ ⟨rfl, rfl, rfl, rfl, rfl, trivial⟩, M15⟩
        · replace hz17 := ifN c18 hz17
          refine WL_known 19 false (vfalse c18) ?_
          refine WL_of (L_move rfl rfl (.int .i64 r11) rfl ?_)
          refine WL_of (L_bin rfl rfl (.int .i64 r11) (.int .i64 8) rfl rfl (.bool (decide ((8 : Int) < r11))) (B_gtr _ _ _ _ r11 8) ?_)
          refine WL_of (L_pick rfl rfl false rfl (.bool (decide ((8 : Int) < r11))) rfl ?_)
          refine WL_nil ?_
          refine thenN ?_
          obtain rfl := someE hz17
          exact ⟨_, updL_same _ _ ⟨rfl, rfl, rfl, rfl, rfl, trivial⟩, M15⟩
      · rintro _ W19 ⟨ρ21, rfl, M20⟩
        refine WC_ifb rfl (fun c22 => ?_) (fun c22 => ?_)
        · replace H := ifP c22 H
          refine WC_seq ?_
          refine WC_region ?_
          refine WL_of (L_assign rfl rfl (.string (sv (lit []))) rfl ?_)
          refine WL_of (L_assign rfl rfl (.int .i64 0) rfl ?_)
          refine WL_nil ?_
          refine thenN ?_
          refine WC_ret ?_
          refine thenR ?_
          obtain rfl := someE H
          refine retR [.string (sv (lit [])), .int .i64 0] ⟨rfl, rfl, trivial⟩ ?_
          exact ⟨rfl, M20⟩
        · replace H := ifN (by rw [c22]; simp) H
          refine WC_skip ?_
          refine thenN ?_
          refine WC_seq ?_
          refine WC_region ?_
          refine WL_of (L_move rfl rfl (.string (sv a0)) rfl ?_)
          refine WL_of (L_move rfl rfl (.int .i64 r11) rfl ?_)
          obtain ⟨q23, hq24, H⟩ := bindS H
          refine WL_of (L_sslice rfl rfl Tryd.underlying9 a0 rfl 2 r11 .i64 .i64 (.inl rfl) (.inl rfl) q23 hq24 ?_)
          obtain ⟨r26, hr27, H⟩ := bindS H
          refine WL_of (L_call' rfl rfl cf76 [.string (sv q23)] rfl (text_hex_ok k q23 r26 _ (Un [(Fr, w)]) (hG.call M20 0 rfl) M20.frame  hr27) ?_)
          rintro _ W28 ⟨rfl, M29⟩
          have M30 : Mem W28 [(Fr, w)] := M20.back (New := []) M29
          refine WL_of (L_move rfl rfl (.tuple #[.int .i32 r26.1, .bool r26.2]) rfl ?_)
          refine WL_of (L_extract rfl rfl [.int .i32 r26.1, .bool r26.2] rfl (.int .i32 r26.1) rfl ?_)
          refine WL_of (L_extract rfl rfl [.int .i32 r26.1, .bool r26.2] rfl (.bool r26.2) rfl ?_)
          refine WL_of (L_assign rfl rfl (.int .i32 r26.1) rfl ?_)
          refine WL_of (L_assign rfl rfl (.bool r26.2) rfl ?_)
          refine WL_nil ?_
          refine thenN ?_
          refine WC_seq ?_
          obtain ⟨z31, hz32, H⟩ := bindS H
          refine WC_cut (fun ρ w_ => ∃  (ρ0 : Nat → Value), ρ = updL ρ0 [(2, .string (sv (lit []))), (3, .int .i64 0), (4, .int .i64 r11), (5, .int .i32 r26.1), (36, .bool z31)] ∧ Mem w_ [(Fr, w)]) ?_ ?_
          · refine WC_region ?_
            refine WL_of (L_move rfl rfl (.bool r26.2) rfl ?_)
            refine WL_of (L_not rfl rfl r26.2 rfl ?_)
            refine WL_of (L_move rfl rfl (.bool (!r26.2)) rfl ?_)
            by_cases c33 : (!r26.2) = true
            · replace hz32 := ifP c33 hz32
              refine WL_known 32 true (wtrue c33) ?_
              refine WL_of (WO_off rfl rfl ?_)
              refine WL_of (WO_off rfl rfl ?_)
              refine WL_of (WO_off rfl rfl ?_)
              refine WL_of (L_pick rfl rfl true rfl (.bool true) rfl ?_)
              refine WL_nil ?_
              refine thenN ?_
              obtain rfl := someE hz32
              exact ⟨_, updL_same _ _ ⟨rfl, rfl, rfl, rfl, rfl, trivial⟩, M30⟩
            · replace hz32 := ifN c33 hz32
              refine WL_known 32 false (wfalse c33) ?_
              refine WL_of (L_move rfl rfl (.int .i32 r26.1) rfl ?_)
              obtain ⟨r35, hr36, hz32⟩ := bindS hz32
              refine WL_of (L_call' rfl rfl cf90 [.int .i32 r26.1] rfl (unicode_utf8_ValidRune_ok r26.1 r35 _ (Un [(Fr, w)]) (hG.call M30 0 rfl) M30.frame  hr36) ?_)
              rintro _ W37 ⟨rfl, M38⟩
              have M39 : Mem W37 [(Fr, w)] := M30.back (New := []) M38
              refine WL_of (L_not rfl rfl r35 rfl ?_)
              refine WL_of (L_pick rfl rfl false rfl (.bool (!r35)) rfl ?_)
              refine WL_nil ?_
              refine thenN ?_
              obtain rfl := someE hz32
              exact ⟨_, updL_same _ _ ⟨rfl, rfl, rfl, rfl, rfl, trivial⟩, M39⟩
          · rintro _ W40 ⟨ρ42, rfl, M41⟩
            refine WC_ifb rfl (fun c43 => ?_) (fun c43 => ?_)
            · replace H := ifP c43 H
              refine WC_seq ?_
              refine WC_region ?_
              refine WL_of (L_assign rfl rfl (.string (sv (lit []))) rfl ?_)
              refine WL_of (L_assign rfl rfl (.int .i64 0) rfl ?_)
              refine WL_nil ?_
              refine thenN ?_
              refine WC_ret ?_
              refine thenR ?_
              obtain rfl := someE H
              refine retR [.string (sv (lit [])), .int .i64 0] ⟨rfl, rfl, trivial⟩ ?_
              exact ⟨rfl, M41⟩
            · replace H := ifN (by rw [c43]; simp) H
              refine WC_skip ?_
              refine thenN ?_
              refine WC_seq ?_
              refine WC_region ?_
              refine WL_of (L_move rfl rfl (.int .i32 r26.1) rfl ?_)
              refine WL_of (L_conv rfl rfl (.int .i32 r26.1) rfl (.string (sv (lit (enc r26.1)))) (C_rune Tryd.underlying21 Tryd.underlying9 r26.1) ?_)
              refine WL_of (L_move rfl rfl (.int .i64 r11) rfl ?_)
              refine WL_of (L_bin rfl rfl (.int .i64 r11) (.int .i64 1) rfl rfl (.int .i64 (wrap64 (r11 + 1))) (B_add _ _ _ r11 1) ?_)
              refine WL_of (L_assign rfl rfl (.string (sv (lit (enc r26.1)))) rfl ?_)
              refine WL_of (L_assign rfl rfl (.int .i64 (wrap64 (r11 + 1))) rfl ?_)
              refine WL_nil ?_
              refine thenN ?_
              refine WC_ret ?_
              obtain rfl := someE H
              refine retR [.string (sv (lit (enc r26.1))), .int .i64 (wrap64 (r11 + 1))] ⟨rfl, rfl, trivial⟩ ?_
              exact ⟨rfl, M41⟩

/-! ### annals/text.unescaped: function 58 -/
def text_unescaped.j0 (k : Nat)  : Option (Str × Int) := (some ((lit []), 0))
def text_unescaped (k : Nat) (a0 : Str) : Option (Str × Int) :=
  (if (a0 : Str) = (lit []) then (some ((lit []), 0)) else (atL a0 0).bind (fun b7 => ((if b7 = (34 : UInt8) then (some (decide (b7 = (34 : UInt8)))) else (some (decide (b7 = (92 : UInt8)))))).bind (fun (z9 : Bool) => (if z9 = true then (subS a0 0 1).bind (fun q16 => (some (q16, 1))) else (if b7 = (110 : UInt8) then (some ((lit [10]), 1)) else (if b7 = (116 : UInt8) then (some ((lit [9]), 1)) else (if b7 = (114 : UInt8) then (some ((lit [13]), 1)) else (if b7 = (120 : UInt8) then (if (2 : Int) < (List.length a0 : Int) then (subS a0 1 3).bind (fun q23 => (text_hex k q23).bind (fun (r26 : (Int × Bool)) => (if r26.2 = true then (some ((lit ([UInt8.ofInt r26.1] : List UInt8)), 3)) else (text_unescaped.j0 k)))) else (text_unescaped.j0 k)) else (if b7 = (117 : UInt8) then (text_braced k a0).bind (fun (r42 : (Str × Int)) => (some (r42.1, r42.2))) else (text_unescaped.j0 k))))))))))
set_option maxRecDepth 100000 in
set_option maxHeartbeats 4000000 in
theorem text_unescaped_ok (k : Nat) (a0 : Str) (r : Str × Int) (w : World) (Fr : BS) (hG : Gl Fr w) (hF : ∀ b, Fr b → b < w.heap.size)  (H : text_unescaped k a0 = some r) :
    CallsR Tryd.prog 58 #[.string (sv a0)] w (fun v w' => v = .tuple #[.string (sv r.1), .int .i64 r.2] ∧ Mem w' [(Fr, w)]) := by
  have M0 := Mem.start w Fr hF
  refine enterZ (args := [.string (sv a0)]) [.tmp 2, .tmp 3] Tryd.func58 rfl rfl rfl rfl ?_
  unfold text_unescaped at H
  refine WC_seq ?_
  refine WC_region ?_
  refine WL_of (L_assign rfl rfl (.string (sv (lit []))) rfl ?_)
  refine WL_of (L_assign rfl rfl (.int .i64 0) rfl ?_)
  refine WL_nil ?_
  refine thenN ?_
  refine WC_seq ?_
  refine WC_seq ?_
  refine WC_region ?_
  refine WL_of (L_move rfl rfl (.string (sv a0)) rfl ?_)
  refine WL_of (L_bin rfl rfl (.string (sv a0)) (.string (sv (lit []))) rfl rfl (.bool (decide ((a0 : Str) = (lit [])))) (B_seql _ _ _ a0 (lit [])) ?_)
  refine WL_nil ?_
  refine thenN ?_
  refine WC_if (p := (a0 : Str) = (lit [])) rfl (fun c1 => ?_) (fun c1 => ?_)
  · replace H := ifP c1 H
    refine WC_seq ?_
    refine WC_region ?_
    refine WL_of (L_assign rfl rfl (.string (sv (lit []))) rfl ?_)
    refine WL_of (L_assign rfl rfl (.int .i64 0) rfl ?_)
    refine WL_nil ?_
    refine thenN ?_
    refine WC_ret ?_
    refine thenR ?_
    obtain rfl := someE H
    refine retR [.string (sv (lit [])), .int .i64 0] ⟨rfl, rfl, trivial⟩ ?_
    exact ⟨rfl, M0⟩
  · replace H := ifN c1 H
    refine WC_skip ?_
    refine thenN ?_
    refine WC_cut (fun ρ w_ => ∃  (ρ0 : Nat → Value), ρ = updL ρ0 [(2, .string (sv (lit []))), (3, .int .i64 0)] ∧ Mem w_ [(Fr, w)] ∧ text_unescaped.j0 k = some r) ?_ ?_
    · refine WC_seq ?_
      refine WC_region ?_
      refine WL_of (L_move rfl rfl (.string (sv a0)) rfl ?_)
      obtain ⟨b7, hb8, H⟩ := bindS H
      refine WL_of (L_sindex rfl rfl Tryd.underlying9 .i64 a0 0 rfl rfl b7 hb8 ?_)
      refine WL_nil ?_
      refine thenN ?_
      refine WC_block ?_
      obtain ⟨z9, hz10, H⟩ := bindS H
      refine WC_cut (fun ρ w_ => ∃  (ρ0 : Nat → Value), ρ = updL ρ0 [(0, .string (sv a0)), (2, .string (sv (lit []))), (3, .int .i64 0), (9, .int .u8 (b7.toNat : Int)), (10, .bool z9)] ∧ Mem w_ [(Fr, w)]) ?_ ?_
      · refine WC_seq ?_
        refine WC_region ?_
        refine WL_of (L_bin rfl rfl (.int .u8 (b7.toNat : Int)) (.int .u8 34) rfl rfl (.bool (decide (b7 = (34 : UInt8)))) (B_eql8 _ _ _ b7 (34 : UInt8)) ?_)
        refine WL_of (L_assign rfl rfl (.bool (decide (b7 = (34 : UInt8)))) rfl ?_)
        refine WL_nil ?_
        refine thenN ?_
        refine WC_if (p := b7 = (34 : UInt8)) rfl (fun c11 => ?_) (fun c11 => ?_)
        · replace hz10 := ifP c11 hz10
          refine WC_skip ?_
          refine thenN ?_
          obtain rfl := someE hz10
          exact ⟨_, updL_same _ _ ⟨rfl, rfl, rfl, rfl, rfl, trivial⟩, M0⟩
        · replace hz10 := ifN c11 hz10
          refine WC_region ?_
          refine WL_of (L_bin rfl rfl (.int .u8 (b7.toNat : Int)) (.int .u8 92) rfl rfl (.bool (decide (b7 = (92 : UInt8)))) (B_eql8 _ _ _ b7 (92 : UInt8)) ?_)
          refine WL_of (L_assign rfl rfl (.bool (decide (b7 = (92 : UInt8)))) rfl ?_)
          refine WL_nil ?_
          refine thenN ?_
          obtain rfl := someE hz10
          exact ⟨_, updL_same _ _ ⟨rfl, rfl, rfl, rfl, rfl, trivial⟩, M0⟩
      · rintro _ W12 ⟨ρ14, rfl, M13⟩
        refine WC_ifb rfl (fun c15 => ?_) (fun c15 => ?_)
        · replace H := ifP c15 H
          refine WC_seq ?_
          refine WC_region ?_
          refine WL_of (L_move rfl rfl (.string (sv a0)) rfl ?_)
          obtain ⟨q16, hq17, H⟩ := bindS H
          refine WL_of (L_sslice rfl rfl Tryd.underlying9 a0 rfl 0 1 .i64 .i64 (.inr ⟨rfl, rfl⟩) (.inl rfl) q16 hq17 ?_)
          refine WL_of (L_assign rfl rfl (.string (sv q16)) rfl ?_)
          refine WL_of (L_assign rfl rfl (.int .i64 1) rfl ?_)
          refine WL_nil ?_
          refine thenN ?_
          refine WC_ret ?_
          refine blkR ?_
          refine thenR ?_
          obtain rfl := someE H
          refine retR [.string (sv q16), .int .i64 1] ⟨rfl, rfl, trivial⟩ ?_
          exact ⟨rfl, M13⟩
        · replace H := ifN (by rw [c15]; simp) H
          refine WC_seq ?_
          refine WC_region ?_
          refine WL_of (L_bin rfl rfl (.int .u8 (b7.toNat : Int)) (.int .u8 110) rfl rfl (.bool (decide (b7 = (110 : UInt8)))) (B_eql8 _ _ _ b7 (110 : UInt8)) ?_)
          refine WL_of (L_assign rfl rfl (.bool (decide (b7 = (110 : UInt8)))) rfl ?_)
          refine WL_nil ?_
          refine thenN ?_
          refine WC_if (p := b7 = (110 : UInt8)) rfl (fun c18 => ?_) (fun c18 => ?_)
          · replace H := ifP c18 H
            refine WC_seq ?_
            refine WC_region ?_
            refine WL_of (L_assign rfl rfl (.string (sv (lit [10]))) rfl ?_)
            refine WL_of (L_assign rfl rfl (.int .i64 1) rfl ?_)
            refine WL_nil ?_
            refine thenN ?_
            refine WC_ret ?_
            refine blkR ?_
            refine thenR ?_
            obtain rfl := someE H
            refine retR [.string (sv (lit [10])), .int .i64 1] ⟨rfl, rfl, trivial⟩ ?_
            exact ⟨rfl, M13⟩
          · replace H := ifN c18 H
            refine WC_seq ?_
            refine WC_region ?_
            refine WL_of (L_bin rfl rfl (.int .u8 (b7.toNat : Int)) (.int .u8 116) rfl rfl (.bool (decide (b7 = (116 : UInt8)))) (B_eql8 _ _ _ b7 (116 : UInt8)) ?_)
            refine WL_of (L_assign rfl rfl (.bool (decide (b7 = (116 : UInt8)))) rfl ?_)
            refine WL_nil ?_
            refine thenN ?_
            refine WC_if (p := b7 = (116 : UInt8)) rfl (fun c19 => ?_) (fun c19 => ?_)
            · replace H := ifP c19 H
              refine WC_seq ?_
              refine WC_region ?_
              refine WL_of (L_assign rfl rfl (.string (sv (lit [9]))) rfl ?_)
              refine WL_of (L_assign rfl rfl (.int .i64 1) rfl ?_)
              refine WL_nil ?_
              refine thenN ?_
              refine WC_ret ?_
              refine blkR ?_
              refine thenR ?_
              obtain rfl := someE H
              refine retR [.string (sv (lit [9])), .int .i64 1] ⟨rfl, rfl, trivial⟩ ?_
              exact ⟨rfl, M13⟩
            · replace H := ifN c19 H
              refine WC_seq ?_
              refine WC_region ?_
              refine WL_of (L_bin rfl rfl (.int .u8 (b7.toNat : Int)) (.int .u8 114) rfl rfl (.bool (decide (b7 = (114 : UInt8)))) (B_eql8 _ _ _ b7 (114 : UInt8)) ?_)
              refine WL_of (L_assign rfl rfl (.bool (decide (b7 = (114 : UInt8)))) rfl ?_)
              refine WL_nil ?_
              refine thenN ?_
              refine WC_if (p := b7 = (114 : UInt8)) rfl (fun c20 => ?_) (fun c20 => ?_)
              · replace H := ifP c20 H
                refine WC_seq ?_
                refine WC_region ?_
                refine WL_of (L_assign rfl rfl (.string (sv (lit [13]))) rfl ?_)
                refine WL_of (L_assign rfl rfl (.int .i64 1) rfl ?_)
                refine WL_nil ?_
                refine thenN ?_
                refine WC_ret ?_
                refine blkR ?_
                refine thenR ?_
                obtain rfl := someE H
                refine retR [.string (sv (lit [13])), .int .i64 1] ⟨rfl, rfl, trivial⟩ ?_
                exact ⟨rfl, M13⟩
              · replace H := ifN c20 H
                refine WC_seq ?_
                refine WC_region ?_
                refine WL_of (L_bin rfl rfl (.int .u8 (b7.toNat : Int)) (.int .u8 120) rfl rfl (.bool (decide (b7 = (120 : UInt8)))) (B_eql8 _ _ _ b7 (120 : UInt8)) ?_)
                refine WL_of (L_assign rfl rfl (.bool (decide (b7 = (120 : UInt8)))) rfl ?_)
                refine WL_nil ?_
                refine thenN ?_
                refine WC_if (p := b7 = (120 : UInt8)) rfl (fun c21 => ?_) (fun c21 => ?_)
                · replace H := ifP c21 H
                  refine WC_seq ?_
                  refine WC_region ?_
                  refine WL_of (L_move rfl rfl (.string (sv a0)) rfl ?_)
                  refine WL_of (L_len rfl rfl (.string (sv a0)) rfl (List.length a0) (N_str Tryd.underlying9 a0) ?_)
                  refine WL_of (L_bin rfl rfl (.int .i64 (List.length a0 : Int)) (.int .i64 2) rfl rfl (.bool (decide ((2 : Int) < (List.length a0 : Int)))) (B_gtr _ _ _ _ (List.length a0 : Int) 2) ?_)
                  refine WL_nil ?_
                  refine thenN ?_
                  refine WC_if (p := (2 : Int) < (List.length a0 : Int)) rfl (fun c22 => ?_) (fun c22 => ?_)
                  · replace H := ifP c22 H
                    refine WC_seq ?_
                    refine WC_region ?_
                    refine WL_of (L_move rfl rfl (.string (sv a0)) rfl ?_)
                    obtain ⟨q23, hq24, H⟩ := bindS H
                    refine WL_of (L_sslice rfl rfl Tryd.underlying9 a0 rfl 1 3 .i64 .i64 (.inl rfl) (.inl rfl) q23 hq24 ?_)
                    obtain ⟨r26, hr27, H⟩ := bindS H
                    refine WL_of (L_call' rfl rfl cf76 [.string (sv q23)] rfl (text_hex_ok k q23 r26 _ (Un [(Fr, w)]) (hG.call M13 0 rfl) M13.frame  hr27) ?_)
                    rintro _ W28 ⟨rfl, M29⟩
                    have M30 : Mem W28 [(Fr, w)] := M13.back (New := []) M29
                    refine WL_of (L_move rfl rfl (.tuple #[.int .i32 r26.1, .bool r26.2]) rfl ?_)
                    refine WL_of (L_extract rfl rfl [.int .i32 r26.1, .bool r26.2] rfl (.int .i32 r26.1) rfl ?_)
                    refine WL_of (L_extract rfl rfl [.int .i32 r26.1, .bool r26.2] rfl (.bool r26.2) rfl ?_)
                    refine WL_of (L_assign rfl rfl (.int .i32 r26.1) rfl ?_)
                    refine WL_of (L_assign rfl rfl (.bool r26.2) rfl ?_)
                    refine WL_nil ?_
                    refine thenN ?_
                    refine WC_seq ?_
                    refine WC_region ?_
                    refine WL_of (L_move rfl rfl (.bool r26.2) rfl ?_)
                    refine WL_nil ?_
                    refine thenN ?_
                    refine WC_ifb rfl (fun c31 => ?_) (fun c31 => ?_)
                    · replace H := ifP c31 H
                      refine WC_seq ?_
                      refine WC_region ?_
                      refine WL_of (L_move rfl rfl (.int .i32 r26.1) rfl ?_)
                      refine WL_of (L_conv rfl rfl (.int .i32 r26.1) rfl (.int .u8 ((UInt8.ofInt r26.1).toNat : Int)) (C_i64_u8 Tryd.underlying21 Tryd.underlying5 r26.1) ?_)
                      refine WL_of (L_buildSlice' M30 rfl rfl [(0, .int .u8 ((UInt8.ofInt r26.1).toNat : Int))] rfl Tryd.underlying36 sz5 zr5 rfl rfl [.int .u8 ((UInt8.ofInt r26.1).toNat : Int)] (by kernel_rfl) ?_)
                      intro g32 W33 B34 M35
                      have ho36 : OR W33 (one g32) W33 none0 5 (some ⟨g32, 0, none⟩) 1 ([UInt8.ofInt r26.1] : List UInt8) := OR.lit (xs := ([UInt8.ofInt r26.1] : List UInt8)) (css := [[.int .u8 ((UInt8.ofInt r26.1).toNat : Int)]]) B34 (⟨rfl, trivial⟩) rfl (Nat.le_of_ble_eq_true rfl)
                      have hs37 := ho36.sr
                      refine WL_of (L_conv rfl rfl (.slice (some ⟨g32, 0, none⟩) 1 1) rfl (.string (sv (lit ([UInt8.ofInt r26.1] : List UInt8)))) (C_bytes Tryd.underlying36 Tryd.underlying5 Tryd.underlying9 hs37 (M35.agree 0 rfl)) ?_)
                      refine WL_of (L_assign rfl rfl (.string (sv (lit ([UInt8.ofInt r26.1] : List UInt8)))) rfl ?_)
                      refine WL_of (L_assign rfl rfl (.int .i64 3) rfl ?_)
                      refine WL_nil ?_
                      refine thenN ?_
                      refine WC_ret ?_
                      refine blkR ?_
                      refine thenR ?_
                      obtain rfl := someE H
                      have M38 : Mem W33 [(Fr, w), (one g32, W33)] := M35.front [(one g32, W33)] rfl
                      have M39 : Mem W33 [(Fr, w)] := M38.sub (List.prefix_append [(Fr, w)] [(one g32, W33)]).sublist
                      refine retR [.string (sv (lit ([UInt8.ofInt r26.1] : List UInt8))), .int .i64 3] ⟨rfl, rfl, trivial⟩ ?_
                      exact ⟨rfl, M39⟩
                    · replace H := ifN (by rw [c31]; simp) H
                      refine WC_skip ?_
                      refine blkN ?_
                      refine thenN ?_
                      exact ⟨_, updL_same _ _ ⟨rfl, rfl, trivial⟩, M30, H⟩
                  · replace H := ifN c22 H
                    refine WC_skip ?_
                    refine blkN ?_
                    refine thenN ?_
                    exact ⟨_, updL_same _ _ ⟨rfl, rfl, trivial⟩, M13, H⟩
                · replace H := ifN c21 H
                  refine WC_seq ?_
                  refine WC_region ?_
                  refine WL_of (L_bin rfl rfl (.int .u8 (b7.toNat : Int)) (.int .u8 117) rfl rfl (.bool (decide (b7 = (117 : UInt8)))) (B_eql8 _ _ _ b7 (117 : UInt8)) ?_)
                  refine WL_of (L_assign rfl rfl (.bool (decide (b7 = (117 : UInt8)))) rfl ?_)
                  refine WL_nil ?_
                  refine thenN ?_
                  refine WC_if (p := b7 = (117 : UInt8)) rfl (fun c40 => ?_) (fun c40 => ?_)
                  · replace H := ifP c40 H
                    refine WC_seq ?_
                    refine WC_region ?_
                    refine WL_of (L_move rfl rfl (.string (sv a0)) rfl ?_)
                    obtain ⟨r42, hr43, H⟩ := bindS H
                    refine WL_of (L_call' rfl rfl cf77 [.string (sv a0)] rfl (text_braced_ok k a0 r42 _ (Un [(Fr, w)]) (hG.call M13 0 rfl) M13.frame  hr43) ?_)
                    rintro _ W44 ⟨rfl, M45⟩
                    have M46 : Mem W44 [(Fr, w)] := M13.back (New := []) M45
                    refine WL_of (L_extract rfl rfl [.string (sv r42.1), .int .i64 r42.2] rfl (.string (sv r42.1)) rfl ?_)
                    refine WL_of (L_extract rfl rfl [.string (sv r42.1), .int .i64 r42.2] rfl (.int .i64 r42.2) rfl ?_)
                    refine WL_of (L_assign rfl rfl (.string (sv r42.1)) rfl ?_)
                    refine WL_of (L_assign rfl rfl (.int .i64 r42.2) rfl ?_)
                    refine WL_nil ?_
                    refine thenN ?_
                    refine WC_ret ?_
                    refine blkR ?_
                    refine thenR ?_
                    obtain rfl := someE H
                    refine retR [.string (sv r42.1), .int .i64 r42.2] ⟨rfl, rfl, trivial⟩ ?_
                    exact ⟨rfl, M46⟩
                  · replace H := ifN c40 H
                    refine WC_skip ?_
                    refine blkN ?_
                    refine thenN ?_
                    exact ⟨_, updL_same _ _ ⟨rfl, rfl, trivial⟩, M13, H⟩
    · rintro _ W2 ⟨ρ4, rfl, M3, H6⟩
      rw [text_unescaped.j0] at H6
      refine WC_seq ?_
      refine WC_region ?_
      refine WL_of (L_assign rfl rfl (.string (sv (lit []))) rfl ?_)
      refine WL_of (L_assign rfl rfl (.int .i64 0) rfl ?_)
      refine WL_nil ?_
      refine thenN ?_
      refine WC_ret ?_
      obtain rfl := someE H6
      refine retR [.string (sv (lit [])), .int .i64 0] ⟨rfl, rfl, trivial⟩ ?_
      exact ⟨rfl, M3⟩

theorem in77 : (Tryd.prog.info? 77).map (·.size) = some 2 := by kernel_rfl
theorem ne53 (v : Value) (w : World) : (callFunc 53 #[v]).run Tryd.prog w = .ok (.value v) w := by
  rw [run_callFunc_extern Tryd.func53 (by kernel_rfl) (by kernel_rfl) (by kernel_rfl) (e := Extern.AbiNoEscape.same) (by kernel_rfl), Lib.run_noEscape]; rfl
theorem li77 : liesAt Tryd.prog Tryd.prog.depth 77 (2 / Tryd.prog.cellsOf 77) 0 77 1 = true := by kernel_rfl
def strings_Builder_copyCheck (_ : List UInt8) : Option Unit := some ()
set_option maxRecDepth 100000 in
set_option maxHeartbeats 4000000 in
theorem strings_Builder_copyCheck_ok (a0 : List UInt8) (g : Nat) (ad : Value) (had : ad = .pointer none ∨ ad = .pointer (some ⟨g, 0, none⟩)) (A : Option Addr) (c : Nat) (r : Unit) (w : World) (Fr : BS) (hG : Gl Fr w) (M0 : Mem w [(one g, w), (Fr, w)])
    (h : SR w Fr w Fr A c a0) (hB : Bx w g [ad, .slice A (List.length a0) c] 77) (H : strings_Builder_copyCheck a0 = some r) :
    CallsR Tryd.prog 40 #[.pointer (some ⟨g, 0, none⟩)] w (fun v w' => ∃ (ad0 : Value), v = .tuple #[] ∧ Mem w' [(one g, w'), (Fr, w)] ∧ Bx w' g [ad0, .slice A (List.length a0) c] 77 ∧ (ad0 = .pointer none ∨ ad0 = .pointer (some ⟨g, 0, none⟩))) := by
  obtain ⟨j, hj, hjs⟩ := Option.map_eq_some_iff.1 in77
  refine enterZ (args := [.pointer (some ⟨g, 0, none⟩)]) [] Tryd.func40 rfl rfl rfl rfl ?_
  rcases had with rfl | rfl
  · refine WC_seq ?_
    refine WC_region ?_
    refine WL_of (L_move rfl rfl _ rfl ?_)
    refine WL_of (L_nilCheck rfl rfl ⟨g, 0, none⟩ rfl ?_)
    refine WL_of (L_field rfl rfl fd77_0 ⟨g, 0, none⟩ rfl ?_)
    refine WL_of (L_load1 rfl rfl Tryd.underlying75 rfl hB.el (M0.agree 0 rfl) 0 rfl (.pointer none) rfl ?_)
    refine WL_of (L_bin rfl rfl (.pointer none) (.pointer none) rfl rfl (.bool true) (B_peqn _ _ Tryd.underlying75 none) ?_)
    refine WL_nil ?_
    refine thenN ?_
    refine WC_yes rfl ?_
    refine WC_region ?_
    refine WL_of (L_move rfl rfl _ rfl ?_)
    refine WL_of (L_move rfl rfl _ rfl ?_)
    refine WL_of (L_conv rfl rfl (.pointer (some ⟨g, 0, none⟩)) rfl (.pointer (some ⟨g, 0, none⟩)) (Lib.run_to_unsafe w ⟨g, 0, none⟩ Tryd.underlying75 Tryd.underlying110 hj (by rw [hjs]; decide) (e := 77) (cells := 2) (by simp [World.shape?, show w.heap[g]? = _ from hB]) (Nat.zero_lt_succ 1)) ?_)
    refine WL_of (L_extern rfl rfl [.pointer (some ⟨g, 0, none⟩)] rfl _ (ne53 _ w) ?_)
    refine WL_of (L_conv rfl rfl (.pointer (some ⟨g, 0, none⟩)) rfl (.pointer (some ⟨g, 0, none⟩)) (Lib.run_from_unsafe w ⟨g, 0, none⟩ Tryd.underlying110 Tryd.underlying75 hj (e := 77) (cells := 2) (by simp [World.shape?, show w.heap[g]? = _ from hB]) li77) ?_)
    refine WL_of (L_nilCheck rfl rfl ⟨g, 0, none⟩ rfl ?_)
    refine WL_of (L_field rfl rfl fd77_0 ⟨g, 0, none⟩ rfl ?_)
    refine WL_of (L_store M0 rfl (.pointer (some ⟨g, 0, none⟩)) rfl [.pointer (some ⟨g, 0, none⟩)] rfl 1 sz75 rfl rfl rfl hB rfl rfl [.pointer (some ⟨g, 0, none⟩), .slice A (List.length a0) c] rfl ?_)
    intro W B M
    refine WL_nil ?_
    refine retN [] ⟨⟩ ?_
    exact ⟨_, rfl, M, B, .inr rfl⟩
  · refine WC_seq ?_
    refine WC_region ?_
    refine WL_of (L_move rfl rfl _ rfl ?_)
    refine WL_of (L_nilCheck rfl rfl ⟨g, 0, none⟩ rfl ?_)
    refine WL_of (L_field rfl rfl fd77_0 ⟨g, 0, none⟩ rfl ?_)
    refine WL_of (L_load1 rfl rfl Tryd.underlying75 rfl hB.el (M0.agree 0 rfl) 0 rfl (.pointer (some ⟨g, 0, none⟩)) rfl ?_)
    refine WL_of (L_bin rfl rfl (.pointer (some ⟨g, 0, none⟩)) (.pointer none) rfl rfl (.bool false) (B_peqn _ _ Tryd.underlying75 (some _)) ?_)
    refine WL_nil ?_
    refine thenN ?_
    refine WC_no rfl ?_
    refine WC_seq ?_
    refine WC_region ?_
    refine WL_of (L_move rfl rfl _ rfl ?_)
    refine WL_of (L_nilCheck rfl rfl ⟨g, 0, none⟩ rfl ?_)
    refine WL_of (L_field rfl rfl fd77_0 ⟨g, 0, none⟩ rfl ?_)
    refine WL_of (L_load1 rfl rfl Tryd.underlying75 rfl hB.el (M0.agree 0 rfl) 0 rfl (.pointer (some ⟨g, 0, none⟩)) rfl ?_)
    refine WL_of (L_move rfl rfl _ rfl ?_)
    refine WL_of (L_bin rfl rfl (.pointer (some ⟨g, 0, none⟩)) (.pointer (some ⟨g, 0, none⟩)) rfl rfl (.bool false) (B_pneq _ _ Tryd.underlying75 hj _) ?_)
    refine WL_nil ?_
    refine thenN ?_
    refine WC_no rfl ?_
    refine WC_skip ?_
    refine retN [] ⟨⟩ ?_
    exact ⟨_, rfl, M0, hB, .inr rfl⟩


/-! ### (*strings.Builder).WriteString: function 27 -/
def strings_Builder_WriteString (a0 : List UInt8) (a1 : Str) : Option (Int × (List UInt8)) :=
  (strings_Builder_copyCheck a0).bind (fun (r3 : Unit) => (if List.length a0 + List.length a1 ≤ 140737488355328 then (some ((List.length a1 : Int), (bcat a0 a1))) else none))
set_option maxRecDepth 100000 in
set_option maxHeartbeats 4000000 in
theorem strings_Builder_WriteString_ok (a0 : List UInt8) (g_a0 : Nat) (ad_a0 : Value) (had_a0 : ad_a0 = .pointer none ∨ ad_a0 = .pointer (some ⟨g_a0, 0, none⟩)) (Aa0_0 : Option Addr) (ca0_0 : Nat) (Sa0_0 : BS) (a1 : Str) (r : Int × (List UInt8)) (w : World) (Fr : BS) (hG : Gl Fr w) (M0 : Mem w [(one g_a0, w), (Sa0_0, w), (Fr, w)]) (ha0_0 : OR w Sa0_0 w none0 5 Aa0_0 ca0_0 a0) (hB_a0 : Bx w g_a0 [ad_a0, .slice Aa0_0 a0.length ca0_0] 77) (H : strings_Builder_WriteString a0 a1 = some r) :
    CallsR Tryd.prog 27 #[.pointer (some ⟨g_a0, 0, none⟩), .string (sv a1)] w (fun v w' => ∃ (A0 : Option Addr) (c0 : Nat) (S0 : BS) (ad0 : Value), v = .tuple #[.int .i64 r.1, .nilIface] ∧ Mem w' [(S0, w'), (one g_a0, w'), (Fr, w)] ∧ OR w' S0 w' none0 5 A0 c0 r.2 ∧ Bx w' g_a0 [ad0, .slice A0 (List.length r.2) c0] 77 ∧ (ad0 = .pointer none ∨ ad0 = .pointer (some ⟨g_a0, 0, none⟩))) := by
  refine enterZ (args := [.pointer (some ⟨g_a0, 0, none⟩), .string (sv a1)]) [.tmp 4, .tmp 5] Tryd.func27 rfl rfl rfl rfl ?_
  unfold strings_Builder_WriteString at H
  refine WC_seq ?_
  refine WC_region ?_
  refine WL_of (L_assign rfl rfl (.int .i64 0) rfl ?_)
  refine WL_of (L_assign rfl rfl (.nilIface) rfl ?_)
  refine WL_nil ?_
  refine thenN ?_
  refine WC_seq ?_
  refine WC_region ?_
  refine WL_of (L_move rfl rfl (.pointer (some ⟨g_a0, 0, none⟩)) rfl ?_)
  have hs1 := ha0_0.sr
  have M2 : Mem w [(Sa0_0, w), (Fr, w)] := M0.drop
  obtain ⟨r3, hr4, H⟩ := bindS H
  refine WL_of (L_call' rfl rfl cf40 [.pointer (some ⟨g_a0, 0, none⟩)] rfl (strings_Builder_copyCheck_ok a0 g_a0 ad_a0 had_a0 Aa0_0 ca0_0 r3 _ (Un [(Sa0_0, w), (Fr, w)]) (hG.call M2 1 rfl) M0.lend ((hs1.agree (M2.agree 0 rfl) (fun _ h => h.elim)).sub (Un.at 0 rfl) (fun _ h => h.elim)) (hB_a0.now (M0.agree 0 rfl)) hr4) ?_)
  rintro _ W5 ⟨ad8, rfl, M6, B7, had9⟩
  have M10 : Mem W5 [(one g_a0, W5), (Sa0_0, w), (Fr, w)] := M2.back (New := [(one g_a0, W5)]) M6
  refine WL_nil ?_
  refine thenN ?_
  refine WC_seq ?_
  refine WC_region ?_
  refine WL_of (L_move rfl rfl (.pointer (some ⟨g_a0, 0, none⟩)) rfl ?_)
  refine WL_of (L_move rfl rfl (.pointer (some ⟨g_a0, 0, none⟩)) rfl ?_)
  refine WL_of (L_nilCheck rfl rfl ⟨g_a0, 0, none⟩ rfl ?_)
  refine WL_of (L_field rfl rfl fd77_1 ⟨g_a0, 0, none⟩ rfl ?_)
  refine WL_of (L_load1 rfl rfl Tryd.underlying36 rfl B7.el (M10.agree 0 rfl) 1 rfl (.slice Aa0_0 a0.length ca0_0) rfl ?_)
  refine WL_of (L_move rfl rfl (.string (sv a1)) rfl ?_)
  have M11 : Mem W5 [(Sa0_0, w), (one g_a0, W5), (Fr, w)] := M10.front [(one g_a0, W5)] rfl
  by_cases c12 : List.length a0 + List.length a1 ≤ 140737488355328
  · replace H := ifP c12 H
    refine WL_of (L_appendStr (v := w) (E := none0) M11 a1 rfl rfl Tryd.underlying36 Tryd.underlying9 bi5 rfl rfl ha0_0 c12 ?_)
    intro W13 S14 A15 c16 ho17 M18
    refine WL_of (L_nilCheck rfl rfl ⟨g_a0, 0, none⟩ rfl ?_)
    refine WL_of (L_field rfl rfl fd77_1 ⟨g_a0, 0, none⟩ rfl ?_)
    have M19 : Mem W13 [(one g_a0, W5), (S14, W13), (Fr, w)] := M18.front [(S14, W13)] rfl
    refine WL_of (L_store M19 rfl (.slice A15 (bcat a0 a1).length c16) rfl [.slice A15 (bcat a0 a1).length c16] rfl 1 sz36 rfl rfl rfl B7 rfl rfl [ad8, .slice A15 (bcat a0 a1).length c16] rfl ?_)
    intro W20 B21 M22
    refine WL_nil ?_
    refine thenN ?_
    refine WC_seq ?_
    refine WC_region ?_
    refine WL_of (L_move rfl rfl (.string (sv a1)) rfl ?_)
    refine WL_of (L_len rfl rfl (.string (sv a1)) rfl (List.length a1) (N_str Tryd.underlying9 a1) ?_)
    refine WL_of (L_assign rfl rfl (.int .i64 (List.length a1 : Int)) rfl ?_)
    refine WL_of (L_assign rfl rfl (.nilIface) rfl ?_)
    refine WL_nil ?_
    refine thenN ?_
    refine WC_ret ?_
    obtain rfl := someE H
    have M23 : Mem W20 [(S14, W13), (one g_a0, W20), (Fr, w)] := M22.front [(one g_a0, W20)] rfl
    have M24 : Mem W20 [(S14, W20), (one g_a0, W20), (Fr, w)] := M23.rebase
    have M25 : Mem W20 [(one g_a0, W20), (S14, W20), (Fr, w)] := M24.front [(S14, W20)] rfl
    have M26 : Mem W20 [(Fr, w), (one g_a0, W20), (S14, W20)] := M25.front [(one g_a0, W20), (S14, W20)] rfl
    have M27 : Mem W20 [(one g_a0, W20), (Fr, w), (S14, W20)] := M26.front [(Fr, w)] rfl
    have M28 : Mem W20 [(S14, W20), (one g_a0, W20), (Fr, w)] := M27.front [(one g_a0, W20), (Fr, w)] rfl
    refine retR [.int .i64 (List.length a1 : Int), .nilIface] ⟨rfl, rfl, trivial⟩ ?_
    exact ⟨A15, c16, S14, ad8, rfl, M28, (ho17.agree (M23.agree 0 rfl)).map (fun _ _ h => h), B21.now (M25.agree 0 rfl), had9⟩
  · exact noneS (ifN c12 H)

def unicode_utf8_DecodeRuneInString (a0 : Str) : Option (Int × Int) := some (((Lib.decodeGo (sv a0)).1 : Int), ((Lib.decodeGo (sv a0)).2 : Int))
set_option maxRecDepth 100000 in
theorem unicode_utf8_DecodeRuneInString_ok (a0 : Str) (r : (Int × Int)) (w : World) (Fr : BS) (hG : Gl Fr w) (hF : ∀ b, Fr b → b < w.heap.size) (H : unicode_utf8_DecodeRuneInString a0 = some r) :
    CallsR Tryd.prog 48 #[.string (sv a0)] w (fun v w' => v = .tuple #[.int .i32 r.1, .int .i64 r.2] ∧ Mem w' [(Fr, w)]) := by
  obtain rfl := someE H
  refine Calls.mono (Tryd.utf8_DecodeRuneInString (sv a0) w (hG.utf w (Agree.refl _ _))) ?_
  rintro e w' ⟨rfl, hb⟩
  exact ⟨_, rfl, rfl, Mem.ofBelow hF hb⟩

/-! ### annals/text.from: function 75 -/
def text_from (a0 : Int) (a1 : Int) (a2 : Int) : Option Bool :=
  ((if (a1 : Int) ≤ a0 then (some (decide ((a0 : Int) ≤ a2))) else (some false))).bind (fun (z1 : Bool) => (some z1))
set_option maxRecDepth 100000 in
set_option maxHeartbeats 4000000 in
theorem text_from_ok (a0 : Int) (a1 : Int) (a2 : Int) (r : Bool) (w : World) (Fr : BS) (hG : Gl Fr w) (hF : ∀ b, Fr b → b < w.heap.size)  (H : text_from a0 a1 a2 = some r) :
    CallsR Tryd.prog 75 #[.int .i32 a0, .int .i32 a1, .int .i32 a2] w (fun v w' => v = .bool r ∧ Mem w' [(Fr, w)]) := by
  have M0 := Mem.start w Fr hF
  refine enterZ (args := [.int .i32 a0, .int .i32 a1, .int .i32 a2]) [.tmp 6] Tryd.func75 rfl rfl rfl rfl ?_
  unfold text_from at H
  refine WC_seq ?_
  refine WC_region ?_
  refine WL_of (L_assign rfl rfl (.bool false) rfl ?_)
  refine WL_nil ?_
  refine thenN ?_
  obtain ⟨z1, hz2, H⟩ := bindS H
  refine WC_cut (fun ρ w_ => ∃  (ρ0 : Nat → Value), ρ = updL ρ0 [(6, .bool z1)] ∧ Mem w_ [(Fr, w)]) ?_ ?_
  · refine WC_region ?_
    refine WL_of (L_move rfl rfl (.int .i32 a1) rfl ?_)
    refine WL_of (L_move rfl rfl (.int .i32 a0) rfl ?_)
    refine WL_of (L_bin rfl rfl (.int .i32 a1) (.int .i32 a0) rfl rfl (.bool (decide ((a1 : Int) ≤ a0))) (B_leq _ _ _ _ a1 a0) ?_)
    refine WL_of (L_move rfl rfl (.bool (decide ((a1 : Int) ≤ a0))) rfl ?_)
    by_cases c3 : (a1 : Int) ≤ a0
    · replace hz2 := ifP c3 hz2
      refine WL_known 10 true (vtrue c3) ?_
      refine WL_of (L_move rfl rfl (.int .i32 a0) rfl ?_)
      refine WL_of (L_move rfl rfl (.int .i32 a2) rfl ?_)
      refine WL_of (L_bin rfl rfl (.int .i32 a0) (.int .i32 a2) rfl rfl (.bool (decide ((a0 : Int) ≤ a2))) (B_leq _ _ _ _ a0 a2) ?_)
      refine WL_of (L_pick rfl rfl true rfl (.bool (decide ((a0 : Int) ≤ a2))) rfl ?_)
      refine WL_of (L_assign rfl rfl (.bool (decide ((a0 : Int) ≤ a2))) rfl ?_)
      refine WL_nil ?_
      refine thenN ?_
      obtain rfl := someE hz2
      exact ⟨_, updL_same _ _ ⟨rfl, trivial⟩, M0⟩
    · replace hz2 := ifN c3 hz2
      refine WL_known 10 false (vfalse c3) ?_
      refine WL_of (WO_off rfl rfl ?_)
      refine WL_of (WO_off rfl rfl ?_)
      refine WL_of (WO_off rfl rfl ?_)
      refine WL_of (L_pick rfl rfl false rfl (.bool false) rfl ?_)
      refine WL_of (L_assign rfl rfl (.bool false) rfl ?_)
      refine WL_nil ?_
      refine thenN ?_
      obtain rfl := someE hz2
      exact ⟨_, updL_same _ _ ⟨rfl, trivial⟩, M0⟩
  · rintro _ W4 ⟨ρ6, rfl, M5⟩
    refine WC_ret ?_
    obtain rfl := someE H
    refine retR [.bool z1] ⟨rfl, trivial⟩ ?_
    exact ⟨rfl, M5⟩

/-! ### annals/text.hidden: function 59 -/
def text_hidden (a0 : Int) : Option Bool :=
  ((text_from a0 128 159).bind (fun (r4 : Bool) => (if r4 = true then (some r4) else (if (a0 : Int) = 173 then (some (decide ((a0 : Int) = 173))) else (text_from a0 8203 8207).bind (fun (r12 : Bool) => (if r12 = true then (some r12) else (text_from a0 8232 8238).bind (fun (r19 : Bool) => (some r19)))))))).bind (fun (z1 : Bool) => (if z1 = true then (some true) else ((text_from a0 8288 8292).bind (fun (r31 : Bool) => (if r31 = true then (some r31) else (if (a0 : Int) = 65279 then (some (decide ((a0 : Int) = 65279))) else (text_from a0 65529 65531).bind (fun (r39 : Bool) => (if r39 = true then (some r39) else (text_from a0 917505 917631).bind (fun (r46 : Bool) => (some r46)))))))).bind (fun (z28 : Bool) => (if z28 = true then (some true) else (some false)))))
set_option maxRecDepth 100000 in
set_option maxHeartbeats 4000000 in
theorem text_hidden_ok (a0 : Int) (r : Bool) (w : World) (Fr : BS) (hG : Gl Fr w) (hF : ∀ b, Fr b → b < w.heap.size)  (H : text_hidden a0 = some r) :
    CallsR Tryd.prog 59 #[.int .i32 a0] w (fun v w' => v = .bool r ∧ Mem w' [(Fr, w)]) := by
  have M0 := Mem.start w Fr hF
  refine enterZ (args := [.int .i32 a0]) [.tmp 2] Tryd.func59 rfl rfl rfl rfl ?_
  unfold text_hidden at H
  refine WC_seq ?_
  refine WC_region ?_
  refine WL_of (L_assign rfl rfl (.bool false) rfl ?_)
  refine WL_nil ?_
  refine thenN ?_
  refine WC_seq ?_
  refine WC_block ?_
  obtain ⟨z1, hz2, H⟩ := bindS H
  refine WC_cut (fun ρ w_ => ∃  (ρ0 : Nat → Value), ρ = updL ρ0 [(0, .int .i32 a0), (2, .bool false), (3, .bool z1)] ∧ Mem w_ [(Fr, w)]) ?_ ?_
  · refine WC_seq ?_
    refine WC_region ?_
    refine WL_of (L_move rfl rfl (.int .i32 a0) rfl ?_)
    obtain ⟨r4, hr5, hz2⟩ := bindS hz2
    refine WL_of (L_call' rfl rfl cf75 [.int .i32 a0, .int .i32 128, .int .i32 159] rfl (text_from_ok a0 128 159 r4 _ (Un [(Fr, w)]) (hG.call M0 0 rfl) M0.frame  hr5) ?_)
    rintro _ W6 ⟨rfl, M7⟩
    have M8 : Mem W6 [(Fr, w)] := M0.back (New := []) M7
    refine WL_of (L_assign rfl rfl (.bool r4) rfl ?_)
    refine WL_nil ?_
    refine thenN ?_
    refine WC_ifb rfl (fun c9 => ?_) (fun c9 => ?_)
    · replace hz2 := ifP c9 hz2
      refine WC_skip ?_
      refine thenN ?_
      obtain rfl := someE hz2
      exact ⟨_, updL_same _ _ ⟨rfl, rfl, rfl, trivial⟩, M8⟩
    · replace hz2 := ifN (by rw [c9]; simp) hz2
      refine WC_seq ?_
      refine WC_region ?_
      refine WL_of (L_move rfl rfl (.int .i32 a0) rfl ?_)
      refine WL_of (L_bin rfl rfl (.int .i32 a0) (.int .i32 173) rfl rfl (.bool (decide ((a0 : Int) = 173))) (B_eql _ _ _ _ a0 173) ?_)
      refine WL_of (L_assign rfl rfl (.bool (decide ((a0 : Int) = 173))) rfl ?_)
      refine WL_nil ?_
      refine thenN ?_
      refine WC_if (p := (a0 : Int) = 173) rfl (fun c10 => ?_) (fun c10 => ?_)
      · replace hz2 := ifP c10 hz2
        refine WC_skip ?_
        refine thenN ?_
        obtain rfl := someE hz2
        exact ⟨_, updL_same _ _ ⟨rfl, rfl, rfl, trivial⟩, M8⟩
      · replace hz2 := ifN c10 hz2
        refine WC_seq ?_
        refine WC_region ?_
        refine WL_of (L_move rfl rfl (.int .i32 a0) rfl ?_)
        obtain ⟨r12, hr13, hz2⟩ := bindS hz2
        refine WL_of (L_call' rfl rfl cf75 [.int .i32 a0, .int .i32 8203, .int .i32 8207] rfl (text_from_ok a0 8203 8207 r12 _ (Un [(Fr, w)]) (hG.call M8 0 rfl) M8.frame  hr13) ?_)
        rintro _ W14 ⟨rfl, M15⟩
        have M16 : Mem W14 [(Fr, w)] := M8.back (New := []) M15
        refine WL_of (L_assign rfl rfl (.bool r12) rfl ?_)
        refine WL_nil ?_
        refine thenN ?_
        refine WC_ifb rfl (fun c17 => ?_) (fun c17 => ?_)
        · replace hz2 := ifP c17 hz2
          refine WC_skip ?_
          refine thenN ?_
          obtain rfl := someE hz2
          exact ⟨_, updL_same _ _ ⟨rfl, rfl, rfl, trivial⟩, M16⟩
        · replace hz2 := ifN (by rw [c17]; simp) hz2
          refine WC_region ?_
          refine WL_of (L_move rfl rfl (.int .i32 a0) rfl ?_)
          obtain ⟨r19, hr20, hz2⟩ := bindS hz2
          refine WL_of (L_call' rfl rfl cf75 [.int .i32 a0, .int .i32 8232, .int .i32 8238] rfl (text_from_ok a0 8232 8238 r19 _ (Un [(Fr, w)]) (hG.call M16 0 rfl) M16.frame  hr20) ?_)
          rintro _ W21 ⟨rfl, M22⟩
          have M23 : Mem W21 [(Fr, w)] := M16.back (New := []) M22
          refine WL_of (L_assign rfl rfl (.bool r19) rfl ?_)
          refine WL_nil ?_
          refine thenN ?_
          obtain rfl := someE hz2
          exact ⟨_, updL_same _ _ ⟨rfl, rfl, rfl, trivial⟩, M23⟩
  · rintro _ W24 ⟨ρ26, rfl, M25⟩
    refine WC_ifb rfl (fun c27 => ?_) (fun c27 => ?_)
    · replace H := ifP c27 H
      refine WC_seq ?_
      refine WC_region ?_
      refine WL_of (L_assign rfl rfl (.bool true) rfl ?_)
      refine WL_nil ?_
      refine thenN ?_
      refine WC_ret ?_
      refine blkR ?_
      refine thenR ?_
      obtain rfl := someE H
      refine retR [.bool true] ⟨rfl, trivial⟩ ?_
      exact ⟨rfl, M25⟩
    · replace H := ifN (by rw [c27]; simp) H
      obtain ⟨z28, hz29, H⟩ := bindS H
      refine WC_cut (fun ρ w_ => ∃  (ρ0 : Nat → Value), ρ = updL ρ0 [(2, .bool false), (12, .bool z28)] ∧ Mem w_ [(Fr, w)]) ?_ ?_
      · refine WC_seq ?_
        refine WC_region ?_
        refine WL_of (L_move rfl rfl (.int .i32 a0) rfl ?_)
        obtain ⟨r31, hr32, hz29⟩ := bindS hz29
        refine WL_of (L_call' rfl rfl cf75 [.int .i32 a0, .int .i32 8288, .int .i32 8292] rfl (text_from_ok a0 8288 8292 r31 _ (Un [(Fr, w)]) (hG.call M25 0 rfl) M25.frame  hr32) ?_)
        rintro _ W33 ⟨rfl, M34⟩
        have M35 : Mem W33 [(Fr, w)] := M25.back (New := []) M34
        refine WL_of (L_assign rfl rfl (.bool r31) rfl ?_)
        refine WL_nil ?_
        refine thenN ?_
        refine WC_ifb rfl (fun c36 => ?_) (fun c36 => ?_)
        · replace hz29 := ifP c36 hz29
          refine WC_skip ?_
          refine thenN ?_
          obtain rfl := someE hz29
          exact ⟨_, updL_same _ _ ⟨rfl, rfl, trivial⟩, M35⟩
        · replace hz29 := ifN (by rw [c36]; simp) hz29
          refine WC_seq ?_
          refine WC_region ?_
          refine WL_of (L_move rfl rfl (.int .i32 a0) rfl ?_)
          refine WL_of (L_bin rfl rfl (.int .i32 a0) (.int .i32 65279) rfl rfl (.bool (decide ((a0 : Int) = 65279))) (B_eql _ _ _ _ a0 65279) ?_)
          refine WL_of (L_assign rfl rfl (.bool (decide ((a0 : Int) = 65279))) rfl ?_)
          refine WL_nil ?_
          refine thenN ?_
          refine WC_if (p := (a0 : Int) = 65279) rfl (fun c37 => ?_) (fun c37 => ?_)
          · replace hz29 := ifP c37 hz29
            refine WC_skip ?_
            refine thenN ?_
            obtain rfl := someE hz29
            exact ⟨_, updL_same _ _ ⟨rfl, rfl, trivial⟩, M35⟩
          · replace hz29 := ifN c37 hz29
            refine WC_seq ?_
            refine WC_region ?_
            refine WL_of (L_move rfl rfl (.int .i32 a0) rfl ?_)
            obtain ⟨r39, hr40, hz29⟩ := bindS hz29
            refine WL_of (L_call' rfl rfl cf75 [.int .i32 a0, .int .i32 65529, .int .i32 65531] rfl (text_from_ok a0 65529 65531 r39 _ (Un [(Fr, w)]) (hG.call M35 0 rfl) M35.frame  hr40) ?_)
            rintro _ W41 ⟨rfl, M42⟩
            have M43 : Mem W41 [(Fr, w)] := M35.back (New := []) M42
            refine WL_of (L_assign rfl rfl (.bool r39) rfl ?_)
            refine WL_nil ?_
            refine thenN ?_
            refine WC_ifb rfl (fun c44 => ?_) (fun c44 => ?_)
            · replace hz29 := ifP c44 hz29
              refine WC_skip ?_
              refine thenN ?_
              obtain rfl := someE hz29
              exact ⟨_, updL_same _ _ ⟨rfl, rfl, trivial⟩, M43⟩
            · replace hz29 := ifN (by rw [c44]; simp) hz29
              refine WC_region ?_
              refine WL_of (L_move rfl rfl (.int .i32 a0) rfl ?_)
              obtain ⟨r46, hr47, hz29⟩ := bindS hz29
              refine WL_of (L_call' rfl rfl cf75 [.int .i32 a0, .int .i32 917505, .int .i32 917631] rfl (text_from_ok a0 917505 917631 r46 _ (Un [(Fr, w)]) (hG.call M43 0 rfl) M43.frame  hr47) ?_)
              rintro _ W48 ⟨rfl, M49⟩
              have M50 : Mem W48 [(Fr, w)] := M43.back (New := []) M49
              refine WL_of (L_assign rfl rfl (.bool r46) rfl ?_)
              refine WL_nil ?_
              refine thenN ?_
              obtain rfl := someE hz29
              exact ⟨_, updL_same _ _ ⟨rfl, rfl, trivial⟩, M50⟩
      · rintro _ W51 ⟨ρ53, rfl, M52⟩
        refine WC_ifb rfl (fun c54 => ?_) (fun c54 => ?_)
        · replace H := ifP c54 H
          refine WC_seq ?_
          refine WC_region ?_
          refine WL_of (L_assign rfl rfl (.bool true) rfl ?_)
          refine WL_nil ?_
          refine thenN ?_
          refine WC_ret ?_
          refine blkR ?_
          refine thenR ?_
          obtain rfl := someE H
          refine retR [.bool true] ⟨rfl, trivial⟩ ?_
          exact ⟨rfl, M52⟩
        · replace H := ifN (by rw [c54]; simp) H
          refine WC_skip ?_
          refine blkN ?_
          refine thenN ?_
          refine WC_seq ?_
          refine WC_region ?_
          refine WL_of (L_assign rfl rfl (.bool false) rfl ?_)
          refine WL_nil ?_
          refine thenN ?_
          refine WC_ret ?_
          obtain rfl := someE H
          refine retR [.bool false] ⟨rfl, trivial⟩ ?_
          exact ⟨rfl, M52⟩

/-! ### (*strings.Builder).String: function 29 -/
def strings_Builder_String (a0 : List UInt8) : Option Str :=
  (some (lit a0))
set_option maxRecDepth 100000 in
set_option maxHeartbeats 4000000 in
theorem strings_Builder_String_ok (a0 : List UInt8) (g_a0 : Nat) (ad_a0 : Value) (had_a0 : ad_a0 = .pointer none ∨ ad_a0 = .pointer (some ⟨g_a0, 0, none⟩)) (Aa0_0 : Option Addr) (ca0_0 : Nat) (Sa0_0 : BS) (r : Str) (w : World) (Fr : BS) (hG : Gl Fr w) (M0 : Mem w [(one g_a0, w), (Sa0_0, w), (Fr, w)]) (ha0_0 : OR w Sa0_0 w none0 5 Aa0_0 ca0_0 a0) (hB_a0 : Bx w g_a0 [ad_a0, .slice Aa0_0 a0.length ca0_0] 77) (H : strings_Builder_String a0 = some r) :
    CallsR Tryd.prog 29 #[.pointer (some ⟨g_a0, 0, none⟩)] w (fun v w' => v = .string (sv r) ∧ Mem w' [(Fr, w)]) := by
  refine enterZ (args := [.pointer (some ⟨g_a0, 0, none⟩)]) [.tmp 2] Tryd.func29 rfl rfl rfl rfl ?_
  unfold strings_Builder_String at H
  refine WC_seq ?_
  refine WC_region ?_
  refine WL_of (L_assign rfl rfl (.string (sv (lit []))) rfl ?_)
  refine WL_nil ?_
  refine thenN ?_
  refine WC_seq ?_
  refine WD_start (n := 12) (fun w_ => Mem w_ [(one g_a0, w), (Fr, w)]) [] mixed rfl ?_
  have M1 := M0.drawn
  refine WD_take' 0 rfl (by kernel_rfl) (by kernel_rfl) (by kernel_rfl) (by kernel_rfl) (by kernel_rfl) rfl (fun _ _ _ h => h) rfl _ (M1.sub (.cons_cons _ (.cons _ (.cons_cons _ .slnil)))) rfl (fun w_ hS => L_move rfl rfl (.pointer (some ⟨g_a0, 0, none⟩)) rfl  ⟨rfl, rfl⟩) ?_
  refine WD_nil 1 rfl (by kernel_rfl) (by kernel_rfl) (by kernel_rfl) (by kernel_rfl) (by kernel_rfl) (fun _ _ _ h => h) rfl ⟨g_a0, 0, none⟩ rfl rfl (M1.sub (.cons_cons _ (.cons _ (.cons_cons _ .slnil)))) ?_
  refine WD_take' 2 rfl (by kernel_rfl) (by kernel_rfl) (by kernel_rfl) (by kernel_rfl) (by kernel_rfl) rfl (fun _ _ _ h => h) rfl _ (M1.sub (.cons_cons _ (.cons _ (.cons_cons _ .slnil)))) rfl (fun w_ hS => L_field rfl rfl fd77_1 ⟨g_a0, 0, none⟩ rfl  ⟨rfl, rfl⟩) ?_
  refine WD_take' 3 rfl (by kernel_rfl) (by kernel_rfl) (by kernel_rfl) (by kernel_rfl) (by kernel_rfl) rfl (fun _ _ _ h => h) rfl _ (M1.sub (.cons_cons _ (.cons _ (.cons_cons _ .slnil)))) rfl (fun w_ hS => L_load1 rfl rfl Tryd.underlying36 rfl hB_a0.el (hS.agree 0 rfl) 1 rfl (.slice Aa0_0 a0.length ca0_0) rfl  ⟨rfl, rfl⟩) ?_
  refine WD_take' 5 rfl (by kernel_rfl) (by kernel_rfl) (by kernel_rfl) (by kernel_rfl) (by kernel_rfl) rfl (fun _ _ _ h => h) rfl _ (M1.sub (.cons_cons _ (.cons _ (.cons_cons _ .slnil)))) rfl (fun w_ hS => L_move rfl rfl (.pointer (some ⟨g_a0, 0, none⟩)) rfl  ⟨rfl, rfl⟩) ?_
  refine WD_nil 6 rfl (by kernel_rfl) (by kernel_rfl) (by kernel_rfl) (by kernel_rfl) (by kernel_rfl) (fun _ _ _ h => h) rfl ⟨g_a0, 0, none⟩ rfl rfl (M1.sub (.cons_cons _ (.cons _ (.cons_cons _ .slnil)))) ?_
  refine WD_take' 7 rfl (by kernel_rfl) (by kernel_rfl) (by kernel_rfl) (by kernel_rfl) (by kernel_rfl) rfl (fun _ _ _ h => h) rfl _ (M1.sub (.cons_cons _ (.cons _ (.cons_cons _ .slnil)))) rfl (fun w_ hS => L_field rfl rfl fd77_1 ⟨g_a0, 0, none⟩ rfl  ⟨rfl, rfl⟩) ?_
  refine WD_take' 8 rfl (by kernel_rfl) (by kernel_rfl) (by kernel_rfl) (by kernel_rfl) (by kernel_rfl) rfl (fun _ _ _ h => h) rfl _ (M1.sub (.cons_cons _ (.cons _ (.cons_cons _ .slnil)))) rfl (fun w_ hS => L_load1 rfl rfl Tryd.underlying36 rfl hB_a0.el (hS.agree 0 rfl) 1 rfl (.slice Aa0_0 a0.length ca0_0) rfl  ⟨rfl, rfl⟩) ?_
  refine WD_take' 9 rfl (by kernel_rfl) (by kernel_rfl) (by kernel_rfl) (by kernel_rfl) (by kernel_rfl) rfl (fun _ _ _ h => h) rfl _ (M1.sub (.cons_cons _ (.cons _ (.cons_cons _ .slnil)))) rfl (fun w_ hS => L_len rfl rfl (.slice Aa0_0 a0.length ca0_0) rfl (a0.length) (N_slice Tryd.underlying36 _ _ _)  ⟨rfl, rfl⟩) ?_
  refine WD_one 4 rfl (by kernel_rfl) (L_sliceData M1 1 rfl rfl rfl Tryd.underlying102 rfl ha0_0 ?_)
  intro W2 q3 hq4 M5
  refine ⟨fun _ => (M5.sub (.cons_cons _ (.cons _ (.cons_cons _ .slnil)))), ?_⟩
  have M6 : Mem W2 [(Sa0_0, w), (one g_a0, w), (Fr, w)] := M5.front [(one g_a0, w)] rfl
  refine WD_one 10 rfl (by kernel_rfl) (L_unsafeString (xs := a0) M6 rfl rfl Tryd.underlying102 ce5 rfl rfl hq4 ha0_0 ?_)
  intro W7 M8
  refine ⟨fun _ => (M8.sub (.cons_cons _ (.cons_cons _ .slnil))), ?_⟩
  refine WD_take' 11 rfl (by kernel_rfl) (by kernel_rfl) (by kernel_rfl) (by kernel_rfl) (by kernel_rfl) rfl (fun _ _ _ h => h) rfl _ (M8.sub (.cons_cons _ (.cons_cons _ .slnil))) rfl (fun w_ hS => L_assign rfl rfl (.string (sv (lit a0))) rfl  ⟨rfl, rfl⟩) ?_
  refine WD_done (by kernel_rfl) ?_
  refine thenN ?_
  refine WC_ret ?_
  obtain rfl := someE H
  have M9 : Mem W7 [(Fr, w), (one g_a0, w)] := M8.front [(one g_a0, w)] rfl
  have M10 : Mem W7 [(Fr, w)] := M9.sub (List.prefix_append [(Fr, w)] [(one g_a0, w)]).sublist
  refine retR [.string (sv (lit a0))] ⟨rfl, trivial⟩ ?_
  exact ⟨rfl, M10⟩

/-! ### (*strings.Builder).WriteByte: function 78 -/
def strings_Builder_WriteByte (a0 : List UInt8) (a1 : UInt8) : Option (List UInt8) :=
  (strings_Builder_copyCheck a0).bind (fun (r3 : Unit) => (if List.length a0 + List.length ([a1] : List UInt8) ≤ 140737488355328 then (some (a0 ++ ([a1] : List UInt8))) else none))
set_option maxRecDepth 100000 in
set_option maxHeartbeats 4000000 in
theorem strings_Builder_WriteByte_ok (a0 : List UInt8) (g_a0 : Nat) (ad_a0 : Value) (had_a0 : ad_a0 = .pointer none ∨ ad_a0 = .pointer (some ⟨g_a0, 0, none⟩)) (Aa0_0 : Option Addr) (ca0_0 : Nat) (Sa0_0 : BS) (a1 : UInt8) (r : List UInt8) (w : World) (Fr : BS) (hG : Gl Fr w) (M0 : Mem w [(one g_a0, w), (Sa0_0, w), (Fr, w)]) (ha0_0 : OR w Sa0_0 w none0 5 Aa0_0 ca0_0 a0) (hB_a0 : Bx w g_a0 [ad_a0, .slice Aa0_0 a0.length ca0_0] 77) (H : strings_Builder_WriteByte a0 a1 = some r) :
    CallsR Tryd.prog 78 #[.pointer (some ⟨g_a0, 0, none⟩), .int .u8 (a1.toNat : Int)] w (fun v w' => ∃ (A0 : Option Addr) (c0 : Nat) (S0 : BS) (ad0 : Value), v = .nilIface ∧ Mem w' [(S0, w'), (one g_a0, w'), (Fr, w)] ∧ OR w' S0 w' none0 5 A0 c0 r ∧ Bx w' g_a0 [ad0, .slice A0 (List.length r) c0] 77 ∧ (ad0 = .pointer none ∨ ad0 = .pointer (some ⟨g_a0, 0, none⟩))) := by
  refine enterZ (args := [.pointer (some ⟨g_a0, 0, none⟩), .int .u8 (a1.toNat : Int)]) [.tmp 4] Tryd.func78 rfl rfl rfl rfl ?_
  unfold strings_Builder_WriteByte at H
  refine WC_seq ?_
  refine WC_region ?_
  refine WL_of (L_assign rfl rfl (.nilIface) rfl ?_)
  refine WL_nil ?_
  refine thenN ?_
  refine WC_seq ?_
  refine WC_region ?_
  refine WL_of (L_move rfl rfl (.pointer (some ⟨g_a0, 0, none⟩)) rfl ?_)
  have hs1 := ha0_0.sr
  have M2 : Mem w [(Sa0_0, w), (Fr, w)] := M0.drop
  obtain ⟨r3, hr4, H⟩ := bindS H
  refine WL_of (L_call' rfl rfl cf40 [.pointer (some ⟨g_a0, 0, none⟩)] rfl (strings_Builder_copyCheck_ok a0 g_a0 ad_a0 had_a0 Aa0_0 ca0_0 r3 _ (Un [(Sa0_0, w), (Fr, w)]) (hG.call M2 1 rfl) M0.lend ((hs1.agree (M2.agree 0 rfl) (fun _ h => h.elim)).sub (Un.at 0 rfl) (fun _ h => h.elim)) (hB_a0.now (M0.agree 0 rfl)) hr4) ?_)
  rintro _ W5 ⟨ad8, rfl, M6, B7, had9⟩
  have M10 : Mem W5 [(one g_a0, W5), (Sa0_0, w), (Fr, w)] := M2.back (New := [(one g_a0, W5)]) M6
  refine WL_nil ?_
  refine thenN ?_
  refine WC_seq ?_
  refine WC_region ?_
  refine WL_of (L_move rfl rfl (.pointer (some ⟨g_a0, 0, none⟩)) rfl ?_)
  refine WL_of (L_move rfl rfl (.pointer (some ⟨g_a0, 0, none⟩)) rfl ?_)
  refine WL_of (L_nilCheck rfl rfl ⟨g_a0, 0, none⟩ rfl ?_)
  refine WL_of (L_field rfl rfl fd77_1 ⟨g_a0, 0, none⟩ rfl ?_)
  refine WL_of (L_load1 rfl rfl Tryd.underlying36 rfl B7.el (M10.agree 0 rfl) 1 rfl (.slice Aa0_0 a0.length ca0_0) rfl ?_)
  refine WL_of (L_move rfl rfl (.int .u8 (a1.toNat : Int)) rfl ?_)
  refine WL_of (L_buildSlice' M10 rfl rfl [(0, .int .u8 (a1.toNat : Int))] rfl Tryd.underlying36 sz5 zr5 rfl rfl [.int .u8 (a1.toNat : Int)] (by kernel_rfl) ?_)
  intro g11 W12 B13 M14
  have M15 : Mem W12 [(Sa0_0, w), (one g11, W12), (one g_a0, W5), (Fr, w)] := M14.front [(one g11, W12), (one g_a0, W5)] rfl
  by_cases c16 : List.length a0 + List.length ([a1] : List UInt8) ≤ 140737488355328
  · replace H := ifP c16 H
    refine WL_of (L_append (ys := ([a1] : List UInt8)) (v := w) (E := none0) M15 rfl rfl Tryd.underlying36 el5 rfl rfl ha0_0 (.inr ⟨⟨g11, 0, none⟩, rfl, Src.box (css := [[.int .u8 (a1.toNat : Int)]]) (B13.now (M15.agree 1 rfl)) (⟨rfl, trivial⟩) rfl⟩) (by omega) (by decide) ?_)
    intro W17 S18 A19 c20 ho21 M22
    refine WL_of (L_nilCheck rfl rfl ⟨g_a0, 0, none⟩ rfl ?_)
    refine WL_of (L_field rfl rfl fd77_1 ⟨g_a0, 0, none⟩ rfl ?_)
    have M23 : Mem W17 [(one g_a0, W5), (S18, W17), (one g11, W12), (Fr, w)] := M22.front [(S18, W17), (one g11, W12)] rfl
    refine WL_of (L_store M23 rfl (.slice A19 (a0 ++ ([a1] : List UInt8)).length c20) rfl [.slice A19 (a0 ++ ([a1] : List UInt8)).length c20] rfl 1 sz36 rfl rfl rfl B7 rfl rfl [ad8, .slice A19 (a0 ++ ([a1] : List UInt8)).length c20] rfl ?_)
    intro W24 B25 M26
    refine WL_nil ?_
    refine thenN ?_
    refine WC_seq ?_
    refine WC_region ?_
    refine WL_of (L_assign rfl rfl (.nilIface) rfl ?_)
    refine WL_nil ?_
    refine thenN ?_
    refine WC_ret ?_
    obtain rfl := someE H
    have M27 : Mem W24 [(S18, W17), (one g_a0, W24), (one g11, W12), (Fr, w)] := M26.front [(one g_a0, W24)] rfl
    have M28 : Mem W24 [(S18, W24), (one g_a0, W24), (one g11, W12), (Fr, w)] := M27.rebase
    have M29 : Mem W24 [(one g_a0, W24), (S18, W24), (one g11, W12), (Fr, w)] := M28.front [(S18, W24)] rfl
    have M30 : Mem W24 [(Fr, w), (one g_a0, W24), (S18, W24), (one g11, W12)] := M29.front [(one g_a0, W24), (S18, W24), (one g11, W12)] rfl
    have M31 : Mem W24 [(one g_a0, W24), (Fr, w), (S18, W24), (one g11, W12)] := M30.front [(Fr, w)] rfl
    have M32 : Mem W24 [(S18, W24), (one g_a0, W24), (Fr, w), (one g11, W12)] := M31.front [(one g_a0, W24), (Fr, w)] rfl
    have M33 : Mem W24 [(S18, W24), (one g_a0, W24), (Fr, w)] := M32.sub (List.prefix_append [(S18, W24), (one g_a0, W24), (Fr, w)] [(one g11, W12)]).sublist
    refine retR [.nilIface] ⟨rfl, trivial⟩ ?_
    exact ⟨A19, c20, S18, ad8, rfl, M33, (ho21.agree (M27.agree 0 rfl)).map (fun _ _ h => h), B25.now (M29.agree 0 rfl), had9⟩
  · exact noneS (ifN c16 H)

/-! ### annals/text.escapedByte: function 91 -/
def text_escapedByte (a0 : UInt8) : Option Str :=
  (subS (lit [48, 49, 50, 51, 52, 53, 54, 55, 56, 57, 97, 98, 99, 100, 101, 102]) ((a0 >>> (4 : UInt8)).toNat : Int) (((a0 >>> (4 : UInt8)) + (1 : UInt8)).toNat : Int)).bind (fun q2 => (if (List.length (lit [92, 120]) : Int) + List.length q2 ≤ 9223372036854775807 then (subS (lit [48, 49, 50, 51, 52, 53, 54, 55, 56, 57, 97, 98, 99, 100, 101, 102]) ((a0 &&& (15 : UInt8)).toNat : Int) (((a0 &&& (15 : UInt8)) + (1 : UInt8)).toNat : Int)).bind (fun q5 => (if (List.length (cat (lit [92, 120]) q2) : Int) + List.length q5 ≤ 9223372036854775807 then (some (cat (cat (lit [92, 120]) q2) q5)) else none)) else none))
set_option maxRecDepth 100000 in
set_option maxHeartbeats 4000000 in
theorem text_escapedByte_ok (a0 : UInt8) (r : Str) (w : World) (Fr : BS) (hG : Gl Fr w) (hF : ∀ b, Fr b → b < w.heap.size)  (H : text_escapedByte a0 = some r) :
    CallsR Tryd.prog 91 #[.int .u8 (a0.toNat : Int)] w (fun v w' => v = .string (sv r) ∧ Mem w' [(Fr, w)]) := by
  have M0 := Mem.start w Fr hF
  refine enterZ (args := [.int .u8 (a0.toNat : Int)]) [.tmp 2] Tryd.func91 rfl rfl rfl rfl ?_
  unfold text_escapedByte at H
  refine WC_seq ?_
  refine WC_region ?_
  refine WL_of (L_assign rfl rfl (.string (sv (lit []))) rfl ?_)
  refine WL_nil ?_
  refine thenN ?_
  refine WC_seq ?_
  refine WD_start (n := 15) (fun w_ => Mem w_ [(Fr, w)]) [] mixed rfl ?_
  have M1 := M0.drawn
  refine WD_take' 0 rfl (by kernel_rfl) (by kernel_rfl) (by kernel_rfl) (by kernel_rfl) (by kernel_rfl) rfl (fun _ _ _ h => h) rfl _ (M1.sub (.cons_cons _ .slnil)) rfl (fun w_ hS => L_move rfl rfl (.int .u8 (a0.toNat : Int)) rfl  ⟨rfl, rfl⟩) ?_
  refine WD_take' 1 rfl (by kernel_rfl) (by kernel_rfl) (by kernel_rfl) (by kernel_rfl) (by kernel_rfl) rfl (fun _ _ _ h => h) rfl _ (M1.sub (.cons_cons _ .slnil)) rfl (fun w_ hS => L_bin rfl rfl (.int .u8 (a0.toNat : Int)) (.int .u64 4) rfl rfl (.int .u8 ((a0 >>> (4 : UInt8)).toNat : Int)) (B_shr8 _ _ _ a0 4 _ 4 rfl rfl)  ⟨rfl, rfl⟩) ?_
  refine WD_take' 2 rfl (by kernel_rfl) (by kernel_rfl) (by kernel_rfl) (by kernel_rfl) (by kernel_rfl) rfl (fun _ _ _ h => h) rfl _ (M1.sub (.cons_cons _ .slnil)) rfl (fun w_ hS => L_move rfl rfl (.int .u8 (a0.toNat : Int)) rfl  ⟨rfl, rfl⟩) ?_
  refine WD_take' 3 rfl (by kernel_rfl) (by kernel_rfl) (by kernel_rfl) (by kernel_rfl) (by kernel_rfl) rfl (fun _ _ _ h => h) rfl _ (M1.sub (.cons_cons _ .slnil)) rfl (fun w_ hS => L_bin rfl rfl (.int .u8 (a0.toNat : Int)) (.int .u64 4) rfl rfl (.int .u8 ((a0 >>> (4 : UInt8)).toNat : Int)) (B_shr8 _ _ _ a0 4 _ 4 rfl rfl)  ⟨rfl, rfl⟩) ?_
  refine WD_take' 4 rfl (by kernel_rfl) (by kernel_rfl) (by kernel_rfl) (by kernel_rfl) (by kernel_rfl) rfl (fun _ _ _ h => h) rfl _ (M1.sub (.cons_cons _ .slnil)) rfl (fun w_ hS => L_bin rfl rfl (.int .u8 ((a0 >>> (4 : UInt8)).toNat : Int)) (.int .u8 1) rfl rfl (.int .u8 (((a0 >>> (4 : UInt8)) + (1 : UInt8)).toNat : Int)) (B_add8 _ _ _ (a0 >>> (4 : UInt8)) (1 : UInt8))  ⟨rfl, rfl⟩) ?_
  obtain ⟨q2, hq3, H⟩ := bindS H
  refine WD_take' 5 rfl (by kernel_rfl) (by kernel_rfl) (by kernel_rfl) (by kernel_rfl) (by kernel_rfl) rfl (fun _ _ _ h => h) rfl _ (M1.sub (.cons_cons _ .slnil)) rfl (fun w_ hS => L_sslice rfl rfl Tryd.underlying9 (lit [48, 49, 50, 51, 52, 53, 54, 55, 56, 57, 97, 98, 99, 100, 101, 102]) rfl ((a0 >>> (4 : UInt8)).toNat : Int) (((a0 >>> (4 : UInt8)) + (1 : UInt8)).toNat : Int) .u8 .u8 (.inl rfl) (.inl rfl) q2 hq3  ⟨rfl, rfl⟩) ?_
  by_cases c4 : (List.length (lit [92, 120]) : Int) + List.length q2 ≤ 9223372036854775807
  · replace H := ifP c4 H
    refine WD_take' 6 rfl (by kernel_rfl) (by kernel_rfl) (by kernel_rfl) (by kernel_rfl) (by kernel_rfl) rfl (fun _ _ _ h => h) rfl _ (M1.sub (.cons_cons _ .slnil)) rfl (fun w_ hS => L_bin rfl rfl (.string (sv (lit [92, 120]))) (.string (sv q2)) rfl rfl (.string (sv (cat (lit [92, 120]) q2))) (B_sadd _ _ _ (lit [92, 120]) q2 c4)  ⟨rfl, rfl⟩) ?_
    refine WD_take' 7 rfl (by kernel_rfl) (by kernel_rfl) (by kernel_rfl) (by kernel_rfl) (by kernel_rfl) rfl (fun _ _ _ h => h) rfl _ (M1.sub (.cons_cons _ .slnil)) rfl (fun w_ hS => L_move rfl rfl (.int .u8 (a0.toNat : Int)) rfl  ⟨rfl, rfl⟩) ?_
    refine WD_take' 8 rfl (by kernel_rfl) (by kernel_rfl) (by kernel_rfl) (by kernel_rfl) (by kernel_rfl) rfl (fun _ _ _ h => h) rfl _ (M1.sub (.cons_cons _ .slnil)) rfl (fun w_ hS => L_bin rfl rfl (.int .u8 (a0.toNat : Int)) (.int .u8 15) rfl rfl (.int .u8 ((a0 &&& (15 : UInt8)).toNat : Int)) (B_and8 _ _ _ a0 15)  ⟨rfl, rfl⟩) ?_
    refine WD_take' 9 rfl (by kernel_rfl) (by kernel_rfl) (by kernel_rfl) (by kernel_rfl) (by kernel_rfl) rfl (fun _ _ _ h => h) rfl _ (M1.sub (.cons_cons _ .slnil)) rfl (fun w_ hS => L_move rfl rfl (.int .u8 (a0.toNat : Int)) rfl  ⟨rfl, rfl⟩) ?_
    refine WD_take' 10 rfl (by kernel_rfl) (by kernel_rfl) (by kernel_rfl) (by kernel_rfl) (by kernel_rfl) rfl (fun _ _ _ h => h) rfl _ (M1.sub (.cons_cons _ .slnil)) rfl (fun w_ hS => L_bin rfl rfl (.int .u8 (a0.toNat : Int)) (.int .u8 15) rfl rfl (.int .u8 ((a0 &&& (15 : UInt8)).toNat : Int)) (B_and8 _ _ _ a0 15)  ⟨rfl, rfl⟩) ?_
    refine WD_take' 11 rfl (by kernel_rfl) (by kernel_rfl) (by kernel_rfl) (by kernel_rfl) (by kernel_rfl) rfl (fun _ _ _ h => h) rfl _ (M1.sub (.cons_cons _ .slnil)) rfl (fun w_ hS => L_bin rfl rfl (.int .u8 ((a0 &&& (15 : UInt8)).toNat : Int)) (.int .u8 1) rfl rfl (.int .u8 (((a0 &&& (15 : UInt8)) + (1 : UInt8)).toNat : Int)) (B_add8 _ _ _ (a0 &&& (15 : UInt8)) (1 : UInt8))  ⟨rfl, rfl⟩) ?_
    obtain ⟨q5, hq6, H⟩ := bindS H
    refine WD_take' 12 rfl (by kernel_rfl) (by kernel_rfl) (by kernel_rfl) (by kernel_rfl) (by kernel_rfl) rfl (fun _ _ _ h => h) rfl _ (M1.sub (.cons_cons _ .slnil)) rfl (fun w_ hS => L_sslice rfl rfl Tryd.underlying9 (lit [48, 49, 50, 51, 52, 53, 54, 55, 56, 57, 97, 98, 99, 100, 101, 102]) rfl ((a0 &&& (15 : UInt8)).toNat : Int) (((a0 &&& (15 : UInt8)) + (1 : UInt8)).toNat : Int) .u8 .u8 (.inl rfl) (.inl rfl) q5 hq6  ⟨rfl, rfl⟩) ?_
    by_cases c7 : (List.length (cat (lit [92, 120]) q2) : Int) + List.length q5 ≤ 9223372036854775807
    · replace H := ifP c7 H
      refine WD_take' 13 rfl (by kernel_rfl) (by kernel_rfl) (by kernel_rfl) (by kernel_rfl) (by kernel_rfl) rfl (fun _ _ _ h => h) rfl _ (M1.sub (.cons_cons _ .slnil)) rfl (fun w_ hS => L_bin rfl rfl (.string (sv (cat (lit [92, 120]) q2))) (.string (sv q5)) rfl rfl (.string (sv (cat (cat (lit [92, 120]) q2) q5))) (B_sadd _ _ _ (cat (lit [92, 120]) q2) q5 c7)  ⟨rfl, rfl⟩) ?_
      refine WD_take' 14 rfl (by kernel_rfl) (by kernel_rfl) (by kernel_rfl) (by kernel_rfl) (by kernel_rfl) rfl (fun _ _ _ h => h) rfl _ (M1.sub (.cons_cons _ .slnil)) rfl (fun w_ hS => L_assign rfl rfl (.string (sv (cat (cat (lit [92, 120]) q2) q5))) rfl  ⟨rfl, rfl⟩) ?_
      refine WD_done (by kernel_rfl) ?_
      refine thenN ?_
      refine WC_ret ?_
      obtain rfl := someE H
      refine retR [.string (sv (cat (cat (lit [92, 120]) q2) q5))] ⟨rfl, trivial⟩ ?_
      exact ⟨rfl, M1⟩
    · exact noneS (ifN c7 H)
  · exact noneS (ifN c4 H)

/-! ### annals/text.stray: function 55 -/
def text_stray (a0 : Str) (a1 : Int) (a2 : Int) : Option Bool :=
  (if (a2 : Int) ≠ 65533 then (some false) else (subS a0 a1 (List.length a0 : Int)).bind (fun q2 => (unicode_utf8_DecodeRuneInString q2).bind (fun (r5 : (Int × Int)) => (some (decide ((r5.2 : Int) = 1))))))
set_option maxRecDepth 100000 in
set_option maxHeartbeats 4000000 in
theorem text_stray_ok (a0 : Str) (a1 : Int) (a2 : Int) (r : Bool) (w : World) (Fr : BS) (hG : Gl Fr w) (hF : ∀ b, Fr b → b < w.heap.size)  (H : text_stray a0 a1 a2 = some r) :
    CallsR Tryd.prog 55 #[.string (sv a0), .int .i64 a1, .int .i32 a2] w (fun v w' => v = .bool r ∧ Mem w' [(Fr, w)]) := by
  have M0 := Mem.start w Fr hF
  refine enterZ (args := [.string (sv a0), .int .i64 a1, .int .i32 a2]) [.tmp 6] Tryd.func55 rfl rfl rfl rfl ?_
  unfold text_stray at H
  refine WC_seq ?_
  refine WC_region ?_
  refine WL_of (L_assign rfl rfl (.bool false) rfl ?_)
  refine WL_nil ?_
  refine thenN ?_
  refine WC_seq ?_
  refine WC_seq ?_
  refine WC_region ?_
  refine WL_of (L_move rfl rfl (.int .i32 a2) rfl ?_)
  refine WL_of (L_bin rfl rfl (.int .i32 a2) (.int .i32 65533) rfl rfl (.bool (decide ((a2 : Int) ≠ 65533))) (B_neq _ _ _ _ a2 65533) ?_)
  refine WL_nil ?_
  refine thenN ?_
  refine WC_if (p := (a2 : Int) ≠ 65533) rfl (fun c1 => ?_) (fun c1 => ?_)
  · replace H := ifP c1 H
    refine WC_seq ?_
    refine WC_region ?_
    refine WL_of (L_assign rfl rfl (.bool false) rfl ?_)
    refine WL_nil ?_
    refine thenN ?_
    refine WC_ret ?_
    refine thenR ?_
    obtain rfl := someE H
    refine retR [.bool false] ⟨rfl, trivial⟩ ?_
    exact ⟨rfl, M0⟩
  · replace H := ifN c1 H
    refine WC_skip ?_
    refine thenN ?_
    refine WC_seq ?_
    refine WC_region ?_
    refine WL_of (L_move rfl rfl (.string (sv a0)) rfl ?_)
    refine WL_of (L_move rfl rfl (.int .i64 a1) rfl ?_)
    obtain ⟨q2, hq3, H⟩ := bindS H
    refine WL_of (L_sslice rfl rfl Tryd.underlying9 a0 rfl a1 (List.length a0 : Int) .i64 .i64 (.inl rfl) (.inr ⟨rfl, rfl⟩) q2 hq3 ?_)
    obtain ⟨r5, hr6, H⟩ := bindS H
    refine WL_of (L_call' rfl rfl cf48 [.string (sv q2)] rfl (unicode_utf8_DecodeRuneInString_ok q2 r5 _ (Un [(Fr, w)]) (hG.call M0 0 rfl) M0.frame  hr6) ?_)
    rintro _ W7 ⟨rfl, M8⟩
    have M9 : Mem W7 [(Fr, w)] := M0.back (New := []) M8
    refine WL_of (L_move rfl rfl (.tuple #[.int .i32 r5.1, .int .i64 r5.2]) rfl ?_)
    refine WL_of (L_extract rfl rfl [.int .i32 r5.1, .int .i64 r5.2] rfl (.int .i32 r5.1) rfl ?_)
    refine WL_of (L_extract rfl rfl [.int .i32 r5.1, .int .i64 r5.2] rfl (.int .i64 r5.2) rfl ?_)
    refine WL_of (L_assign rfl rfl (.int .i32 r5.1) rfl ?_)
    refine WL_of (L_assign rfl rfl (.int .i64 r5.2) rfl ?_)
    refine WL_nil ?_
    refine thenN ?_
    refine WC_seq ?_
    refine WC_region ?_
    refine WL_of (L_move rfl rfl (.int .i64 r5.2) rfl ?_)
    refine WL_of (L_bin rfl rfl (.int .i64 r5.2) (.int .i64 1) rfl rfl (.bool (decide ((r5.2 : Int) = 1))) (B_eql _ _ _ _ r5.2 1) ?_)
    refine WL_of (L_assign rfl rfl (.bool (decide ((r5.2 : Int) = 1))) rfl ?_)
    refine WL_nil ?_
    refine thenN ?_
    refine WC_ret ?_
    obtain rfl := someE H
    refine retR [.bool (decide ((r5.2 : Int) = 1))] ⟨rfl, trivial⟩ ?_
    exact ⟨rfl, M9⟩

/-! ### internal/strconv.isPowerOfTwo: function 87 -/
def internal_strconv_isPowerOfTwo (a0 : Int) : Option Bool :=
  (if a0 = 16 then (some true) else none)
set_option maxRecDepth 100000 in
set_option maxHeartbeats 4000000 in
theorem internal_strconv_isPowerOfTwo_ok (a0 : Int) (r : Bool) (w : World) (Fr : BS) (hG : Gl Fr w) (hF : ∀ b, Fr b → b < w.heap.size)  (H : internal_strconv_isPowerOfTwo a0 = some r) :
    CallsR Tryd.prog 87 #[.int .i64 a0] w (fun v w' => v = .bool r ∧ Mem w' [(Fr, w)]) := by
  have M0 := Mem.start w Fr hF
  have hs_a0 : a0 = 16 := by
    unfold internal_strconv_isPowerOfTwo at H
    by_cases hs : a0 = 16
    · exact hs
    · exact noneS (ifN hs H)
  subst hs_a0
  refine enterZ (args := [.int .i64 16]) [.tmp 2] Tryd.func87 rfl rfl rfl rfl ?_
  unfold internal_strconv_isPowerOfTwo at H
  replace H := ifP rfl H
  refine WC_seq ?_
  refine WC_region ?_
  refine WL_of (L_assign rfl rfl (.bool false) rfl ?_)
  refine WL_nil ?_
  refine thenN ?_
  refine WC_seq ?_
  refine WC_region ?_
  refine WL_of (L_move rfl rfl (.int .i64 16) rfl ?_)
  refine WL_of (L_move rfl rfl (.int .i64 16) rfl ?_)
  refine WL_of (L_bin rfl rfl (.int .i64 16) (.int .i64 1) rfl rfl (.int .i64 15) ((B_subK _ _ _ _ 16 1).trans (by kernel_rfl)) ?_)
  refine WL_of (L_bin rfl rfl (.int .i64 16) (.int .i64 15) rfl rfl (.int .i64 0) ((B_andK _ _ _ _ 16 15).trans (by kernel_rfl)) ?_)
  refine WL_of (L_bin rfl rfl (.int .i64 0) (.int .i64 0) rfl rfl (.bool true) ((B_eql _ _ _ _ 0 0).trans (by kernel_rfl)) ?_)
  refine WL_of (L_assign rfl rfl (.bool true) rfl ?_)
  refine WL_nil ?_
  refine thenN ?_
  refine WC_ret ?_
  obtain rfl := someE H
  refine retR [.bool true] ⟨rfl, trivial⟩ ?_
  exact ⟨rfl, M0⟩

/-! ### math/bits.TrailingZeros64: function 96 -/
def math_bits_TrailingZeros64 (a0 : Int) : Option Int :=
  (if a0 = 16 then (atL math_bits_deBruijn64tab 15).bind (fun q1 => (some (q1.toNat : Int))) else none)
set_option maxRecDepth 100000 in
set_option maxHeartbeats 4000000 in
theorem math_bits_TrailingZeros64_ok (a0 : Int) (r : Int) (w : World) (Fr : BS) (hG : Gl Fr w) (hF : ∀ b, Fr b → b < w.heap.size)  (H : math_bits_TrailingZeros64 a0 = some r) :
    CallsR Tryd.prog 96 #[.int .u64 a0] w (fun v w' => v = .int .i64 r ∧ Mem w' [(Fr, w)]) := by
  have M0 := Mem.start w Fr hF
  have hs_a0 : a0 = 16 := by
    unfold math_bits_TrailingZeros64 at H
    by_cases hs : a0 = 16
    · exact hs
    · exact noneS (ifN hs H)
  subst hs_a0
  refine enterZ (args := [.int .u64 16]) [.tmp 2] Tryd.func96 rfl rfl rfl rfl ?_
  unfold math_bits_TrailingZeros64 at H
  replace H := ifP rfl H
  refine WC_seq ?_
  refine WC_region ?_
  refine WL_of (L_assign rfl rfl (.int .i64 0) rfl ?_)
  refine WL_nil ?_
  refine thenN ?_
  refine WC_seq ?_
  refine WC_seq ?_
  refine WC_region ?_
  refine WL_of (L_move rfl rfl (.int .u64 16) rfl ?_)
  refine WL_of (L_bin rfl rfl (.int .u64 16) (.int .u64 0) rfl rfl (.bool false) ((B_eql _ _ _ _ 16 0).trans (by kernel_rfl)) ?_)
  refine WL_nil ?_
  refine thenN ?_
  refine WC_no rfl ?_
  refine WC_skip ?_
  refine thenN ?_
  refine WC_seq ?_
  refine WC_region ?_
  refine WL_of (L_move rfl rfl (.int .u64 16) rfl ?_)
  refine WL_of (L_move rfl rfl (.int .u64 16) rfl ?_)
  refine WL_of (L_negL rfl rfl 16 rfl 18446744073709551600 (by kernel_rfl) ?_)
  refine WL_of (L_bin rfl rfl (.int .u64 16) (.int .u64 18446744073709551600) rfl rfl (.int .u64 16) ((B_andK _ _ _ _ 16 18446744073709551600).trans (by kernel_rfl)) ?_)
  refine WL_of (L_bin rfl rfl (.int .u64 16) (.int .u64 285870213051353865) rfl rfl (.int .u64 4573923408821661840) ((B_mulK _ _ _ _ 16 285870213051353865).trans (by kernel_rfl)) ?_)
  refine WL_of (L_bin rfl rfl (.int .u64 4573923408821661840) (.int .u64 58) rfl rfl (.int .u64 15) ((B_shrK _ _ _ _ _ 4573923408821661840 58 (by decide)).trans (by kernel_rfl)) ?_)
  obtain ⟨q1, hq2, H⟩ := bindS H
  obtain ⟨ad3, cs4, hA5, E6, R7⟩ := hG.t_math_bits_deBruijn64tab.at hq2
  cases hA5
  have hl8 := atL_spec hq2
  refine WL_of (L_indexArr rfl rfl Tryd.underlying164 sz5 rfl rfl hl8.1 hl8.2.1 ?_)
  obtain rfl := R7
  have E9 : El w Fr (Addr.add ⟨7, 0, none⟩ (Int.toNat 15 * 1)) [.int .u8 (q1.toNat : Int)] := E6
  refine WL_of (L_load1 rfl rfl Tryd.underlying5 rfl E9 (M0.agree 0 rfl) 0 rfl (.int .u8 (q1.toNat : Int)) rfl ?_)
  refine WL_of (L_conv rfl rfl (.int .u8 (q1.toNat : Int)) rfl (.int .i64 (q1.toNat : Int)) (C_u8_i64 Tryd.underlying5 Tryd.underlying3 q1) ?_)
  refine WL_of (L_assign rfl rfl (.int .i64 (q1.toNat : Int)) rfl ?_)
  refine WL_nil ?_
  refine thenN ?_
  refine WC_ret ?_
  obtain rfl := someE H
  refine retR [.int .i64 (q1.toNat : Int)] ⟨rfl, trivial⟩ ?_
  exact ⟨rfl, M0⟩

/-! ### math/bits.TrailingZeros: function 88 -/
def math_bits_TrailingZeros (a0 : Int) : Option Int :=
  (if a0 = 16 then (math_bits_TrailingZeros64 16).bind (fun (r2 : Int) => (some r2)) else none)
set_option maxRecDepth 100000 in
set_option maxHeartbeats 4000000 in
theorem math_bits_TrailingZeros_ok (a0 : Int) (r : Int) (w : World) (Fr : BS) (hG : Gl Fr w) (hF : ∀ b, Fr b → b < w.heap.size)  (H : math_bits_TrailingZeros a0 = some r) :
    CallsR Tryd.prog 88 #[.int .u64 a0] w (fun v w' => v = .int .i64 r ∧ Mem w' [(Fr, w)]) := by
  have M0 := Mem.start w Fr hF
  have hs_a0 : a0 = 16 := by
    unfold math_bits_TrailingZeros at H
    by_cases hs : a0 = 16
    · exact hs
    · exact noneS (ifN hs H)
  subst hs_a0
  refine enterZ (args := [.int .u64 16]) [.tmp 2] Tryd.func88 rfl rfl rfl rfl ?_
  unfold math_bits_TrailingZeros at H
  replace H := ifP rfl H
  refine WC_seq ?_
  refine WC_region ?_
  refine WL_of (L_assign rfl rfl (.int .i64 0) rfl ?_)
  refine WL_nil ?_
  refine thenN ?_
  refine WC_seq ?_
  refine WC_no rfl ?_
  refine WC_skip ?_
  refine thenN ?_
  refine WC_seq ?_
  refine WC_region ?_
  refine WL_of (L_move rfl rfl (.int .u64 16) rfl ?_)
  obtain ⟨r2, hr3, H⟩ := bindS H
  refine WL_of (L_call' rfl rfl cf96 [.int .u64 16] rfl (math_bits_TrailingZeros64_ok 16 r2 _ (Un [(Fr, w)]) (hG.call M0 0 rfl) M0.frame  hr3) ?_)
  rintro _ W4 ⟨rfl, M5⟩
  have M6 : Mem W4 [(Fr, w)] := M0.back (New := []) M5
  refine WL_of (L_assign rfl rfl (.int .i64 r2) rfl ?_)
  refine WL_nil ?_
  refine thenN ?_
  refine WC_ret ?_
  obtain rfl := someE H
  refine retR [.int .i64 r2] ⟨rfl, trivial⟩ ?_
  exact ⟨rfl, M6⟩

/-! ### internal/strconv.formatBits: function 74 -/
mutual
def internal_strconv_formatBits.l2 : Nat → Bool → Bool → Int → Int → Int → (List UInt8) → Option ((List UInt8) × Str)
  | 0, _, _, _, _, _, _ => none
  | k + 1, a3, a4, r39, x51, x52, x53 => (if (16 : Int) ≤ x51 then (atL (lit [48, 49, 50, 51, 52, 53, 54, 55, 56, 57, 97, 98, 99, 100, 101, 102, 103, 104, 105, 106, 107, 108, 109, 110, 111, 112, 113, 114, 115, 116, 117, 118, 119, 120, 121, 122]) (andK .u64 x51 15)).bind (fun b63 => (if (0 ≤ wrap64 (x52 - 1) ∧ wrap64 (x52 - 1) < 65) ∧ wrap64 (x52 - 1) < (List.length x53 : Int) then (if (0 : Int) ≤ (IntKind.wrap .u64 r39) then (internal_strconv_formatBits.l2 k a3 a4 r39 (shrK .u64 x51 (IntKind.wrap .u64 r39)) (wrap64 (x52 - 1)) (List.set x53 (Int.toNat (wrap64 (x52 - 1))) b63)) else none) else none)) else (atL (lit [48, 49, 50, 51, 52, 53, 54, 55, 56, 57, 97, 98, 99, 100, 101, 102, 103, 104, 105, 106, 107, 108, 109, 110, 111, 112, 113, 114, 115, 116, 117, 118, 119, 120, 121, 122]) x51).bind (fun b70 => (if (0 ≤ wrap64 (x52 - 1) ∧ wrap64 (x52 - 1) < 65) ∧ wrap64 (x52 - 1) < (List.length x53 : Int) then (internal_strconv_formatBits.j0 k a3 a4 (wrap64 (x52 - 1)) (List.set x53 (Int.toNat (wrap64 (x52 - 1))) b70)) else none)))
def internal_strconv_formatBits.l3 : Nat → Bool → Bool → Int → Int → Option ((List UInt8) × Str)
  | 0, _, _, _, _ => none
  | k + 1, a3, a4, x80, x81 => (if (16 : Int) ≤ x80 then none else (atL (lit [48, 49, 50, 51, 52, 53, 54, 55, 56, 57, 97, 98, 99, 100, 101, 102, 103, 104, 105, 106, 107, 108, 109, 110, 111, 112, 113, 114, 115, 116, 117, 118, 119, 120, 121, 122]) x80).bind (fun b89 => (if (0 ≤ wrap64 (x81 - 1) ∧ wrap64 (x81 - 1) < 65) ∧ wrap64 (x81 - 1) < (List.length (List.replicate 65 (0 : UInt8)) : Int) then (internal_strconv_formatBits.j0 k a3 a4 (wrap64 (x81 - 1)) (List.set (List.replicate 65 (0 : UInt8)) (Int.toNat (wrap64 (x81 - 1))) b89)) else none)))
def internal_strconv_formatBits.j0 : Nat → Bool → Bool → Int → (List UInt8) → Option ((List UInt8) × Str)
  | 0, _, _, _, _ => none
  | k + 1, a3, a4, x22, x23 => ((if a3 = true then (if (0 ≤ wrap64 (x22 - 1) ∧ wrap64 (x22 - 1) < 65) ∧ wrap64 (x22 - 1) < (List.length x23 : Int) then (some (wrap64 (x22 - 1), (List.set x23 (Int.toNat (wrap64 (x22 - 1))) (45 : UInt8)))) else none) else (some (x22, x23)))).bind (fun (z95 : (Int × (List UInt8))) => (if a4 = true then (if List.length z95.2 = 65 then (subL z95.2 z95.1 (65 : Int)).bind (fun q107 => none) else none) else (if List.length z95.2 = 65 then (subL z95.2 z95.1 (65 : Int)).bind (fun q113 => (some (([] : List UInt8), (lit q113)))) else none)))
end
def internal_strconv_formatBits (k : Nat) (a0 : List UInt8) (a1 : Int) (a2 : Int) (a3 : Bool) (a4 : Bool) : Option ((List UInt8) × Str) :=
  (if a2 = 16 then (((some ())).bind (fun (z3 : Unit) => (some ()))).bind (fun (z1 : Unit) => ((if a3 = true then (some (IntKind.wrap .u64 (-a1))) else (some a1))).bind (fun (z16 : Int) => (internal_strconv_isPowerOfTwo 16).bind (fun (r32 : Bool) => (if r32 = true then (math_bits_TrailingZeros 16).bind (fun (r39 : Int) => (internal_strconv_formatBits.l2 k a3 a4 r39 z16 65 (List.replicate 65 (0 : UInt8)))) else (internal_strconv_formatBits.l3 k a3 a4 z16 65))))) else none)
set_option maxRecDepth 100000 in
set_option maxHeartbeats 4000000 in
theorem internal_strconv_formatBits_ok (k : Nat) (a0 : List UInt8) (Aa0_0 : Option Addr) (ca0_0 : Nat) (a1 : Int) (a2 : Int) (a3 : Bool) (a4 : Bool) (r : (List UInt8) × Str) (w : World) (Fr : BS) (hG : Gl Fr w) (hF : ∀ b, Fr b → b < w.heap.size) (ha0_0 : SR w Fr w Fr Aa0_0 ca0_0 a0) (H : internal_strconv_formatBits k a0 a1 a2 a3 a4 = some r) :
    CallsR Tryd.prog 74 #[.slice Aa0_0 a0.length ca0_0, .int .u64 a1, .int .i64 a2, .bool a3, .bool a4] w (fun v w' => ∃ (A0 : Option Addr) (c0 : Nat) (S0 : BS), v = .tuple #[.slice A0 (List.length r.1) c0, .string (sv r.2)] ∧ Mem w' [(S0, w'), (Fr, w)] ∧ OR w' S0 w' none0 5 A0 c0 r.1) := by
  have M0 := Mem.start w Fr hF
  have hs_a2 : a2 = 16 := by
    unfold internal_strconv_formatBits at H
    by_cases hs : a2 = 16
    · exact hs
    · exact noneS (ifN hs H)
  subst hs_a2
  refine enterZ (args := [.slice Aa0_0 a0.length ca0_0, .int .u64 a1, .int .i64 16, .bool a3, .bool a4]) [.tmp 10, .tmp 11] Tryd.func74 rfl rfl rfl rfl ?_
  unfold internal_strconv_formatBits at H
  replace H := ifP rfl H
  refine WC_seq ?_
  refine WC_region ?_
  refine WL_of (L_assign rfl rfl (.slice none 0 0) rfl ?_)
  refine WL_of (L_assign rfl rfl (.string (sv (lit []))) rfl ?_)
  refine WL_nil ?_
  refine thenN ?_
  obtain ⟨z1, hz2, H⟩ := bindS H
  refine WC_cut (fun ρ w_ => ∃  (ρ0 : Nat → Value), ρ = updL ρ0 [(0, .slice Aa0_0 a0.length ca0_0), (1, .int .u64 a1), (2, .int .i64 16), (3, .bool a3), (4, .bool a4), (10, .slice none 0 0), (11, .string (sv (lit [])))] ∧ Mem w_ [(Fr, w)]) ?_ ?_
  · obtain ⟨z3, hz4, hz2⟩ := bindS hz2
    refine WC_cut (fun ρ w_ => ∃  (ρ0 : Nat → Value), ρ = updL ρ0 [(0, .slice Aa0_0 a0.length ca0_0), (1, .int .u64 a1), (2, .int .i64 16), (3, .bool a3), (4, .bool a4), (10, .slice none 0 0), (11, .string (sv (lit []))), (28, .bool false)] ∧ Mem w_ [(Fr, w)]) ?_ ?_
    · refine WC_region ?_
      refine WL_of (L_move rfl rfl (.int .i64 16) rfl ?_)
      refine WL_of (L_bin rfl rfl (.int .i64 16) (.int .i64 2) rfl rfl (.bool false) ((B_lss _ _ _ _ 16 2).trans (by kernel_rfl)) ?_)
      refine WL_of (L_move rfl rfl (.bool false) rfl ?_)
      refine WL_of (L_move rfl rfl (.int .i64 16) rfl ?_)
      refine WL_of (L_bin rfl rfl (.int .i64 16) (.int .i64 10) rfl rfl (.bool false) ((B_eql _ _ _ _ 16 10).trans (by kernel_rfl)) ?_)
      refine WL_of (L_pick rfl rfl false rfl (.bool false) rfl ?_)
      refine WL_of (L_move rfl rfl (.bool false) rfl ?_)
      refine WL_of (L_move rfl rfl (.int .i64 16) rfl ?_)
      refine WL_of (L_bin rfl rfl (.int .i64 16) (.int .i64 36) rfl rfl (.bool false) ((B_gtr _ _ _ _ 16 36).trans (by kernel_rfl)) ?_)
      refine WL_of (L_pick rfl rfl false rfl (.bool false) rfl ?_)
      refine WL_nil ?_
      refine thenN ?_
      obtain rfl := someE hz4
      exact ⟨_, updL_same _ _ ⟨rfl, rfl, rfl, rfl, rfl, rfl, rfl, rfl, trivial⟩, M0⟩
    · rintro _ W5 ⟨ρ7, rfl, M6⟩
      refine WC_no rfl ?_
      refine WC_skip ?_
      refine thenN ?_
      obtain rfl := someE hz2
      exact ⟨_, updL_same _ _ ⟨rfl, rfl, rfl, rfl, rfl, rfl, rfl, trivial⟩, M6⟩
  · rintro _ W8 ⟨ρ10, rfl, M9⟩
    refine WC_seq ?_
    refine WC_region ?_
    refine WL_of (L_alloc M9 rfl rfl zr153 (u8c (List.replicate 65 (0 : UInt8))) rfl ?_)
    intro g11 W12 B13 M14
    refine WL_nil ?_
    refine thenN ?_
    refine WC_seq ?_
    refine WC_region ?_
    refine WL_of (L_assign rfl rfl (.int .i64 65) rfl ?_)
    refine WL_nil ?_
    refine thenN ?_
    obtain ⟨z16, hz17, H⟩ := bindS H
    refine WC_cut (fun ρ w_ => ∃  (ρ0 : Nat → Value), ρ = updL ρ0 [(0, .slice Aa0_0 a0.length ca0_0), (1, .int .u64 z16), (2, .int .i64 16), (3, .bool a3), (4, .bool a4), (10, .slice none 0 0), (11, .string (sv (lit []))), (12, .pointer (some ⟨g11, 0, none⟩)), (13, .int .i64 65)] ∧ Mem w_ [(one g11, W12), (Fr, w)]) ?_ ?_
    · refine WC_seq ?_
      refine WC_region ?_
      refine WL_of (L_move rfl rfl (.bool a3) rfl ?_)
      refine WL_nil ?_
      refine thenN ?_
      refine WC_ifb rfl (fun c18 => ?_) (fun c18 => ?_)
      · replace hz17 := ifP c18 hz17
        refine WC_region ?_
        refine WL_of (L_move rfl rfl (.int .u64 a1) rfl ?_)
        refine WL_of (L_negK rfl rfl a1 rfl ?_)
        refine WL_of (L_assign rfl rfl (.int .u64 (IntKind.wrap .u64 (-a1))) rfl ?_)
        refine WL_nil ?_
        refine thenN ?_
        obtain rfl := someE hz17
        exact ⟨_, updL_same _ _ ⟨rfl, rfl, rfl, rfl, rfl, rfl, rfl, rfl, rfl, trivial⟩, M14⟩
      · replace hz17 := ifN (by rw [c18]; simp) hz17
        refine WC_skip ?_
        refine thenN ?_
        obtain rfl := someE hz17
        exact ⟨_, updL_same _ _ ⟨rfl, rfl, rfl, rfl, rfl, rfl, rfl, rfl, rfl, trivial⟩, M14⟩
    · rintro _ W19 ⟨ρ21, rfl, M20⟩
      refine WC_cut (fun ρ w_ => ∃ (k28 : Nat), ∃ (x22 : Int) (x23 : List UInt8) (ρ0 : Nat → Value), ρ = updL ρ0 [(0, .slice Aa0_0 a0.length ca0_0), (3, .bool a3), (4, .bool a4), (10, .slice none 0 0), (11, .string (sv (lit []))), (12, .pointer (some ⟨g11, 0, none⟩)), (13, .int .i64 x22)] ∧ Mem w_ [(one g11, w_), (Fr, w)] ∧ Bx w_ g11 (u8c x23) 153 ∧ k28 ≤ k ∧ internal_strconv_formatBits.j0 k28 a3 a4 x22 x23 = some r) ?_ ?_
      · refine WC_seq ?_
        refine WC_region ?_
        refine WL_of (L_move rfl rfl (.int .i64 16) rfl ?_)
        obtain ⟨r32, hr33, H⟩ := bindS H
        refine WL_of (L_call' rfl rfl cf87 [.int .i64 16] rfl (internal_strconv_isPowerOfTwo_ok 16 r32 _ (Un [(one g11, W12), (Fr, w)]) (hG.call M20 1 rfl) M20.frame  hr33) ?_)
        rintro _ W34 ⟨rfl, M35⟩
        have M36 : Mem W34 [(one g11, W12), (Fr, w)] := M20.back (New := []) M35
        refine WL_nil ?_
        refine thenN ?_
        refine WC_ifb rfl (fun c37 => ?_) (fun c37 => ?_)
        · replace H := ifP c37 H
          refine WC_seq ?_
          refine WC_region ?_
          refine WL_of (L_move rfl rfl (.int .i64 16) rfl ?_)
          refine WL_of (L_conv rfl rfl (.int .i64 16) rfl (.int .u64 16) ((C_intK Tryd.underlying3 Tryd.underlying139 16).trans (by kernel_rfl)) ?_)
          obtain ⟨r39, hr40, H⟩ := bindS H
          refine WL_of (L_call' rfl rfl cf88 [.int .u64 16] rfl (math_bits_TrailingZeros_ok 16 r39 _ (Un [(one g11, W12), (Fr, w)]) (hG.call M36 1 rfl) M36.frame  hr40) ?_)
          rintro _ W41 ⟨rfl, M42⟩
          have M43 : Mem W41 [(one g11, W12), (Fr, w)] := M36.back (New := []) M42
          refine WL_of (L_conv rfl rfl (.int .i64 r39) rfl (.int .u64 (IntKind.wrap .u64 r39)) (C_intK Tryd.underlying3 Tryd.underlying139 r39) ?_)
          refine WL_of (L_assign rfl rfl (.int .u64 (IntKind.wrap .u64 r39)) rfl ?_)
          refine WL_nil ?_
          refine thenN ?_
          refine WC_seq ?_
          refine WC_region ?_
          refine WL_of (L_move rfl rfl (.int .i64 16) rfl ?_)
          refine WL_of (L_conv rfl rfl (.int .i64 16) rfl (.int .u64 16) ((C_intK Tryd.underlying3 Tryd.underlying125 16).trans (by kernel_rfl)) ?_)
          refine WL_of (L_assign rfl rfl (.int .u64 16) rfl ?_)
          refine WL_nil ?_
          refine thenN ?_
          refine WC_seq ?_
          refine WC_region ?_
          refine WL_of (L_move rfl rfl (.int .i64 16) rfl ?_)
          refine WL_of (L_conv rfl rfl (.int .i64 16) rfl (.int .u64 16) ((C_intK Tryd.underlying3 Tryd.underlying139 16).trans (by kernel_rfl)) ?_)
          refine WL_of (L_bin rfl rfl (.int .u64 16) (.int .u64 1) rfl rfl (.int .u64 15) ((B_subK _ _ _ _ 16 1).trans (by kernel_rfl)) ?_)
          refine WL_of (L_assign rfl rfl (.int .u64 15) rfl ?_)
          refine WL_nil ?_
          refine thenN ?_
          refine WC_seq ?_
          refine WC_block ?_
          refine WC_loop (fun k59 ρ w_ => ∃ (x51 : Int) (x52 : Int) (x53 : List UInt8) (ρ0 : Nat → Value), ρ = updL ρ0 [(0, .slice Aa0_0 a0.length ca0_0), (1, .int .u64 x51), (3, .bool a3), (4, .bool a4), (10, .slice none 0 0), (11, .string (sv (lit []))), (12, .pointer (some ⟨g11, 0, none⟩)), (13, .int .i64 x52), (14, .int .u64 (IntKind.wrap .u64 r39)), (15, .int .u64 16), (16, .int .u64 15)] ∧ Mem w_ [(one g11, w_), (Fr, w)] ∧ Bx w_ g11 (u8c x53) 153 ∧ k59 ≤ k ∧ internal_strconv_formatBits.l2 k59 a3 a4 r39 x51 x52 x53 = some r) k ?_ ?_
          · have M61 : Mem W41 [(one g11, W41), (Fr, w)] := M43.rebase
            exact ⟨z16, 65, (List.replicate 65 (0 : UInt8)), _, updL_same _ _ ⟨rfl, rfl, rfl, rfl, rfl, rfl, rfl, rfl, rfl, rfl, rfl, trivial⟩, M61, B13.now (M43.agree 0 rfl), (Nat.le_refl _), H⟩
          · rintro k59 _ W55 ⟨x51, x52, x53, ρ57, rfl, M56, B54, hk60, H58⟩
            cases k59 with
            | zero => rw [internal_strconv_formatBits.l2] at H58; cases H58
            | succ k59 =>
            rw [internal_strconv_formatBits.l2] at H58
            refine WC_seq ?_
            refine WC_seq ?_
            refine WC_region ?_
            refine WL_of (L_move rfl rfl (.int .u64 x51) rfl ?_)
            refine WL_of (L_move rfl rfl (.int .u64 16) rfl ?_)
            refine WL_of (L_bin rfl rfl (.int .u64 x51) (.int .u64 16) rfl rfl (.bool (decide ((16 : Int) ≤ x51))) (B_geq _ _ _ _ x51 16) ?_)
            refine WL_nil ?_
            refine thenN ?_
            refine WC_if (p := (16 : Int) ≤ x51) rfl (fun c62 => ?_) (fun c62 => ?_)
            · replace H58 := ifP c62 H58
              refine WC_skip ?_
              refine thenN ?_
              refine WC_block ?_
              refine WC_seq ?_
              refine WC_region ?_
              refine WL_of (L_move rfl rfl (.int .i64 x52) rfl ?_)
              refine WL_of (L_bin rfl rfl (.int .i64 x52) (.int .i64 1) rfl rfl (.int .i64 (wrap64 (x52 - 1))) (B_sub _ _ _ x52 1) ?_)
              refine WL_of (L_assign rfl rfl (.int .i64 (wrap64 (x52 - 1))) rfl ?_)
              refine WL_nil ?_
              refine thenN ?_
              refine WC_seq ?_
              refine WC_region ?_
              refine WL_of (L_move rfl rfl (.int .i64 (wrap64 (x52 - 1))) rfl ?_)
              refine WL_of (L_move rfl rfl (.int .u64 x51) rfl ?_)
              refine WL_of (L_move rfl rfl (.int .u64 15) rfl ?_)
              refine WL_of (L_bin rfl rfl (.int .u64 x51) (.int .u64 15) rfl rfl (.int .u64 (andK .u64 x51 15)) (B_andK _ _ _ _ x51 15) ?_)
              obtain ⟨b63, hb64, H58⟩ := bindS H58
              refine WL_of (L_sindex rfl rfl Tryd.underlying9 .u64 (lit [48, 49, 50, 51, 52, 53, 54, 55, 56, 57, 97, 98, 99, 100, 101, 102, 103, 104, 105, 106, 107, 108, 109, 110, 111, 112, 113, 114, 115, 116, 117, 118, 119, 120, 121, 122]) (andK .u64 x51 15) rfl rfl b63 hb64 ?_)
              by_cases c65 : (0 ≤ wrap64 (x52 - 1) ∧ wrap64 (x52 - 1) < 65) ∧ wrap64 (x52 - 1) < (List.length x53 : Int)
              · replace H58 := ifP c65 H58
                refine WL_of (L_indexArr rfl rfl Tryd.underlying153 sz5 rfl rfl c65.1.1 c65.1.2 ?_)
                refine WL_of (L_storeArr x53 (wrap64 (x52 - 1)) b63 M56 B54 rfl sz5 rfl rfl (by have := c65; omega) ?_)
                intro W66 B67 M68
                refine WL_nil ?_
                refine thenN ?_
                refine WC_region ?_
                refine WL_of (L_move rfl rfl (.int .u64 x51) rfl ?_)
                refine WL_of (L_move rfl rfl (.int .u64 (IntKind.wrap .u64 r39)) rfl ?_)
                by_cases c69 : (0 : Int) ≤ (IntKind.wrap .u64 r39)
                · replace H58 := ifP c69 H58
                  refine WL_of (L_bin rfl rfl (.int .u64 x51) (.int .u64 (IntKind.wrap .u64 r39)) rfl rfl (.int .u64 (shrK .u64 x51 (IntKind.wrap .u64 r39))) (B_shrK _ _ _ _ _ x51 (IntKind.wrap .u64 r39) c69) ?_)
                  refine WL_of (L_assign rfl rfl (.int .u64 (shrK .u64 x51 (IntKind.wrap .u64 r39))) rfl ?_)
                  refine WL_nil ?_
                  refine blkN ?_
                  refine thenN ?_
                  exact ⟨k59, by omega, shrK .u64 x51 (IntKind.wrap .u64 r39), wrap64 (x52 - 1), (List.set x53 (Int.toNat (wrap64 (x52 - 1))) b63), _, updL_same _ _ ⟨rfl, rfl, rfl, rfl, rfl, rfl, rfl, rfl, rfl, rfl, rfl, trivial⟩, M68, B67, (by omega), H58⟩
                · exact noneS (ifN c69 H58)
              · exact noneS (ifN c65 H58)
            · replace H58 := ifN c62 H58
              refine WC_exit ?_
              refine thenE ?_
              refine thenE ?_
              refine blkX ?_
              refine thenN ?_
              refine WC_seq ?_
              refine WC_region ?_
              refine WL_of (L_move rfl rfl (.int .i64 x52) rfl ?_)
              refine WL_of (L_bin rfl rfl (.int .i64 x52) (.int .i64 1) rfl rfl (.int .i64 (wrap64 (x52 - 1))) (B_sub _ _ _ x52 1) ?_)
              refine WL_of (L_assign rfl rfl (.int .i64 (wrap64 (x52 - 1))) rfl ?_)
              refine WL_nil ?_
              refine thenN ?_
              refine WC_region ?_
              refine WL_of (L_move rfl rfl (.int .i64 (wrap64 (x52 - 1))) rfl ?_)
              refine WL_of (L_move rfl rfl (.int .u64 x51) rfl ?_)
              obtain ⟨b70, hb71, H58⟩ := bindS H58
              refine WL_of (L_sindex rfl rfl Tryd.underlying9 .u64 (lit [48, 49, 50, 51, 52, 53, 54, 55, 56, 57, 97, 98, 99, 100, 101, 102, 103, 104, 105, 106, 107, 108, 109, 110, 111, 112, 113, 114, 115, 116, 117, 118, 119, 120, 121, 122]) x51 rfl rfl b70 hb71 ?_)
              by_cases c72 : (0 ≤ wrap64 (x52 - 1) ∧ wrap64 (x52 - 1) < 65) ∧ wrap64 (x52 - 1) < (List.length x53 : Int)
              · replace H58 := ifP c72 H58
                refine WL_of (L_indexArr rfl rfl Tryd.underlying153 sz5 rfl rfl c72.1.1 c72.1.2 ?_)
                refine WL_of (L_storeArr x53 (wrap64 (x52 - 1)) b70 M56 B54 rfl sz5 rfl rfl (by have := c72; omega) ?_)
                intro W73 B74 M75
                refine WL_nil ?_
                refine thenN ?_
                exact ⟨k59, wrap64 (x52 - 1), (List.set x53 (Int.toNat (wrap64 (x52 - 1))) b70), _, updL_same _ _ ⟨rfl, rfl, rfl, rfl, rfl, rfl, rfl, trivial⟩, M75, B74, (by omega), H58⟩
              · exact noneS (ifN c72 H58)
        · replace H := ifN (by rw [c37]; simp) H
          refine WC_seq ?_
          refine WC_region ?_
          refine WL_of (L_move rfl rfl (.int .i64 16) rfl ?_)
          refine WL_of (L_conv rfl rfl (.int .i64 16) rfl (.int .u64 16) ((C_intK Tryd.underlying3 Tryd.underlying125 16).trans (by kernel_rfl)) ?_)
          refine WL_of (L_assign rfl rfl (.int .u64 16) rfl ?_)
          refine WL_nil ?_
          refine thenN ?_
          refine WC_seq ?_
          refine WC_block ?_
          refine WC_loop (fun k86 ρ w_ => ∃ (x80 : Int) (x81 : Int) (ρ0 : Nat → Value), ρ = updL ρ0 [(0, .slice Aa0_0 a0.length ca0_0), (1, .int .u64 x80), (3, .bool a3), (4, .bool a4), (10, .slice none 0 0), (11, .string (sv (lit []))), (12, .pointer (some ⟨g11, 0, none⟩)), (13, .int .i64 x81), (17, .int .u64 16)] ∧ Mem w_ [(one g11, W12), (Fr, w)] ∧ k86 ≤ k ∧ internal_strconv_formatBits.l3 k86 a3 a4 x80 x81 = some r) k ?_ ?_
          · exact ⟨z16, 65, _, updL_same _ _ ⟨rfl, rfl, rfl, rfl, rfl, rfl, rfl, rfl, rfl, trivial⟩, M36, (Nat.le_refl _), H⟩
          · rintro k86 _ W82 ⟨x80, x81, ρ84, rfl, M83, hk87, H85⟩
            cases k86 with
            | zero => rw [internal_strconv_formatBits.l3] at H85; cases H85
            | succ k86 =>
            rw [internal_strconv_formatBits.l3] at H85
            refine WC_seq ?_
            refine WC_seq ?_
            refine WC_region ?_
            refine WL_of (L_move rfl rfl (.int .u64 x80) rfl ?_)
            refine WL_of (L_move rfl rfl (.int .u64 16) rfl ?_)
            refine WL_of (L_bin rfl rfl (.int .u64 x80) (.int .u64 16) rfl rfl (.bool (decide ((16 : Int) ≤ x80))) (B_geq _ _ _ _ x80 16) ?_)
            refine WL_nil ?_
            refine thenN ?_
            refine WC_if (p := (16 : Int) ≤ x80) rfl (fun c88 => ?_) (fun c88 => ?_)
            · replace H85 := ifP c88 H85
              refine WC_skip ?_
              refine thenN ?_
              refine WC_block ?_
              refine WC_seq ?_
              refine WC_region ?_
              refine WL_of (L_move rfl rfl (.int .i64 x81) rfl ?_)
              refine WL_of (L_bin rfl rfl (.int .i64 x81) (.int .i64 1) rfl rfl (.int .i64 (wrap64 (x81 - 1))) (B_sub _ _ _ x81 1) ?_)
              refine WL_of (L_assign rfl rfl (.int .i64 (wrap64 (x81 - 1))) rfl ?_)
              refine WL_nil ?_
              refine thenN ?_
              refine WC_seq ?_
              refine WC_region ?_
              refine WL_of (L_move rfl rfl (.int .u64 x80) rfl ?_)
              refine WL_of (L_move rfl rfl (.int .u64 16) rfl ?_)
              exact noneS H85
            · replace H85 := ifN c88 H85
              refine WC_exit ?_
              refine thenE ?_
              refine thenE ?_
              refine blkX ?_
              refine thenN ?_
              refine WC_seq ?_
              refine WC_region ?_
              refine WL_of (L_move rfl rfl (.int .i64 x81) rfl ?_)
              refine WL_of (L_bin rfl rfl (.int .i64 x81) (.int .i64 1) rfl rfl (.int .i64 (wrap64 (x81 - 1))) (B_sub _ _ _ x81 1) ?_)
              refine WL_of (L_assign rfl rfl (.int .i64 (wrap64 (x81 - 1))) rfl ?_)
              refine WL_nil ?_
              refine thenN ?_
              refine WC_region ?_
              refine WL_of (L_move rfl rfl (.int .i64 (wrap64 (x81 - 1))) rfl ?_)
              refine WL_of (L_move rfl rfl (.int .u64 x80) rfl ?_)
              obtain ⟨b89, hb90, H85⟩ := bindS H85
              refine WL_of (L_sindex rfl rfl Tryd.underlying9 .u64 (lit [48, 49, 50, 51, 52, 53, 54, 55, 56, 57, 97, 98, 99, 100, 101, 102, 103, 104, 105, 106, 107, 108, 109, 110, 111, 112, 113, 114, 115, 116, 117, 118, 119, 120, 121, 122]) x80 rfl rfl b89 hb90 ?_)
              by_cases c91 : (0 ≤ wrap64 (x81 - 1) ∧ wrap64 (x81 - 1) < 65) ∧ wrap64 (x81 - 1) < (List.length (List.replicate 65 (0 : UInt8)) : Int)
              · replace H85 := ifP c91 H85
                refine WL_of (L_indexArr rfl rfl Tryd.underlying153 sz5 rfl rfl c91.1.1 c91.1.2 ?_)
                refine WL_of (L_storeArr (List.replicate 65 (0 : UInt8)) (wrap64 (x81 - 1)) b89 M83 B13 rfl sz5 rfl rfl (by have := c91; omega) ?_)
                intro W92 B93 M94
                refine WL_nil ?_
                refine thenN ?_
                exact ⟨k86, wrap64 (x81 - 1), (List.set (List.replicate 65 (0 : UInt8)) (Int.toNat (wrap64 (x81 - 1))) b89), _, updL_same _ _ ⟨rfl, rfl, rfl, rfl, rfl, rfl, rfl, trivial⟩, M94, B93, (by omega), H85⟩
              · exact noneS (ifN c91 H85)
      · rintro _ W25 ⟨k28, x22, x23, ρ27, rfl, M26, B24, hk29, H30⟩
        cases k28 with
        | zero => rw [internal_strconv_formatBits.j0] at H30; cases H30
        | succ k28 =>
        rw [internal_strconv_formatBits.j0] at H30
        obtain ⟨z95, hz96, H30⟩ := bindS H30
        refine WC_cut (fun ρ w_ => ∃  (ρ0 : Nat → Value), ρ = updL ρ0 [(0, .slice Aa0_0 a0.length ca0_0), (4, .bool a4), (10, .slice none 0 0), (11, .string (sv (lit []))), (12, .pointer (some ⟨g11, 0, none⟩)), (13, .int .i64 z95.1)] ∧ Mem w_ [(one g11, w_), (Fr, w)] ∧ Bx w_ g11 (u8c z95.2) 153) ?_ ?_
        · refine WC_seq ?_
          refine WC_region ?_
          refine WL_of (L_move rfl rfl (.bool a3) rfl ?_)
          refine WL_nil ?_
          refine thenN ?_
          refine WC_ifb rfl (fun c98 => ?_) (fun c98 => ?_)
          · replace hz96 := ifP c98 hz96
            refine WC_seq ?_
            refine WC_region ?_
            refine WL_of (L_move rfl rfl (.int .i64 x22) rfl ?_)
            refine WL_of (L_bin rfl rfl (.int .i64 x22) (.int .i64 1) rfl rfl (.int .i64 (wrap64 (x22 - 1))) (B_sub _ _ _ x22 1) ?_)
            refine WL_of (L_assign rfl rfl (.int .i64 (wrap64 (x22 - 1))) rfl ?_)
            refine WL_nil ?_
            refine thenN ?_
            refine WC_region ?_
            refine WL_of (L_move rfl rfl (.int .i64 (wrap64 (x22 - 1))) rfl ?_)
            by_cases c99 : (0 ≤ wrap64 (x22 - 1) ∧ wrap64 (x22 - 1) < 65) ∧ wrap64 (x22 - 1) < (List.length x23 : Int)
            · replace hz96 := ifP c99 hz96
              refine WL_of (L_indexArr rfl rfl Tryd.underlying153 sz5 rfl rfl c99.1.1 c99.1.2 ?_)
              refine WL_of (L_storeArr x23 (wrap64 (x22 - 1)) (45 : UInt8) M26 B24 rfl sz5 rfl rfl (by have := c99; omega) ?_)
              intro W100 B101 M102
              refine WL_nil ?_
              refine thenN ?_
              obtain rfl := someE hz96
              exact ⟨_, updL_same _ _ ⟨rfl, rfl, rfl, rfl, rfl, rfl, trivial⟩, M102, B101⟩
            · exact noneS (ifN c99 hz96)
          · replace hz96 := ifN (by rw [c98]; simp) hz96
            refine WC_skip ?_
            refine thenN ?_
            obtain rfl := someE hz96
            exact ⟨_, updL_same _ _ ⟨rfl, rfl, rfl, rfl, rfl, rfl, trivial⟩, M26, B24⟩
        · rintro _ W103 ⟨ρ105, rfl, M104, B97⟩
          refine WC_seq ?_
          refine WC_seq ?_
          refine WC_region ?_
          refine WL_of (L_move rfl rfl (.bool a4) rfl ?_)
          refine WL_nil ?_
          refine thenN ?_
          refine WC_ifb rfl (fun c106 => ?_) (fun c106 => ?_)
          · replace H30 := ifP c106 H30
            refine WC_seq ?_
            refine WC_region ?_
            refine WL_of (L_move rfl rfl (.slice Aa0_0 a0.length ca0_0) rfl ?_)
            refine WL_of (L_move rfl rfl (.int .i64 z95.1) rfl ?_)
            by_cases c109 : List.length z95.2 = 65
            · replace H30 := ifP c109 H30
              obtain ⟨q107, hq108, H30⟩ := bindS H30
              refine WL_of (L_cutArr z95.2 q107 rfl rfl Tryd.underlying153 sz5 B97 c109 rfl z95.1 (65 : Int) .i64 .i64 (.inl rfl) (.inr ⟨rfl, rfl⟩) hq108 ?_)
              intro A110 c111 hs112
              exact noneS H30
            · exact noneS (ifN c109 H30)
          · replace H30 := ifN (by rw [c106]; simp) H30
            refine WC_skip ?_
            refine thenN ?_
            refine WC_seq ?_
            refine WC_region ?_
            refine WL_of (L_move rfl rfl (.int .i64 z95.1) rfl ?_)
            by_cases c115 : List.length z95.2 = 65
            · replace H30 := ifP c115 H30
              obtain ⟨q113, hq114, H30⟩ := bindS H30
              refine WL_of (L_cutArr z95.2 q113 rfl rfl Tryd.underlying153 sz5 B97 c115 rfl z95.1 (65 : Int) .i64 .i64 (.inl rfl) (.inr ⟨rfl, rfl⟩) hq114 ?_)
              intro A116 c117 hs118
              refine WL_of (L_conv rfl rfl (.slice A116 q113.length c117) rfl (.string (sv (lit q113))) (C_bytes Tryd.underlying36 Tryd.underlying5 Tryd.underlying9 hs118 (M104.agree 0 rfl)) ?_)
              refine WL_of (L_assign rfl rfl (.string (sv (lit q113))) rfl ?_)
              refine WL_nil ?_
              refine thenN ?_
              refine WC_ret ?_
              obtain rfl := someE H30
              have M119 : Mem W103 [(none0, W103), (one g11, W103), (Fr, w)] := M104.empty
              have M120 : Mem W103 [(Fr, w), (none0, W103), (one g11, W103)] := M119.front [(none0, W103), (one g11, W103)] rfl
              have M121 : Mem W103 [(none0, W103), (Fr, w), (one g11, W103)] := M120.front [(Fr, w)] rfl
              have M122 : Mem W103 [(none0, W103), (Fr, w)] := M121.sub (List.prefix_append [(none0, W103), (Fr, w)] [(one g11, W103)]).sublist
              refine retR [.slice none 0 0, .string (sv (lit q113))] ⟨rfl, rfl, trivial⟩ ?_
              exact ⟨none, 0, none0, rfl, M122, OR.nil W103 none0 W103 none0 5⟩
            · exact noneS (ifN c115 H30)

/-! ### internal/strconv.FormatInt: function 54 -/
def internal_strconv_FormatInt (k : Nat) (a0 : Int) (a1 : Int) : Option Str :=
  (if (a1 : Int) = 10 then ((if (0 : Int) ≤ a0 then (some (decide ((a0 : Int) < 100))) else (some false))).bind (fun (z2 : Bool) => (if z2 = true then none else ((if (a0 : Int) < 0 then (some (IntKind.wrap .u64 (-(IntKind.wrap .u64 a0)))) else (some (IntKind.wrap .u64 a0)))).bind (fun (z14 : Int) => none))) else (internal_strconv_formatBits k ([] : List UInt8) (IntKind.wrap .u64 a0) a1 (decide ((a0 : Int) < 0)) false).bind (fun (r21 : ((List UInt8) × Str)) => (some r21.2)))
set_option maxRecDepth 100000 in
set_option maxHeartbeats 4000000 in
theorem internal_strconv_FormatInt_ok (k : Nat) (a0 : Int) (a1 : Int) (r : Str) (w : World) (Fr : BS) (hG : Gl Fr w) (hF : ∀ b, Fr b → b < w.heap.size)  (H : internal_strconv_FormatInt k a0 a1 = some r) :
    CallsR Tryd.prog 54 #[.int .i64 a0, .int .i64 a1] w (fun v w' => v = .string (sv r) ∧ Mem w' [(Fr, w)]) := by
  have M0 := Mem.start w Fr hF
  refine enterZ (args := [.int .i64 a0, .int .i64 a1]) [.tmp 4] Tryd.func54 rfl rfl rfl rfl ?_
  unfold internal_strconv_FormatInt at H
  refine WC_seq ?_
  refine WC_region ?_
  refine WL_of (L_assign rfl rfl (.string (sv (lit []))) rfl ?_)
  refine WL_nil ?_
  refine thenN ?_
  refine WC_seq ?_
  refine WC_seq ?_
  refine WC_region ?_
  refine WL_of (L_move rfl rfl (.int .i64 a1) rfl ?_)
  refine WL_of (L_bin rfl rfl (.int .i64 a1) (.int .i64 10) rfl rfl (.bool (decide ((a1 : Int) = 10))) (B_eql _ _ _ _ a1 10) ?_)
  refine WL_nil ?_
  refine thenN ?_
  refine WC_if (p := (a1 : Int) = 10) rfl (fun c1 => ?_) (fun c1 => ?_)
  · replace H := ifP c1 H
    refine WC_seq ?_
    obtain ⟨z2, hz3, H⟩ := bindS H
    refine WC_cut (fun ρ w_ => ∃  (ρ0 : Nat → Value), ρ = updL ρ0 [(0, .int .i64 a0), (1, .int .i64 a1), (4, .string (sv (lit []))), (17, .bool z2)] ∧ Mem w_ [(Fr, w)]) ?_ ?_
    · refine WC_region ?_
      refine WL_of (L_move rfl rfl (.int .i64 a0) rfl ?_)
      refine WL_of (L_bin rfl rfl (.int .i64 0) (.int .i64 a0) rfl rfl (.bool (decide ((0 : Int) ≤ a0))) (B_leq _ _ _ _ 0 a0) ?_)
      refine WL_of (L_move rfl rfl (.bool (decide ((0 : Int) ≤ a0))) rfl ?_)
      by_cases c4 : (0 : Int) ≤ a0
      · replace hz3 := ifP c4 hz3
        refine WL_known 14 true (vtrue c4) ?_
        refine WL_of (L_move rfl rfl (.int .i64 a0) rfl ?_)
        refine WL_of (L_bin rfl rfl (.int .i64 a0) (.int .i64 100) rfl rfl (.bool (decide ((a0 : Int) < 100))) (B_lss _ _ _ _ a0 100) ?_)
        refine WL_of (L_pick rfl rfl true rfl (.bool (decide ((a0 : Int) < 100))) rfl ?_)
        refine WL_nil ?_
        refine thenN ?_
        obtain rfl := someE hz3
        exact ⟨_, updL_same _ _ ⟨rfl, rfl, rfl, rfl, trivial⟩, M0⟩
      · replace hz3 := ifN c4 hz3
        refine WL_known 14 false (vfalse c4) ?_
        refine WL_of (WO_off rfl rfl ?_)
        refine WL_of (WO_off rfl rfl ?_)
        refine WL_of (L_pick rfl rfl false rfl (.bool false) rfl ?_)
        refine WL_nil ?_
        refine thenN ?_
        obtain rfl := someE hz3
        exact ⟨_, updL_same _ _ ⟨rfl, rfl, rfl, rfl, trivial⟩, M0⟩
    · rintro _ W5 ⟨ρ7, rfl, M6⟩
      refine WC_ifb rfl (fun c8 => ?_) (fun c8 => ?_)
      · replace H := ifP c8 H
        refine WC_seq ?_
        refine WC_region ?_
        refine WL_of (L_move rfl rfl (.int .i64 a0) rfl ?_)
        exact noneS H
      · replace H := ifN (by rw [c8]; simp) H
        refine WC_skip ?_
        refine thenN ?_
        refine WC_seq ?_
        refine WC_region ?_
        refine WL_of (L_alloc M6 rfl rfl zr124 (u8c (List.replicate 24 (0 : UInt8))) rfl ?_)
        intro g9 W10 B11 M12
        refine WL_nil ?_
        refine thenN ?_
        refine WC_seq ?_
        refine WC_region ?_
        refine WL_of (L_move rfl rfl (.int .i64 a0) rfl ?_)
        refine WL_of (L_conv rfl rfl (.int .i64 a0) rfl (.int .u64 (IntKind.wrap .u64 a0)) (C_intK Tryd.underlying2 Tryd.underlying125 a0) ?_)
        refine WL_of (L_assign rfl rfl (.int .u64 (IntKind.wrap .u64 a0)) rfl ?_)
        refine WL_nil ?_
        refine thenN ?_
        obtain ⟨z14, hz15, H⟩ := bindS H
        refine WC_cut (fun ρ w_ => ∃  (ρ0 : Nat → Value), ρ = updL ρ0 [(0, .int .i64 a0), (1, .int .i64 a1), (4, .string (sv (lit []))), (5, .pointer (some ⟨g9, 0, none⟩)), (6, .int .u64 z14)] ∧ Mem w_ [(one g9, W10), (Fr, w)]) ?_ ?_
        · refine WC_seq ?_
          refine WC_region ?_
          refine WL_of (L_move rfl rfl (.int .i64 a0) rfl ?_)
          refine WL_of (L_bin rfl rfl (.int .i64 a0) (.int .i64 0) rfl rfl (.bool (decide ((a0 : Int) < 0))) (B_lss _ _ _ _ a0 0) ?_)
          refine WL_nil ?_
          refine thenN ?_
          refine WC_if (p := (a0 : Int) < 0) rfl (fun c16 => ?_) (fun c16 => ?_)
          · replace hz15 := ifP c16 hz15
            refine WC_region ?_
            refine WL_of (L_move rfl rfl (.int .u64 (IntKind.wrap .u64 a0)) rfl ?_)
            refine WL_of (L_negK rfl rfl (IntKind.wrap .u64 a0) rfl ?_)
            refine WL_of (L_assign rfl rfl (.int .u64 (IntKind.wrap .u64 (-(IntKind.wrap .u64 a0)))) rfl ?_)
            refine WL_nil ?_
            refine thenN ?_
            obtain rfl := someE hz15
            exact ⟨_, updL_same _ _ ⟨rfl, rfl, rfl, rfl, rfl, trivial⟩, M12⟩
          · replace hz15 := ifN c16 hz15
            refine WC_skip ?_
            refine thenN ?_
            obtain rfl := someE hz15
            exact ⟨_, updL_same _ _ ⟨rfl, rfl, rfl, rfl, rfl, trivial⟩, M12⟩
        · rintro _ W17 ⟨ρ19, rfl, M18⟩
          refine WC_seq ?_
          refine WC_region ?_
          refine WL_of (L_move rfl rfl (.int .u64 z14) rfl ?_)
          exact noneS H
  · replace H := ifN c1 H
    refine WC_skip ?_
    refine thenN ?_
    refine WC_seq ?_
    refine WC_region ?_
    refine WL_of (L_move rfl rfl (.int .i64 a0) rfl ?_)
    refine WL_of (L_conv rfl rfl (.int .i64 a0) rfl (.int .u64 (IntKind.wrap .u64 a0)) (C_intK Tryd.underlying2 Tryd.underlying125 a0) ?_)
    refine WL_of (L_move rfl rfl (.int .i64 a1) rfl ?_)
    refine WL_of (L_move rfl rfl (.int .i64 a0) rfl ?_)
    refine WL_of (L_bin rfl rfl (.int .i64 a0) (.int .i64 0) rfl rfl (.bool (decide ((a0 : Int) < 0))) (B_lss _ _ _ _ a0 0) ?_)
    obtain ⟨r21, hr22, H⟩ := bindS H
    refine WL_of (L_call' rfl rfl cf74 [.slice none 0 0, .int .u64 (IntKind.wrap .u64 a0), .int .i64 a1, .bool (decide ((a0 : Int) < 0)), .bool false] rfl (internal_strconv_formatBits_ok k ([] : List UInt8) none 0 (IntKind.wrap .u64 a0) a1 (decide ((a0 : Int) < 0)) false r21 _ (Un [(Fr, w)]) (hG.call M0 0 rfl) M0.frame (SR.nil _ _ _ _ _ _) hr22) ?_)
    rintro _ W23 ⟨A25, c26, S27, rfl, M24, ho28⟩
    have M29 : Mem W23 [(S27, W23), (Fr, w)] := M0.back (New := [(S27, W23)]) M24
    refine WL_of (L_move rfl rfl (.tuple #[.slice A25 r21.1.length c26, .string (sv r21.2)]) rfl ?_)
    refine WL_of (L_extract rfl rfl [.slice A25 r21.1.length c26, .string (sv r21.2)] rfl (.slice A25 r21.1.length c26) rfl ?_)
    refine WL_of (L_extract rfl rfl [.slice A25 r21.1.length c26, .string (sv r21.2)] rfl (.string (sv r21.2)) rfl ?_)
    refine WL_of (L_assign rfl rfl (.slice A25 r21.1.length c26) rfl ?_)
    refine WL_of (L_assign rfl rfl (.string (sv r21.2)) rfl ?_)
    refine WL_nil ?_
    refine thenN ?_
    refine WC_seq ?_
    refine WC_region ?_
    refine WL_of (L_move rfl rfl (.string (sv r21.2)) rfl ?_)
    refine WL_of (L_assign rfl rfl (.string (sv r21.2)) rfl ?_)
    refine WL_nil ?_
    refine thenN ?_
    refine WC_ret ?_
    obtain rfl := someE H
    have M30 : Mem W23 [(Fr, w), (S27, W23)] := M29.front [(S27, W23)] rfl
    have M31 : Mem W23 [(Fr, w)] := M30.sub (List.prefix_append [(Fr, w)] [(S27, W23)]).sublist
    refine retR [.string (sv r21.2)] ⟨rfl, trivial⟩ ?_
    exact ⟨rfl, M31⟩

/-! ### strconv.FormatInt: function 92 -/
def strconv_FormatInt (k : Nat) (a0 : Int) (a1 : Int) : Option Str :=
  (internal_strconv_FormatInt k a0 a1).bind (fun (r2 : Str) => (some r2))
set_option maxRecDepth 100000 in
set_option maxHeartbeats 4000000 in
theorem strconv_FormatInt_ok (k : Nat) (a0 : Int) (a1 : Int) (r : Str) (w : World) (Fr : BS) (hG : Gl Fr w) (hF : ∀ b, Fr b → b < w.heap.size)  (H : strconv_FormatInt k a0 a1 = some r) :
    CallsR Tryd.prog 92 #[.int .i64 a0, .int .i64 a1] w (fun v w' => v = .string (sv r) ∧ Mem w' [(Fr, w)]) := by
  have M0 := Mem.start w Fr hF
  refine enterZ (args := [.int .i64 a0, .int .i64 a1]) [.tmp 4] Tryd.func92 rfl rfl rfl rfl ?_
  unfold strconv_FormatInt at H
  refine WC_seq ?_
  refine WC_region ?_
  refine WL_of (L_assign rfl rfl (.string (sv (lit []))) rfl ?_)
  refine WL_nil ?_
  refine thenN ?_
  refine WC_seq ?_
  refine WC_region ?_
  refine WL_of (L_move rfl rfl (.int .i64 a0) rfl ?_)
  refine WL_of (L_move rfl rfl (.int .i64 a1) rfl ?_)
  obtain ⟨r2, hr3, H⟩ := bindS H
  refine WL_of (L_call' rfl rfl cf54 [.int .i64 a0, .int .i64 a1] rfl (internal_strconv_FormatInt_ok k a0 a1 r2 _ (Un [(Fr, w)]) (hG.call M0 0 rfl) M0.frame  hr3) ?_)
  rintro _ W4 ⟨rfl, M5⟩
  have M6 : Mem W4 [(Fr, w)] := M0.back (New := []) M5
  refine WL_of (L_assign rfl rfl (.string (sv r2)) rfl ?_)
  refine WL_nil ?_
  refine thenN ?_
  refine WC_ret ?_
  obtain rfl := someE H
  refine retR [.string (sv r2)] ⟨rfl, trivial⟩ ?_
  exact ⟨rfl, M6⟩

/-! ### annals/text.written: function 79 -/
def text_written (k : Nat) (a0 : Str) (a1 : Int) (a2 : Int) : Option Str :=
  ((if (a2 : Int) = 34 then (some true) else (some (decide ((a2 : Int) = 92))))).bind (fun (z1 : Bool) => (if z1 = true then (if (List.length (lit [92]) : Int) + List.length (lit (enc a2)) ≤ 9223372036854775807 then (some (cat (lit [92]) (lit (enc a2)))) else none) else (if (a2 : Int) = 10 then (some (lit [92, 110])) else (if (a2 : Int) = 9 then (some (lit [92, 116])) else (if (a2 : Int) = 13 then (some (lit [92, 114])) else ((if (a2 : Int) < 32 then (some true) else (some (decide ((a2 : Int) = 127))))).bind (fun (z12 : Bool) => (if z12 = true then (text_escapedByte (UInt8.ofInt a2)).bind (fun (r20 : Str) => (some r20)) else (text_stray a0 a1 a2).bind (fun (r26 : Bool) => (if r26 = true then (atL a0 a1).bind (fun b32 => (text_escapedByte b32).bind (fun (r35 : Str) => (some r35))) else (text_hidden a2).bind (fun (r41 : Bool) => (if r41 = true then (strconv_FormatInt k (wrap64 a2) 16).bind (fun (r48 : Str) => (if (List.length (lit [92, 117, 123]) : Int) + List.length r48 ≤ 9223372036854775807 then (if (List.length (cat (lit [92, 117, 123]) r48) : Int) + List.length (lit [125]) ≤ 9223372036854775807 then (some (cat (cat (lit [92, 117, 123]) r48) (lit [125]))) else none) else none)) else (some (lit (enc a2))))))))))))))
set_option maxRecDepth 100000 in
set_option maxHeartbeats 4000000 in
theorem text_written_ok (k : Nat) (a0 : Str) (a1 : Int) (a2 : Int) (r : Str) (w : World) (Fr : BS) (hG : Gl Fr w) (hF : ∀ b, Fr b → b < w.heap.size)  (H : text_written k a0 a1 a2 = some r) :
    CallsR Tryd.prog 79 #[.string (sv a0), .int .i64 a1, .int .i32 a2] w (fun v w' => v = .string (sv r) ∧ Mem w' [(Fr, w)]) := by
  have M0 := Mem.start w Fr hF
  refine enterZ (args := [.string (sv a0), .int .i64 a1, .int .i32 a2]) [.tmp 6] Tryd.func79 rfl rfl rfl rfl ?_
  unfold text_written at H
  refine WC_seq ?_
  refine WC_region ?_
  refine WL_of (L_assign rfl rfl (.string (sv (lit []))) rfl ?_)
  refine WL_nil ?_
  refine thenN ?_
  refine WC_seq ?_
  refine WC_block ?_
  obtain ⟨z1, hz2, H⟩ := bindS H
  refine WC_cut (fun ρ w_ => ∃  (ρ0 : Nat → Value), ρ = updL ρ0 [(0, .string (sv a0)), (1, .int .i64 a1), (2, .int .i32 a2), (6, .string (sv (lit []))), (7, .bool z1)] ∧ Mem w_ [(Fr, w)]) ?_ ?_
  · refine WC_region ?_
    refine WL_of (L_move rfl rfl (.int .i32 a2) rfl ?_)
    refine WL_of (L_bin rfl rfl (.int .i32 a2) (.int .i32 34) rfl rfl (.bool (decide ((a2 : Int) = 34))) (B_eql _ _ _ _ a2 34) ?_)
    refine WL_of (L_move rfl rfl (.bool (decide ((a2 : Int) = 34))) rfl ?_)
    by_cases c3 : (a2 : Int) = 34
    · replace hz2 := ifP c3 hz2
      refine WL_known 10 true (vtrue c3) ?_
      refine WL_of (WO_off rfl rfl ?_)
      refine WL_of (WO_off rfl rfl ?_)
      refine WL_of (L_pick rfl rfl true rfl (.bool true) rfl ?_)
      refine WL_of (L_assign rfl rfl (.bool true) rfl ?_)
      refine WL_nil ?_
      refine thenN ?_
      obtain rfl := someE hz2
      exact ⟨_, updL_same _ _ ⟨rfl, rfl, rfl, rfl, rfl, trivial⟩, M0⟩
    · replace hz2 := ifN c3 hz2
      refine WL_known 10 false (vfalse c3) ?_
      refine WL_of (L_move rfl rfl (.int .i32 a2) rfl ?_)
      refine WL_of (L_bin rfl rfl (.int .i32 a2) (.int .i32 92) rfl rfl (.bool (decide ((a2 : Int) = 92))) (B_eql _ _ _ _ a2 92) ?_)
      refine WL_of (L_pick rfl rfl false rfl (.bool (decide ((a2 : Int) = 92))) rfl ?_)
      refine WL_of (L_assign rfl rfl (.bool (decide ((a2 : Int) = 92))) rfl ?_)
      refine WL_nil ?_
      refine thenN ?_
      obtain rfl := someE hz2
      exact ⟨_, updL_same _ _ ⟨rfl, rfl, rfl, rfl, rfl, trivial⟩, M0⟩
  · rintro _ W4 ⟨ρ6, rfl, M5⟩
    refine WC_ifb rfl (fun c7 => ?_) (fun c7 => ?_)
    · replace H := ifP c7 H
      refine WC_seq ?_
      refine WC_region ?_
      refine WL_of (L_move rfl rfl (.int .i32 a2) rfl ?_)
      refine WL_of (L_conv rfl rfl (.int .i32 a2) rfl (.string (sv (lit (enc a2)))) (C_rune Tryd.underlying21 Tryd.underlying9 a2) ?_)
      by_cases c8 : (List.length (lit [92]) : Int) + List.length (lit (enc a2)) ≤ 9223372036854775807
      · replace H := ifP c8 H
        refine WL_of (L_bin rfl rfl (.string (sv (lit [92]))) (.string (sv (lit (enc a2)))) rfl rfl (.string (sv (cat (lit [92]) (lit (enc a2))))) (B_sadd _ _ _ (lit [92]) (lit (enc a2)) c8) ?_)
        refine WL_of (L_assign rfl rfl (.string (sv (cat (lit [92]) (lit (enc a2))))) rfl ?_)
        refine WL_nil ?_
        refine thenN ?_
        refine WC_ret ?_
        refine blkR ?_
        refine thenR ?_
        obtain rfl := someE H
        refine retR [.string (sv (cat (lit [92]) (lit (enc a2))))] ⟨rfl, trivial⟩ ?_
        exact ⟨rfl, M5⟩
      · exact noneS (ifN c8 H)
    · replace H := ifN (by rw [c7]; simp) H
      refine WC_seq ?_
      refine WC_region ?_
      refine WL_of (L_move rfl rfl (.int .i32 a2) rfl ?_)
      refine WL_of (L_bin rfl rfl (.int .i32 a2) (.int .i32 10) rfl rfl (.bool (decide ((a2 : Int) = 10))) (B_eql _ _ _ _ a2 10) ?_)
      refine WL_of (L_assign rfl rfl (.bool (decide ((a2 : Int) = 10))) rfl ?_)
      refine WL_nil ?_
      refine thenN ?_
      refine WC_if (p := (a2 : Int) = 10) rfl (fun c9 => ?_) (fun c9 => ?_)
      · replace H := ifP c9 H
        refine WC_seq ?_
        refine WC_region ?_
        refine WL_of (L_assign rfl rfl (.string (sv (lit [92, 110]))) rfl ?_)
        refine WL_nil ?_
        refine thenN ?_
        refine WC_ret ?_
        refine blkR ?_
        refine thenR ?_
        obtain rfl := someE H
        refine retR [.string (sv (lit [92, 110]))] ⟨rfl, trivial⟩ ?_
        exact ⟨rfl, M5⟩
      · replace H := ifN c9 H
        refine WC_seq ?_
        refine WC_region ?_
        refine WL_of (L_move rfl rfl (.int .i32 a2) rfl ?_)
        refine WL_of (L_bin rfl rfl (.int .i32 a2) (.int .i32 9) rfl rfl (.bool (decide ((a2 : Int) = 9))) (B_eql _ _ _ _ a2 9) ?_)
        refine WL_of (L_assign rfl rfl (.bool (decide ((a2 : Int) = 9))) rfl ?_)
        refine WL_nil ?_
        refine thenN ?_
        refine WC_if (p := (a2 : Int) = 9) rfl (fun c10 => ?_) (fun c10 => ?_)
        · replace H := ifP c10 H
          refine WC_seq ?_
          refine WC_region ?_
          refine WL_of (L_assign rfl rfl (.string (sv (lit [92, 116]))) rfl ?_)
          refine WL_nil ?_
          refine thenN ?_
          refine WC_ret ?_
          refine blkR ?_
          refine thenR ?_
          obtain rfl := someE H
          refine retR [.string (sv (lit [92, 116]))] ⟨rfl, trivial⟩ ?_
          exact ⟨rfl, M5⟩
        · replace H := ifN c10 H
          refine WC_seq ?_
          refine WC_region ?_
          refine WL_of (L_move rfl rfl (.int .i32 a2) rfl ?_)
          refine WL_of (L_bin rfl rfl (.int .i32 a2) (.int .i32 13) rfl rfl (.bool (decide ((a2 : Int) = 13))) (B_eql _ _ _ _ a2 13) ?_)
          refine WL_of (L_assign rfl rfl (.bool (decide ((a2 : Int) = 13))) rfl ?_)
          refine WL_nil ?_
          refine thenN ?_
          refine WC_if (p := (a2 : Int) = 13) rfl (fun c11 => ?_) (fun c11 => ?_)
          · replace H := ifP c11 H
            refine WC_seq ?_
            refine WC_region ?_
            refine WL_of (L_assign rfl rfl (.string (sv (lit [92, 114]))) rfl ?_)
            refine WL_nil ?_
            refine thenN ?_
            refine WC_ret ?_
            refine blkR ?_
            refine thenR ?_
            obtain rfl := someE H
            refine retR [.string (sv (lit [92, 114]))] ⟨rfl, trivial⟩ ?_
            exact ⟨rfl, M5⟩
          · replace H := ifN c11 H
            obtain ⟨z12, hz13, H⟩ := bindS H
            refine WC_cut (fun ρ w_ => ∃  (ρ0 : Nat → Value), ρ = updL ρ0 [(0, .string (sv a0)), (1, .int .i64 a1), (2, .int .i32 a2), (6, .string (sv (lit []))), (26, .bool z12)] ∧ Mem w_ [(Fr, w)]) ?_ ?_
            · refine WC_region ?_
              refine WL_of (L_move rfl rfl (.int .i32 a2) rfl ?_)
              refine WL_of (L_bin rfl rfl (.int .i32 a2) (.int .i32 32) rfl rfl (.bool (decide ((a2 : Int) < 32))) (B_lss _ _ _ _ a2 32) ?_)
              refine WL_of (L_move rfl rfl (.bool (decide ((a2 : Int) < 32))) rfl ?_)
              by_cases c14 : (a2 : Int) < 32
              · replace hz13 := ifP c14 hz13
                refine WL_known 29 true (vtrue c14) ?_
                refine WL_of (WO_off rfl rfl ?_)
                refine WL_of (WO_off rfl rfl ?_)
                refine WL_of (L_pick rfl rfl true rfl (.bool true) rfl ?_)
                refine WL_of (L_assign rfl rfl (.bool true) rfl ?_)
                refine WL_nil ?_
                refine thenN ?_
                obtain rfl := someE hz13
                exact ⟨_, updL_same _ _ ⟨rfl, rfl, rfl, rfl, rfl, trivial⟩, M5⟩
              · replace hz13 := ifN c14 hz13
                refine WL_known 29 false (vfalse c14) ?_
                refine WL_of (L_move rfl rfl (.int .i32 a2) rfl ?_)
                refine WL_of (L_bin rfl rfl (.int .i32 a2) (.int .i32 127) rfl rfl (.bool (decide ((a2 : Int) = 127))) (B_eql _ _ _ _ a2 127) ?_)
                refine WL_of (L_pick rfl rfl false rfl (.bool (decide ((a2 : Int) = 127))) rfl ?_)
                refine WL_of (L_assign rfl rfl (.bool (decide ((a2 : Int) = 127))) rfl ?_)
                refine WL_nil ?_
                refine thenN ?_
                obtain rfl := someE hz13
                exact ⟨_, updL_same _ _ ⟨rfl, rfl, rfl, rfl, rfl, trivial⟩, M5⟩
            · rintro _ W15 ⟨ρ17, rfl, M16⟩
              refine WC_ifb rfl (fun c18 => ?_) (fun c18 => ?_)
              · replace H := ifP c18 H
                refine WC_seq ?_
                refine WC_region ?_
                refine WL_of (L_move rfl rfl (.int .i32 a2) rfl ?_)
                refine WL_of (L_conv rfl rfl (.int .i32 a2) rfl (.int .u8 ((UInt8.ofInt a2).toNat : Int)) (C_i64_u8 Tryd.underlying21 Tryd.underlying5 a2) ?_)
                obtain ⟨r20, hr21, H⟩ := bindS H
                refine WL_of (L_call' rfl rfl cf91 [.int .u8 ((UInt8.ofInt a2).toNat : Int)] rfl (text_escapedByte_ok (UInt8.ofInt a2) r20 _ (Un [(Fr, w)]) (hG.call M16 0 rfl) M16.frame  hr21) ?_)
                rintro _ W22 ⟨rfl, M23⟩
                have M24 : Mem W22 [(Fr, w)] := M16.back (New := []) M23
                refine WL_of (L_assign rfl rfl (.string (sv r20)) rfl ?_)
                refine WL_nil ?_
                refine thenN ?_
                refine WC_ret ?_
                refine blkR ?_
                refine thenR ?_
                obtain rfl := someE H
                refine retR [.string (sv r20)] ⟨rfl, trivial⟩ ?_
                exact ⟨rfl, M24⟩
              · replace H := ifN (by rw [c18]; simp) H
                refine WC_seq ?_
                refine WC_region ?_
                refine WL_of (L_move rfl rfl (.string (sv a0)) rfl ?_)
                refine WL_of (L_move rfl rfl (.int .i64 a1) rfl ?_)
                refine WL_of (L_move rfl rfl (.int .i32 a2) rfl ?_)
                obtain ⟨r26, hr27, H⟩ := bindS H
                refine WL_of (L_call' rfl rfl cf55 [.string (sv a0), .int .i64 a1, .int .i32 a2] rfl (text_stray_ok a0 a1 a2 r26 _ (Un [(Fr, w)]) (hG.call M16 0 rfl) M16.frame  hr27) ?_)
                rintro _ W28 ⟨rfl, M29⟩
                have M30 : Mem W28 [(Fr, w)] := M16.back (New := []) M29
                refine WL_of (L_assign rfl rfl (.bool r26) rfl ?_)
                refine WL_nil ?_
                refine thenN ?_
                refine WC_ifb rfl (fun c31 => ?_) (fun c31 => ?_)
                · replace H := ifP c31 H
                  refine WC_seq ?_
                  refine WC_region ?_
                  refine WL_of (L_move rfl rfl (.string (sv a0)) rfl ?_)
                  refine WL_of (L_move rfl rfl (.int .i64 a1) rfl ?_)
                  obtain ⟨b32, hb33, H⟩ := bindS H
                  refine WL_of (L_sindex rfl rfl Tryd.underlying9 .i64 a0 a1 rfl rfl b32 hb33 ?_)
                  obtain ⟨r35, hr36, H⟩ := bindS H
                  refine WL_of (L_call' rfl rfl cf91 [.int .u8 (b32.toNat : Int)] rfl (text_escapedByte_ok b32 r35 _ (Un [(Fr, w)]) (hG.call M30 0 rfl) M30.frame  hr36) ?_)
                  rintro _ W37 ⟨rfl, M38⟩
                  have M39 : Mem W37 [(Fr, w)] := M30.back (New := []) M38
                  refine WL_of (L_assign rfl rfl (.string (sv r35)) rfl ?_)
                  refine WL_nil ?_
                  refine thenN ?_
                  refine WC_ret ?_
                  refine blkR ?_
                  refine thenR ?_
                  obtain rfl := someE H
                  refine retR [.string (sv r35)] ⟨rfl, trivial⟩ ?_
                  exact ⟨rfl, M39⟩
                · replace H := ifN (by rw [c31]; simp) H
                  refine WC_seq ?_
                  refine WC_region ?_
                  refine WL_of (L_move rfl rfl (.int .i32 a2) rfl ?_)
                  obtain ⟨r41, hr42, H⟩ := bindS H
                  refine WL_of (L_call' rfl rfl cf59 [.int .i32 a2] rfl (text_hidden_ok a2 r41 _ (Un [(Fr, w)]) (hG.call M30 0 rfl) M30.frame  hr42) ?_)
                  rintro _ W43 ⟨rfl, M44⟩
                  have M45 : Mem W43 [(Fr, w)] := M30.back (New := []) M44
                  refine WL_of (L_assign rfl rfl (.bool r41) rfl ?_)
                  refine WL_nil ?_
                  refine thenN ?_
                  refine WC_ifb rfl (fun c46 => ?_) (fun c46 => ?_)
                  · replace H := ifP c46 H
                    refine WC_seq ?_
                    refine WC_region ?_
                    refine WL_of (L_move rfl rfl (.int .i32 a2) rfl ?_)
                    refine WL_of (L_conv rfl rfl (.int .i32 a2) rfl (.int .i64 (wrap64 a2)) (C_i32_i64 Tryd.underlying21 Tryd.underlying2 a2) ?_)
                    obtain ⟨r48, hr49, H⟩ := bindS H
                    refine WL_of (L_call' rfl rfl cf92 [.int .i64 (wrap64 a2), .int .i64 16] rfl (strconv_FormatInt_ok k (wrap64 a2) 16 r48 _ (Un [(Fr, w)]) (hG.call M45 0 rfl) M45.frame  hr49) ?_)
                    rintro _ W50 ⟨rfl, M51⟩
                    have M52 : Mem W50 [(Fr, w)] := M45.back (New := []) M51
                    by_cases c53 : (List.length (lit [92, 117, 123]) : Int) + List.length r48 ≤ 9223372036854775807
                    · replace H := ifP c53 H
                      refine WL_of (L_bin rfl rfl (.string (sv (lit [92, 117, 123]))) (.string (sv r48)) rfl rfl (.string (sv (cat (lit [92, 117, 123]) r48))) (B_sadd _ _ _ (lit [92, 117, 123]) r48 c53) ?_)
                      by_cases c54 : (List.length (cat (lit [92, 117, 123]) r48) : Int) + List.length (lit [125]) ≤ 9223372036854775807
                      · replace H := ifP c54 H
                        refine WL_of (L_bin rfl rfl (.string (sv (cat (lit [92, 117, 123]) r48))) (.string (sv (lit [125]))) rfl rfl (.string (sv (cat (cat (lit [92, 117, 123]) r48) (lit [125])))) (B_sadd _ _ _ (cat (lit [92, 117, 123]) r48) (lit [125]) c54) ?_)
                        refine WL_of (L_assign rfl rfl (.string (sv (cat (cat (lit [92, 117, 123]) r48) (lit [125])))) rfl ?_)
                        refine WL_nil ?_
                        refine thenN ?_
                        refine WC_ret ?_
                        refine blkR ?_
                        refine thenR ?_
                        obtain rfl := someE H
                        refine retR [.string (sv (cat (cat (lit [92, 117, 123]) r48) (lit [125])))] ⟨rfl, trivial⟩ ?_
                        exact ⟨rfl, M52⟩
                      · exact noneS (ifN c54 H)
                    · exact noneS (ifN c53 H)
                  · replace H := ifN (by rw [c46]; simp) H
                    refine WC_skip ?_
                    refine blkN ?_
                    refine thenN ?_
                    refine WC_seq ?_
                    refine WC_region ?_
                    refine WL_of (L_move rfl rfl (.int .i32 a2) rfl ?_)
                    refine WL_of (L_conv rfl rfl (.int .i32 a2) rfl (.string (sv (lit (enc a2)))) (C_rune Tryd.underlying21 Tryd.underlying9 a2) ?_)
                    refine WL_of (L_assign rfl rfl (.string (sv (lit (enc a2)))) rfl ?_)
                    refine WL_nil ?_
                    refine thenN ?_
                    refine WC_ret ?_
                    obtain rfl := someE H
                    refine retR [.string (sv (lit (enc a2)))] ⟨rfl, trivial⟩ ?_
                    exact ⟨rfl, M45⟩

/-! ### annals/text.Quote: function 60 -/
def text_Quote.l0 : Nat → Str → (List UInt8) → Nat → Option Str
  | 0, _, _, _ => none
  | k + 1, a0, x37, i45 => (if i45 < List.length a0 then (text_written k a0 (i45 : Nat) ((dec a0 i45).1)).bind (fun (r68 : Str) => (strings_Builder_WriteString x37 r68).bind (fun (r76 : (Int × (List UInt8))) => (text_Quote.l0 k a0 r76.2 (i45 + (dec a0 i45).2)))) else (strings_Builder_WriteByte x37 (34 : UInt8)).bind (fun (r98 : List UInt8) => (strings_Builder_String r98).bind (fun (r112 : Str) => (some r112))))
def text_Quote (k : Nat) (a0 : Str) : Option Str :=
  (strings_Builder_WriteByte ([] : List UInt8) (34 : UInt8)).bind (fun (r8 : List UInt8) => (text_Quote.l0 k a0 r8 0))
set_option maxRecDepth 100000 in
set_option maxHeartbeats 4000000 in
theorem text_Quote_ok (k : Nat) (a0 : Str) (r : Str) (w : World) (Fr : BS) (hG : Gl Fr w) (hF : ∀ b, Fr b → b < w.heap.size)  (H : text_Quote k a0 = some r) :
    CallsR Tryd.prog 60 #[.string (sv a0)] w (fun v w' => v = .string (sv r) ∧ Mem w' [(Fr, w)]) := by
  have M0 := Mem.start w Fr hF
  refine enterZ (args := [.string (sv a0)]) [.tmp 2] Tryd.func60 rfl rfl rfl rfl ?_
  unfold text_Quote at H
  refine WC_seq ?_
  refine WC_region ?_
  refine WL_of (L_assign rfl rfl (.string (sv (lit []))) rfl ?_)
  refine WL_nil ?_
  refine thenN ?_
  refine WC_seq ?_
  refine WC_region ?_
  refine WL_of (L_alloc M0 rfl rfl zr77 [.pointer none, .slice none 0 0] rfl ?_)
  intro g1 W2 B3 M4
  refine WL_nil ?_
  refine thenN ?_
  refine WC_seq ?_
  refine WC_region ?_
  have M5 : Mem W2 [(none0, W2), (one g1, W2), (Fr, w)] := M4.empty
  have M6 : Mem W2 [(one g1, W2), (none0, W2), (Fr, w)] := M5.front [(none0, W2)] rfl
  have M7 : Mem W2 [(Fr, w)] := M6.drop.drop
  obtain ⟨r8, hr9, H⟩ := bindS H
  refine WL_of (L_call' rfl rfl cf78 [.pointer (some ⟨g1, 0, none⟩), .int .u8 34] rfl (strings_Builder_WriteByte_ok ([] : List UInt8) g1 (.pointer none) (.inl rfl) none 0 none0 (34 : UInt8) r8 _ (Un [(Fr, w)]) (hG.call M7 0 rfl) M6.lend2 (OR.nil W2 none0 W2 none0 5) (B3.now (M6.agree 0 rfl)) hr9) ?_)
  rintro _ W10 ⟨A12, c13, S14, ad17, rfl, M11, ho15, B16, had18⟩
  have M19 : Mem W10 [(S14, W10), (one g1, W10), (Fr, w)] := M7.back (New := [(S14, W10), (one g1, W10)]) M11
  refine WL_nil ?_
  refine thenN ?_
  refine WC_seq ?_
  refine WC_seq ?_
  refine WC_region ?_
  refine WL_of (L_move rfl rfl (.string (sv a0)) rfl ?_)
  refine WL_of (L_range M19 rfl rfl Tryd.underlying9 a0 rfl ?_)
  intro g20 W21 hi22 M23
  refine WL_nil ?_
  refine thenN ?_
  refine WC_block ?_
  refine WC_loop (fun k51 ρ w_ => ∃ (x37 : List UInt8) (i45 : Nat) (A38 : Option Addr) (c39 : Nat) (S40 : BS) (ad42 : Value) (ρ0 : Nat → Value), ρ = updL ρ0 [(0, .string (sv a0)), (2, .string (sv (lit []))), (3, .pointer (some ⟨g1, 0, none⟩)), (8, .pointer (some ⟨g20, 0, none⟩))] ∧ Mem w_ [(S40, w_), (one g20, w_), (one g1, w_), (Fr, w)] ∧ OR w_ S40 w_ none0 5 A38 c39 x37 ∧ (ad42 = .pointer none ∨ ad42 = .pointer (some ⟨g1, 0, none⟩)) ∧ Bx w_ g1 [ad42, .slice A38 x37.length c39] 77 ∧ w_.heap[g20]? = some (.stringIter (sv a0) i45) ∧ k51 ≤ k ∧ text_Quote.l0 k51 a0 x37 i45 = some r) k ?_ ?_
  · have M53 : Mem W21 [(S14, W10), (one g20, W21), (one g1, W10), (Fr, w)] := M23.front [(one g20, W21)] rfl
    have M54 : Mem W21 [(S14, W21), (one g20, W21), (one g1, W10), (Fr, w)] := M53.rebase
    have M55 : Mem W21 [(one g1, W10), (S14, W21), (one g20, W21), (Fr, w)] := M54.front [(S14, W21), (one g20, W21)] rfl
    have M56 : Mem W21 [(one g1, W21), (S14, W21), (one g20, W21), (Fr, w)] := M55.rebase
    have M57 : Mem W21 [(one g20, W21), (one g1, W21), (S14, W21), (Fr, w)] := M56.front [(one g1, W21), (S14, W21)] rfl
    have M58 : Mem W21 [(Fr, w), (one g20, W21), (one g1, W21), (S14, W21)] := M57.front [(one g20, W21), (one g1, W21), (S14, W21)] rfl
    have M59 : Mem W21 [(one g1, W21), (Fr, w), (one g20, W21), (S14, W21)] := M58.front [(Fr, w), (one g20, W21)] rfl
    have M60 : Mem W21 [(one g20, W21), (one g1, W21), (Fr, w), (S14, W21)] := M59.front [(one g1, W21), (Fr, w)] rfl
    have M61 : Mem W21 [(S14, W21), (one g20, W21), (one g1, W21), (Fr, w)] := M60.front [(one g20, W21), (one g1, W21), (Fr, w)] rfl
    exact ⟨r8, 0, A12, c13, S14, ad17, _, updL_same _ _ ⟨rfl, rfl, rfl, rfl, trivial⟩, M61, (ho15.agree (M53.agree 0 rfl)).map (fun _ _ h => h), had18, B16.now (M55.agree 0 rfl), hi22, (Nat.le_refl _), H⟩
  · rintro k51 _ W47 ⟨x37, i45, A38, c39, S40, ad42, ρ49, rfl, M48, hr41, had43, B44, hi46, hk52, H50⟩
    cases k51 with
    | zero => rw [text_Quote.l0] at H50; cases H50
    | succ k51 =>
    rw [text_Quote.l0] at H50
    refine WC_seq ?_
    refine WC_region ?_
    have M62 : Mem W47 [(one g20, W47), (S40, W47), (one g1, W47), (Fr, w)] := M48.front [(S40, W47)] rfl
    refine WL_of (L_next M62 rfl rfl hi46 rfl (fun c63 => ?_) (fun c63 => ?_))
    · replace H50 := ifP c63 H50
      intro W64 hi65 M66
      refine WL_of (L_extract rfl rfl [.bool true, .int .i64 (i45 : Nat), .int .i32 ((dec a0 i45).1)] rfl (.bool true) rfl ?_)
      refine WL_nil ?_
      refine thenN ?_
      refine WC_seq ?_
      refine WC_yes rfl ?_
      refine WC_skip ?_
      refine thenN ?_
      refine WC_block ?_
      refine WC_seq ?_
      refine WC_region ?_
      refine WL_of (L_extract rfl rfl [.bool true, .int .i64 (i45 : Nat), .int .i32 ((dec a0 i45).1)] rfl (.int .i64 (i45 : Nat)) rfl ?_)
      refine WL_of (L_extract rfl rfl [.bool true, .int .i64 (i45 : Nat), .int .i32 ((dec a0 i45).1)] rfl (.int .i32 ((dec a0 i45).1)) rfl ?_)
      refine WL_of (L_assign rfl rfl (.int .i64 (i45 : Nat)) rfl ?_)
      refine WL_of (L_assign rfl rfl (.int .i32 ((dec a0 i45).1)) rfl ?_)
      refine WL_nil ?_
      refine thenN ?_
      refine WC_region ?_
      refine WL_of (L_move rfl rfl (.string (sv a0)) rfl ?_)
      refine WL_of (L_move rfl rfl (.int .i64 (i45 : Nat)) rfl ?_)
      refine WL_of (L_move rfl rfl (.int .i32 ((dec a0 i45).1)) rfl ?_)
      obtain ⟨r68, hr69, H50⟩ := bindS H50
      refine WL_of (L_call' rfl rfl cf79 [.string (sv a0), .int .i64 (i45 : Nat), .int .i32 ((dec a0 i45).1)] rfl (text_written_ok k51 a0 (i45 : Nat) ((dec a0 i45).1) r68 _ (Un [(one g20, W64), (S40, W47), (one g1, W47), (Fr, w)]) (hG.call M66 3 rfl) M66.frame  hr69) ?_)
      rintro _ W70 ⟨rfl, M71⟩
      have M72 : Mem W70 [(one g20, W64), (S40, W47), (one g1, W47), (Fr, w)] := M66.back (New := []) M71
      have M73 : Mem W70 [(S40, W47), (one g20, W64), (one g1, W47), (Fr, w)] := M72.front [(one g20, W64)] rfl
      have M74 : Mem W70 [(one g1, W47), (S40, W47), (one g20, W64), (Fr, w)] := M73.front [(S40, W47), (one g20, W64)] rfl
      have M75 : Mem W70 [(one g20, W64), (Fr, w)] := M74.drop.drop
      obtain ⟨r76, hr77, H50⟩ := bindS H50
      refine WL_of (L_call' rfl rfl cf27 [.pointer (some ⟨g1, 0, none⟩), .string (sv r68)] rfl (strings_Builder_WriteString_ok x37 g1 ad42 had43 A38 c39 S40 r68 r76 _ (Un [(one g20, W64), (Fr, w)]) (hG.call M75 1 rfl) M74.lend2 ((hr41.agree (M74.agree 1 rfl)).map (fun _ _ h => h)) (B44.now (M74.agree 0 rfl)) hr77) ?_)
      rintro _ W78 ⟨A80, c81, S82, ad85, rfl, M79, ho83, B84, had86⟩
      have M87 : Mem W78 [(S82, W78), (one g1, W78), (one g20, W64), (Fr, w)] := M75.back (New := [(S82, W78), (one g1, W78)]) M79
      refine WL_nil ?_
      refine blkN ?_
      refine thenN ?_
      have M88 : Mem W78 [(one g1, W78), (S82, W78), (one g20, W64), (Fr, w)] := M87.front [(S82, W78)] rfl
      have M89 : Mem W78 [(one g20, W64), (one g1, W78), (S82, W78), (Fr, w)] := M88.front [(one g1, W78), (S82, W78)] rfl
      have M90 : Mem W78 [(one g20, W78), (one g1, W78), (S82, W78), (Fr, w)] := M89.rebase
      have M91 : Mem W78 [(Fr, w), (one g20, W78), (one g1, W78), (S82, W78)] := M90.front [(one g20, W78), (one g1, W78), (S82, W78)] rfl
      have M92 : Mem W78 [(one g1, W78), (Fr, w), (one g20, W78), (S82, W78)] := M91.front [(Fr, w), (one g20, W78)] rfl
      have M93 : Mem W78 [(one g20, W78), (one g1, W78), (Fr, w), (S82, W78)] := M92.front [(one g1, W78), (Fr, w)] rfl
      have M94 : Mem W78 [(S82, W78), (one g20, W78), (one g1, W78), (Fr, w)] := M93.front [(one g20, W78), (one g1, W78), (Fr, w)] rfl
      exact ⟨k51, by omega, r76.2, (i45 + (dec a0 i45).2), A80, c81, S82, ad85, _, updL_same _ _ ⟨rfl, rfl, rfl, rfl, trivial⟩, M94, ho83.map (fun _ _ h => h), had86, B84, ((M89.agree 0 rfl) _ rfl).trans hi65, (by omega), H50⟩
    · replace H50 := ifN c63 H50
      refine WL_of (L_extract rfl rfl [.bool false] rfl (.bool false) rfl ?_)
      refine WL_nil ?_
      refine thenN ?_
      refine WC_seq ?_
      refine WC_no rfl ?_
      refine WC_exit ?_
      refine thenE ?_
      refine thenE ?_
      refine blkX ?_
      refine thenN ?_
      refine WC_seq ?_
      refine WC_region ?_
      have M95 : Mem W47 [(S40, W47), (one g20, W47), (one g1, W47), (Fr, w)] := M62.front [(one g20, W47)] rfl
      have M96 : Mem W47 [(one g1, W47), (S40, W47), (one g20, W47), (Fr, w)] := M95.front [(S40, W47), (one g20, W47)] rfl
      have M97 : Mem W47 [(one g20, W47), (Fr, w)] := M96.drop.drop
      obtain ⟨r98, hr99, H50⟩ := bindS H50
      refine WL_of (L_call' rfl rfl cf78 [.pointer (some ⟨g1, 0, none⟩), .int .u8 34] rfl (strings_Builder_WriteByte_ok x37 g1 ad42 had43 A38 c39 S40 (34 : UInt8) r98 _ (Un [(one g20, W47), (Fr, w)]) (hG.call M97 1 rfl) M96.lend2 ((hr41.agree (M96.agree 1 rfl)).map (fun _ _ h => h)) (B44.now (M96.agree 0 rfl)) hr99) ?_)
      rintro _ W100 ⟨A102, c103, S104, ad107, rfl, M101, ho105, B106, had108⟩
      have M109 : Mem W100 [(S104, W100), (one g1, W100), (one g20, W47), (Fr, w)] := M97.back (New := [(S104, W100), (one g1, W100)]) M101
      refine WL_nil ?_
      refine thenN ?_
      refine WC_seq ?_
      refine WC_region ?_
      have M110 : Mem W100 [(one g1, W100), (S104, W100), (one g20, W47), (Fr, w)] := M109.front [(S104, W100)] rfl
      have M111 : Mem W100 [(one g20, W47), (Fr, w)] := M110.drop.drop
      obtain ⟨r112, hr113, H50⟩ := bindS H50
      refine WL_of (L_call' rfl rfl cf29 [.pointer (some ⟨g1, 0, none⟩)] rfl (strings_Builder_String_ok r98 g1 ad107 had108 A102 c103 S104 r112 _ (Un [(one g20, W47), (Fr, w)]) (hG.call M111 1 rfl) M110.lend2 ((ho105.agree (M110.agree 1 rfl)).map (fun _ _ h => h)) (B106.now (M110.agree 0 rfl)) hr113) ?_)
      rintro _ W114 ⟨rfl, M115⟩
      have M116 : Mem W114 [(one g20, W47), (Fr, w)] := M111.back (New := []) M115
      refine WL_of (L_assign rfl rfl (.string (sv r112)) rfl ?_)
      refine WL_nil ?_
      refine thenN ?_
      refine WC_ret ?_
      obtain rfl := someE H50
      have M117 : Mem W114 [(Fr, w), (one g20, W47)] := M116.front [(one g20, W47)] rfl
      have M118 : Mem W114 [(Fr, w)] := M117.sub (List.prefix_append [(Fr, w)] [(one g20, W47)]).sublist
      refine retR [.string (sv r112)] ⟨rfl, trivial⟩ ?_
      exact ⟨rfl, M118⟩

/-! ### annals/text.Unquote: function 43 -/
def text_Unquote.l0 : Nat → Str → Int → Str → Int → Int → Int → (List UInt8) → Option (Str × Int × Int)
  | 0, _, _, _, _, _, _, _ => none
  | k + 1, a0, a1, x38, x39, x40, x41, x42 => (if (x41 : Int) = (List.length a0 : Int) then (some ((lit []), 0, 25)) else (atL a0 x41).bind (fun b64 => (if b64 = (34 : UInt8) then (strings_Builder_String x42).bind (fun (r69 : Str) => (subS a0 a1 (wrap64 (x41 + 1))).bind (fun q75 => (text_Quote k r69).bind (fun (r78 : Str) => (if (r78 : Str) = q75 then (some (r69, wrap64 (x41 + 1), 0)) else (some ((lit []), 0, 28)))))) else (atL a0 x41).bind (fun b84 => (if b84 = (92 : UInt8) then (subS a0 (wrap64 (x41 + 1)) (List.length a0 : Int)).bind (fun q87 => (text_unescaped k q87).bind (fun (r90 : (Str × Int)) => (if (r90.2 : Int) = 0 then (some ((lit []), 0, 27)) else (strings_Builder_WriteString x42 r90.1).bind (fun (r100 : (Int × (List UInt8))) => (text_Unquote.l0 k a0 a1 x38 x39 x40 (wrap64 (x41 + (wrap64 (1 + r90.2)))) r100.2))))) else (subS a0 x41 (List.length a0 : Int)).bind (fun q116 => (unicode_utf8_DecodeRuneInString q116).bind (fun (r119 : (Int × Int)) => ((if (r119.1 : Int) = 65533 then (if (r119.2 : Int) = 1 then (some true) else (if (r119.1 : Int) < 32 then (some true) else (if (r119.1 : Int) = 127 then (some true) else (text_hidden r119.1).bind (fun (r131 : Bool) => (some r131))))) else (if (r119.1 : Int) < 32 then (some true) else (if (r119.1 : Int) = 127 then (some true) else (text_hidden r119.1).bind (fun (r139 : Bool) => (some r139)))))).bind (fun (z124 : Bool) => (if z124 = true then (some ((lit []), 0, 26)) else (subS a0 x41 (wrap64 (x41 + r119.2))).bind (fun q150 => (strings_Builder_WriteString x42 q150).bind (fun (r154 : (Int × (List UInt8))) => (text_Unquote.l0 k a0 a1 x38 x39 x40 (wrap64 (x41 + r119.2)) r154.2))))))))))))
def text_Unquote (k : Nat) (a0 : Str) (a1 : Int) : Option (Str × Int × Int) :=
  ((if (a1 : Int) < 0 then (some true) else (some (decide (((List.length a0 : Int) : Int) < a1))))).bind (fun (z1 : Bool) => (if z1 = true then (some ((lit []), 0, 1)) else ((if (a1 : Int) = (List.length a0 : Int) then (some true) else (atL a0 a1).bind (fun b11 => (some (decide (b11 ≠ (34 : UInt8))))))).bind (fun (z8 : Bool) => (if z8 = true then (some ((lit []), 0, 24)) else (text_Unquote.l0 k a0 a1 (lit []) 0 0 (wrap64 (a1 + 1)) ([] : List UInt8))))))
set_option maxRecDepth 100000 in
set_option maxHeartbeats 4000000 in
theorem text_Unquote_ok (k : Nat) (a0 : Str) (a1 : Int) (r : Str × Int × Int) (w : World) (Fr : BS) (hG : Gl Fr w) (hF : ∀ b, Fr b → b < w.heap.size)  (H : text_Unquote k a0 a1 = some r) :
    CallsR Tryd.prog 43 #[.string (sv a0), .int .i64 a1] w (fun v w' => v = .tuple #[.string (sv r.1), .int .i64 r.2.1, .int .i64 r.2.2] ∧ Mem w' [(Fr, w)]) := by
  have M0 := Mem.start w Fr hF
  refine enterZ (args := [.string (sv a0), .int .i64 a1]) [.tmp 4, .tmp 5, .tmp 6] Tryd.func43 rfl rfl rfl rfl ?_
  unfold text_Unquote at H
  refine WC_seq ?_
  refine WC_region ?_
  refine WL_of (L_assign rfl rfl (.string (sv (lit []))) rfl ?_)
  refine WL_of (L_assign rfl rfl (.int .i64 0) rfl ?_)
  refine WL_of (L_assign rfl rfl (.int .i64 0) rfl ?_)
  refine WL_nil ?_
  refine thenN ?_
  refine WC_seq ?_
  obtain ⟨z1, hz2, H⟩ := bindS H
  refine WC_cut (fun ρ w_ => ∃  (ρ0 : Nat → Value), ρ = updL ρ0 [(0, .string (sv a0)), (1, .int .i64 a1), (4, .string (sv (lit []))), (5, .int .i64 0), (6, .int .i64 0), (21, .bool z1)] ∧ Mem w_ [(Fr, w)]) ?_ ?_
  · refine WC_region ?_
    refine WL_of (L_move rfl rfl (.int .i64 a1) rfl ?_)
    refine WL_of (L_bin rfl rfl (.int .i64 a1) (.int .i64 0) rfl rfl (.bool (decide ((a1 : Int) < 0))) (B_lss _ _ _ _ a1 0) ?_)
    refine WL_of (L_move rfl rfl (.bool (decide ((a1 : Int) < 0))) rfl ?_)
    by_cases c3 : (a1 : Int) < 0
    · replace hz2 := ifP c3 hz2
      refine WL_known 16 true (vtrue c3) ?_
      refine WL_of (WO_off rfl rfl ?_)
      refine WL_of (WO_off rfl rfl ?_)
      refine WL_of (WO_off rfl rfl ?_)
      refine WL_of (WO_off rfl rfl ?_)
      refine WL_of (L_pick rfl rfl true rfl (.bool true) rfl ?_)
      refine WL_nil ?_
      refine thenN ?_
      obtain rfl := someE hz2
      exact ⟨_, updL_same _ _ ⟨rfl, rfl, rfl, rfl, rfl, rfl, trivial⟩, M0⟩
    · replace hz2 := ifN c3 hz2
      refine WL_known 16 false (vfalse c3) ?_
      refine WL_of (L_move rfl rfl (.int .i64 a1) rfl ?_)
      refine WL_of (L_move rfl rfl (.string (sv a0)) rfl ?_)
      refine WL_of (L_len rfl rfl (.string (sv a0)) rfl (List.length a0) (N_str Tryd.underlying9 a0) ?_)
      refine WL_of (L_bin rfl rfl (.int .i64 a1) (.int .i64 (List.length a0 : Int)) rfl rfl (.bool (decide (((List.length a0 : Int) : Int) < a1))) (B_gtr _ _ _ _ a1 (List.length a0 : Int)) ?_)
      refine WL_of (L_pick rfl rfl false rfl (.bool (decide (((List.length a0 : Int) : Int) < a1))) rfl ?_)
      refine WL_nil ?_
      refine thenN ?_
      obtain rfl := someE hz2
      exact ⟨_, updL_same _ _ ⟨rfl, rfl, rfl, rfl, rfl, rfl, trivial⟩, M0⟩
  · rintro _ W4 ⟨ρ6, rfl, M5⟩
    refine WC_ifb rfl (fun c7 => ?_) (fun c7 => ?_)
    · replace H := ifP c7 H
      refine WC_seq ?_
      refine WC_region ?_
      refine WL_of (L_assign rfl rfl (.string (sv (lit []))) rfl ?_)
      refine WL_of (L_assign rfl rfl (.int .i64 0) rfl ?_)
      refine WL_of (L_assign rfl rfl (.int .i64 1) rfl ?_)
      refine WL_nil ?_
      refine thenN ?_
      refine WC_ret ?_
      refine thenR ?_
      obtain rfl := someE H
      refine retR [.string (sv (lit [])), .int .i64 0, .int .i64 1] ⟨rfl, rfl, rfl, trivial⟩ ?_
      exact ⟨rfl, M5⟩
    · replace H := ifN (by rw [c7]; simp) H
      refine WC_skip ?_
      refine thenN ?_
      refine WC_seq ?_
      obtain ⟨z8, hz9, H⟩ := bindS H
      refine WC_cut (fun ρ w_ => ∃  (ρ0 : Nat → Value), ρ = updL ρ0 [(0, .string (sv a0)), (1, .int .i64 a1), (4, .string (sv (lit []))), (5, .int .i64 0), (6, .int .i64 0), (31, .bool z8)] ∧ Mem w_ [(Fr, w)]) ?_ ?_
      · refine WC_region ?_
        refine WL_of (L_move rfl rfl (.int .i64 a1) rfl ?_)
        refine WL_of (L_move rfl rfl (.string (sv a0)) rfl ?_)
        refine WL_of (L_len rfl rfl (.string (sv a0)) rfl (List.length a0) (N_str Tryd.underlying9 a0) ?_)
        refine WL_of (L_bin rfl rfl (.int .i64 a1) (.int .i64 (List.length a0 : Int)) rfl rfl (.bool (decide ((a1 : Int) = (List.length a0 : Int)))) (B_eql _ _ _ _ a1 (List.length a0 : Int)) ?_)
        refine WL_of (L_move rfl rfl (.bool (decide ((a1 : Int) = (List.length a0 : Int)))) rfl ?_)
        by_cases c10 : (a1 : Int) = (List.length a0 : Int)
        · replace hz9 := ifP c10 hz9
          refine WL_known 26 true (vtrue c10) ?_
          refine WL_of (WO_off rfl rfl ?_)
          refine WL_of (WO_off rfl rfl ?_)
          refine WL_of (WO_off rfl rfl ?_)
          refine WL_of (WO_off rfl rfl ?_)
          refine WL_of (L_pick rfl rfl true rfl (.bool true) rfl ?_)
          refine WL_nil ?_
          refine thenN ?_
          obtain rfl := someE hz9
          exact ⟨_, updL_same _ _ ⟨rfl, rfl, rfl, rfl, rfl, rfl, trivial⟩, M5⟩
        · replace hz9 := ifN c10 hz9
          refine WL_known 26 false (vfalse c10) ?_
          refine WL_of (L_move rfl rfl (.string (sv a0)) rfl ?_)
          refine WL_of (L_move rfl rfl (.int .i64 a1) rfl ?_)
          obtain ⟨b11, hb12, hz9⟩ := bindS hz9
          refine WL_of (L_sindex rfl rfl Tryd.underlying9 .i64 a0 a1 rfl rfl b11 hb12 ?_)
          refine WL_of (L_bin rfl rfl (.int .u8 (b11.toNat : Int)) (.int .u8 34) rfl rfl (.bool (decide (b11 ≠ (34 : UInt8)))) (B_neq8 _ _ _ b11 (34 : UInt8)) ?_)
          refine WL_of (L_pick rfl rfl false rfl (.bool (decide (b11 ≠ (34 : UInt8)))) rfl ?_)
          refine WL_nil ?_
          refine thenN ?_
          obtain rfl := someE hz9
          exact ⟨_, updL_same _ _ ⟨rfl, rfl, rfl, rfl, rfl, rfl, trivial⟩, M5⟩
      · rintro _ W13 ⟨ρ15, rfl, M14⟩
        refine WC_ifb rfl (fun c16 => ?_) (fun c16 => ?_)
        · replace H := ifP c16 H
          refine WC_seq ?_
          refine WC_region ?_
          refine WL_of (L_assign rfl rfl (.string (sv (lit []))) rfl ?_)
          refine WL_of (L_assign rfl rfl (.int .i64 0) rfl ?_)
          refine WL_of (L_assign rfl rfl (.int .i64 24) rfl ?_)
          refine WL_nil ?_
          refine thenN ?_
          refine WC_ret ?_
          refine thenR ?_
          obtain rfl := someE H
          refine retR [.string (sv (lit [])), .int .i64 0, .int .i64 24] ⟨rfl, rfl, rfl, trivial⟩ ?_
          exact ⟨rfl, M14⟩
        · replace H := ifN (by rw [c16]; simp) H
          refine WC_skip ?_
          refine thenN ?_
          refine WC_seq ?_
          refine WC_region ?_
          refine WL_of (L_alloc M14 rfl rfl zr77 [.pointer none, .slice none 0 0] rfl ?_)
          intro g17 W18 B19 M20
          refine WL_nil ?_
          refine thenN ?_
          refine WC_seq ?_
          refine WC_region ?_
          refine WL_of (L_move rfl rfl (.int .i64 a1) rfl ?_)
          refine WL_of (L_bin rfl rfl (.int .i64 a1) (.int .i64 1) rfl rfl (.int .i64 (wrap64 (a1 + 1))) (B_add _ _ _ a1 1) ?_)
          refine WL_of (L_assign rfl rfl (.int .i64 (wrap64 (a1 + 1))) rfl ?_)
          refine WL_nil ?_
          refine thenN ?_
          refine WC_seq ?_
          refine WC_block ?_
          refine WC_loop (fun k54 ρ w_ => ∃ (x38 : Str) (x39 : Int) (x40 : Int) (x41 : Int) (x42 : List UInt8) (A43 : Option Addr) (c44 : Nat) (S45 : BS) (ad47 : Value) (ρ0 : Nat → Value), ρ = updL ρ0 [(0, .string (sv a0)), (1, .int .i64 a1), (4, .string (sv x38)), (5, .int .i64 x39), (6, .int .i64 x40), (7, .pointer (some ⟨g17, 0, none⟩)), (8, .int .i64 x41)] ∧ Mem w_ [(S45, w_), (one g17, w_), (Fr, w)] ∧ OR w_ S45 w_ none0 5 A43 c44 x42 ∧ (ad47 = .pointer none ∨ ad47 = .pointer (some ⟨g17, 0, none⟩)) ∧ Bx w_ g17 [ad47, .slice A43 x42.length c44] 77 ∧ k54 ≤ k ∧ text_Unquote.l0 k54 a0 a1 x38 x39 x40 x41 x42 = some r) k ?_ ?_
          · have M56 : Mem W18 [(none0, W18), (one g17, W18), (Fr, w)] := M20.empty
            have M57 : Mem W18 [(one g17, W18), (none0, W18), (Fr, w)] := M56.front [(none0, W18)] rfl
            have M58 : Mem W18 [(Fr, w), (one g17, W18), (none0, W18)] := M57.front [(one g17, W18), (none0, W18)] rfl
            have M59 : Mem W18 [(one g17, W18), (Fr, w), (none0, W18)] := M58.front [(Fr, w)] rfl
            have M60 : Mem W18 [(none0, W18), (one g17, W18), (Fr, w)] := M59.front [(one g17, W18), (Fr, w)] rfl
            exact ⟨(lit []), 0, 0, wrap64 (a1 + 1), ([] : List UInt8), none, 0, none0, .pointer none, _, updL_same _ _ ⟨rfl, rfl, rfl, rfl, rfl, rfl, rfl, trivial⟩, M60, OR.nil W18 none0 W18 none0 5, (.inl rfl), B19, (Nat.le_refl _), H⟩
          · rintro k54 _ W50 ⟨x38, x39, x40, x41, x42, A43, c44, S45, ad47, ρ52, rfl, M51, hr46, had48, B49, hk55, H53⟩
            cases k54 with
            | zero => rw [text_Unquote.l0] at H53; cases H53
            | succ k54 =>
            rw [text_Unquote.l0] at H53
            refine WC_block ?_
            refine WC_seq ?_
            refine WC_seq ?_
            refine WC_region ?_
            refine WL_of (L_move rfl rfl (.int .i64 x41) rfl ?_)
            refine WL_of (L_move rfl rfl (.string (sv a0)) rfl ?_)
            refine WL_of (L_len rfl rfl (.string (sv a0)) rfl (List.length a0) (N_str Tryd.underlying9 a0) ?_)
            refine WL_of (L_bin rfl rfl (.int .i64 x41) (.int .i64 (List.length a0 : Int)) rfl rfl (.bool (decide ((x41 : Int) = (List.length a0 : Int)))) (B_eql _ _ _ _ x41 (List.length a0 : Int)) ?_)
            refine WL_nil ?_
            refine thenN ?_
            refine WC_if (p := (x41 : Int) = (List.length a0 : Int)) rfl (fun c61 => ?_) (fun c61 => ?_)
            · replace H53 := ifP c61 H53
              refine WC_seq ?_
              refine WC_region ?_
              refine WL_of (L_assign rfl rfl (.string (sv (lit []))) rfl ?_)
              refine WL_of (L_assign rfl rfl (.int .i64 0) rfl ?_)
              refine WL_of (L_assign rfl rfl (.int .i64 25) rfl ?_)
              refine WL_nil ?_
              refine thenN ?_
              refine WC_ret ?_
              refine thenR ?_
              refine blkR ?_
              refine thenR ?_
              refine blkR ?_
              refine thenR ?_
              obtain rfl := someE H53
              have M62 : Mem W50 [(Fr, w), (S45, W50), (one g17, W50)] := M51.front [(S45, W50), (one g17, W50)] rfl
              have M63 : Mem W50 [(Fr, w)] := M62.sub (List.prefix_append [(Fr, w)] [(S45, W50), (one g17, W50)]).sublist
              refine retR [.string (sv (lit [])), .int .i64 0, .int .i64 25] ⟨rfl, rfl, rfl, trivial⟩ ?_
              exact ⟨rfl, M63⟩
            · replace H53 := ifN c61 H53
              refine WC_skip ?_
              refine thenN ?_
              refine WC_seq ?_
              refine WC_seq ?_
              refine WC_region ?_
              refine WL_of (L_move rfl rfl (.string (sv a0)) rfl ?_)
              refine WL_of (L_move rfl rfl (.int .i64 x41) rfl ?_)
              obtain ⟨b64, hb65, H53⟩ := bindS H53
              refine WL_of (L_sindex rfl rfl Tryd.underlying9 .i64 a0 x41 rfl rfl b64 hb65 ?_)
              refine WL_of (L_bin rfl rfl (.int .u8 (b64.toNat : Int)) (.int .u8 34) rfl rfl (.bool (decide (b64 = (34 : UInt8)))) (B_eql8 _ _ _ b64 (34 : UInt8)) ?_)
              refine WL_nil ?_
              refine thenN ?_
              refine WC_if (p := b64 = (34 : UInt8)) rfl (fun c66 => ?_) (fun c66 => ?_)
              · replace H53 := ifP c66 H53
                refine WC_exit ?_
                refine thenE ?_
                refine blkY rfl ?_
                refine thenE ?_
                refine blkX ?_
                refine thenN ?_
                refine WC_seq ?_
                refine WC_seq ?_
                refine WC_region ?_
                have M67 : Mem W50 [(one g17, W50), (S45, W50), (Fr, w)] := M51.front [(S45, W50)] rfl
                have M68 : Mem W50 [(Fr, w)] := M67.drop.drop
                obtain ⟨r69, hr70, H53⟩ := bindS H53
                refine WL_of (L_call' rfl rfl cf29 [.pointer (some ⟨g17, 0, none⟩)] rfl (strings_Builder_String_ok x42 g17 ad47 had48 A43 c44 S45 r69 _ (Un [(Fr, w)]) (hG.call M68 0 rfl) M67.lend2 ((hr46.agree (M67.agree 1 rfl)).map (fun _ _ h => h)) (B49.now (M67.agree 0 rfl)) hr70) ?_)
                rintro _ W71 ⟨rfl, M72⟩
                have M73 : Mem W71 [(Fr, w)] := M68.back (New := []) M72
                refine WL_of (L_assign rfl rfl (.string (sv r69)) rfl ?_)
                refine WL_nil ?_
                refine thenN ?_
                refine WC_seq ?_
                refine WD_start (n := 8) (fun w_ => Mem w_ [(Fr, w)]) [] mixed rfl ?_
                have M74 := M73.drawn
                refine WD_take' 0 rfl (by kernel_rfl) (by kernel_rfl) (by kernel_rfl) (by kernel_rfl) (by kernel_rfl) rfl (fun _ _ _ h => h) rfl _ (M74.sub (.cons_cons _ .slnil)) rfl (fun w_ hS => L_move rfl rfl (.string (sv r69)) rfl  ⟨rfl, rfl⟩) ?_
                refine WD_take' 2 rfl (by kernel_rfl) (by kernel_rfl) (by kernel_rfl) (by kernel_rfl) (by kernel_rfl) rfl (fun _ _ _ h => h) rfl _ (M74.sub (.cons_cons _ .slnil)) rfl (fun w_ hS => L_move rfl rfl (.string (sv a0)) rfl  ⟨rfl, rfl⟩) ?_
                refine WD_take' 3 rfl (by kernel_rfl) (by kernel_rfl) (by kernel_rfl) (by kernel_rfl) (by kernel_rfl) rfl (fun _ _ _ h => h) rfl _ (M74.sub (.cons_cons _ .slnil)) rfl (fun w_ hS => L_move rfl rfl (.int .i64 a1) rfl  ⟨rfl, rfl⟩) ?_
                refine WD_take' 4 rfl (by kernel_rfl) (by kernel_rfl) (by kernel_rfl) (by kernel_rfl) (by kernel_rfl) rfl (fun _ _ _ h => h) rfl _ (M74.sub (.cons_cons _ .slnil)) rfl (fun w_ hS => L_move rfl rfl (.int .i64 x41) rfl  ⟨rfl, rfl⟩) ?_
                refine WD_take' 5 rfl (by kernel_rfl) (by kernel_rfl) (by kernel_rfl) (by kernel_rfl) (by kernel_rfl) rfl (fun _ _ _ h => h) rfl _ (M74.sub (.cons_cons _ .slnil)) rfl (fun w_ hS => L_bin rfl rfl (.int .i64 x41) (.int .i64 1) rfl rfl (.int .i64 (wrap64 (x41 + 1))) (B_add _ _ _ x41 1)  ⟨rfl, rfl⟩) ?_
                obtain ⟨q75, hq76, H53⟩ := bindS H53
                refine WD_take' 6 rfl (by kernel_rfl) (by kernel_rfl) (by kernel_rfl) (by kernel_rfl) (by kernel_rfl) rfl (fun _ _ _ h => h) rfl _ (M74.sub (.cons_cons _ .slnil)) rfl (fun w_ hS => L_sslice rfl rfl Tryd.underlying9 a0 rfl a1 (wrap64 (x41 + 1)) .i64 .i64 (.inl rfl) (.inl rfl) q75 hq76  ⟨rfl, rfl⟩) ?_
                obtain ⟨r78, hr79, H53⟩ := bindS H53
                refine WD_one 1 rfl (by kernel_rfl) (L_call' rfl rfl cf60 [.string (sv r69)] rfl (text_Quote_ok k54 r69 r78 _ (Un [(Fr, w)]) (hG.call M74 0 rfl) M74.frame  hr79) ?_)
                rintro _ W80 ⟨rfl, M81⟩
                have M82 : Mem W80 [(Fr, w)] := M74.back (New := []) M81
                refine ⟨fun _ => (M82.sub (.cons_cons _ .slnil)), ?_⟩
                refine WD_take' 7 rfl (by kernel_rfl) (by kernel_rfl) (by kernel_rfl) (by kernel_rfl) (by kernel_rfl) rfl (fun _ _ _ h => h) rfl _ (M82.sub (.cons_cons _ .slnil)) rfl (fun w_ hS => L_bin rfl rfl (.string (sv r78)) (.string (sv q75)) rfl rfl (.bool (decide ((r78 : Str) = q75))) (B_seql _ _ _ r78 q75)  ⟨rfl, rfl⟩) ?_
                refine WD_done (by kernel_rfl) ?_
                refine thenN ?_
                refine WC_if (p := (r78 : Str) = q75) rfl (fun c83 => ?_) (fun c83 => ?_)
                · replace H53 := ifP c83 H53
                  refine WC_seq ?_
                  refine WC_region ?_
                  refine WL_of (L_move rfl rfl (.string (sv r69)) rfl ?_)
                  refine WL_of (L_move rfl rfl (.int .i64 x41) rfl ?_)
                  refine WL_of (L_bin rfl rfl (.int .i64 x41) (.int .i64 1) rfl rfl (.int .i64 (wrap64 (x41 + 1))) (B_add _ _ _ x41 1) ?_)
                  refine WL_of (L_assign rfl rfl (.string (sv r69)) rfl ?_)
                  refine WL_of (L_assign rfl rfl (.int .i64 (wrap64 (x41 + 1))) rfl ?_)
                  refine WL_of (L_assign rfl rfl (.int .i64 0) rfl ?_)
                  refine WL_nil ?_
                  refine thenN ?_
                  refine WC_ret ?_
                  refine thenR ?_
                  obtain rfl := someE H53
                  refine retR [.string (sv r69), .int .i64 (wrap64 (x41 + 1)), .int .i64 0] ⟨rfl, rfl, rfl, trivial⟩ ?_
                  exact ⟨rfl, M82⟩
                · replace H53 := ifN c83 H53
                  refine WC_skip ?_
                  refine thenN ?_
                  refine WC_seq ?_
                  refine WC_region ?_
                  refine WL_of (L_assign rfl rfl (.string (sv (lit []))) rfl ?_)
                  refine WL_of (L_assign rfl rfl (.int .i64 0) rfl ?_)
                  refine WL_of (L_assign rfl rfl (.int .i64 28) rfl ?_)
                  refine WL_nil ?_
                  refine thenN ?_
                  refine WC_ret ?_
                  obtain rfl := someE H53
                  refine retR [.string (sv (lit [])), .int .i64 0, .int .i64 28] ⟨rfl, rfl, rfl, trivial⟩ ?_
                  exact ⟨rfl, M82⟩
              · replace H53 := ifN c66 H53
                refine WC_skip ?_
                refine thenN ?_
                refine WC_seq ?_
                refine WC_seq ?_
                refine WC_region ?_
                refine WL_of (L_move rfl rfl (.string (sv a0)) rfl ?_)
                refine WL_of (L_move rfl rfl (.int .i64 x41) rfl ?_)
                obtain ⟨b84, hb85, H53⟩ := bindS H53
                refine WL_of (L_sindex rfl rfl Tryd.underlying9 .i64 a0 x41 rfl rfl b84 hb85 ?_)
                refine WL_of (L_bin rfl rfl (.int .u8 (b84.toNat : Int)) (.int .u8 92) rfl rfl (.bool (decide (b84 = (92 : UInt8)))) (B_eql8 _ _ _ b84 (92 : UInt8)) ?_)
                refine WL_nil ?_
                refine thenN ?_
                refine WC_if (p := b84 = (92 : UInt8)) rfl (fun c86 => ?_) (fun c86 => ?_)
                · replace H53 := ifP c86 H53
                  refine WC_seq ?_
                  refine WC_region ?_
                  refine WL_of (L_move rfl rfl (.string (sv a0)) rfl ?_)
                  refine WL_of (L_move rfl rfl (.int .i64 x41) rfl ?_)
                  refine WL_of (L_bin rfl rfl (.int .i64 x41) (.int .i64 1) rfl rfl (.int .i64 (wrap64 (x41 + 1))) (B_add _ _ _ x41 1) ?_)
                  obtain ⟨q87, hq88, H53⟩ := bindS H53
                  refine WL_of (L_sslice rfl rfl Tryd.underlying9 a0 rfl (wrap64 (x41 + 1)) (List.length a0 : Int) .i64 .i64 (.inl rfl) (.inr ⟨rfl, rfl⟩) q87 hq88 ?_)
                  obtain ⟨r90, hr91, H53⟩ := bindS H53
                  refine WL_of (L_call' rfl rfl cf58 [.string (sv q87)] rfl (text_unescaped_ok k54 q87 r90 _ (Un [(S45, W50), (one g17, W50), (Fr, w)]) (hG.call M51 2 rfl) M51.frame  hr91) ?_)
                  rintro _ W92 ⟨rfl, M93⟩
                  have M94 : Mem W92 [(S45, W50), (one g17, W50), (Fr, w)] := M51.back (New := []) M93
                  refine WL_of (L_move rfl rfl (.tuple #[.string (sv r90.1), .int .i64 r90.2]) rfl ?_)
                  refine WL_of (L_extract rfl rfl [.string (sv r90.1), .int .i64 r90.2] rfl (.string (sv r90.1)) rfl ?_)
                  refine WL_of (L_extract rfl rfl [.string (sv r90.1), .int .i64 r90.2] rfl (.int .i64 r90.2) rfl ?_)
                  refine WL_of (L_assign rfl rfl (.string (sv r90.1)) rfl ?_)
                  refine WL_of (L_assign rfl rfl (.int .i64 r90.2) rfl ?_)
                  refine WL_nil ?_
                  refine thenN ?_
                  refine WC_seq ?_
                  refine WC_seq ?_
                  refine WC_region ?_
                  refine WL_of (L_move rfl rfl (.int .i64 r90.2) rfl ?_)
                  refine WL_of (L_bin rfl rfl (.int .i64 r90.2) (.int .i64 0) rfl rfl (.bool (decide ((r90.2 : Int) = 0))) (B_eql _ _ _ _ r90.2 0) ?_)
                  refine WL_nil ?_
                  refine thenN ?_
                  refine WC_if (p := (r90.2 : Int) = 0) rfl (fun c95 => ?_) (fun c95 => ?_)
                  · replace H53 := ifP c95 H53
                    refine WC_seq ?_
                    refine WC_region ?_
                    refine WL_of (L_assign rfl rfl (.string (sv (lit []))) rfl ?_)
                    refine WL_of (L_assign rfl rfl (.int .i64 0) rfl ?_)
                    refine WL_of (L_assign rfl rfl (.int .i64 27) rfl ?_)
                    refine WL_nil ?_
                    refine thenN ?_
                    refine WC_ret ?_
                    refine thenR ?_
                    refine thenR ?_
                    refine blkR ?_
                    refine thenR ?_
                    refine blkR ?_
                    refine thenR ?_
                    obtain rfl := someE H53
                    have M96 : Mem W92 [(Fr, w), (S45, W50), (one g17, W50)] := M94.front [(S45, W50), (one g17, W50)] rfl
                    have M97 : Mem W92 [(Fr, w)] := M96.sub (List.prefix_append [(Fr, w)] [(S45, W50), (one g17, W50)]).sublist
                    refine retR [.string (sv (lit [])), .int .i64 0, .int .i64 27] ⟨rfl, rfl, rfl, trivial⟩ ?_
                    exact ⟨rfl, M97⟩
                  · replace H53 := ifN c95 H53
                    refine WC_skip ?_
                    refine thenN ?_
                    refine WC_seq ?_
                    refine WC_region ?_
                    refine WL_of (L_move rfl rfl (.string (sv r90.1)) rfl ?_)
                    have M98 : Mem W92 [(one g17, W50), (S45, W50), (Fr, w)] := M94.front [(S45, W50)] rfl
                    have M99 : Mem W92 [(Fr, w)] := M98.drop.drop
                    obtain ⟨r100, hr101, H53⟩ := bindS H53
                    refine WL_of (L_call' rfl rfl cf27 [.pointer (some ⟨g17, 0, none⟩), .string (sv r90.1)] rfl (strings_Builder_WriteString_ok x42 g17 ad47 had48 A43 c44 S45 r90.1 r100 _ (Un [(Fr, w)]) (hG.call M99 0 rfl) M98.lend2 ((hr46.agree (M98.agree 1 rfl)).map (fun _ _ h => h)) (B49.now (M98.agree 0 rfl)) hr101) ?_)
                    rintro _ W102 ⟨A104, c105, S106, ad109, rfl, M103, ho107, B108, had110⟩
                    have M111 : Mem W102 [(S106, W102), (one g17, W102), (Fr, w)] := M99.back (New := [(S106, W102), (one g17, W102)]) M103
                    refine WL_nil ?_
                    refine thenN ?_
                    refine WC_seq ?_
                    refine WC_region ?_
                    refine WL_of (L_move rfl rfl (.int .i64 x41) rfl ?_)
                    refine WL_of (L_move rfl rfl (.int .i64 r90.2) rfl ?_)
                    refine WL_of (L_bin rfl rfl (.int .i64 1) (.int .i64 r90.2) rfl rfl (.int .i64 (wrap64 (1 + r90.2))) (B_add _ _ _ 1 r90.2) ?_)
                    refine WL_of (L_bin rfl rfl (.int .i64 x41) (.int .i64 (wrap64 (1 + r90.2))) rfl rfl (.int .i64 (wrap64 (x41 + (wrap64 (1 + r90.2))))) (B_add _ _ _ x41 (wrap64 (1 + r90.2))) ?_)
                    refine WL_of (L_assign rfl rfl (.int .i64 (wrap64 (x41 + (wrap64 (1 + r90.2))))) rfl ?_)
                    refine WL_nil ?_
                    refine thenN ?_
                    refine WC_exit ?_
                    refine thenE ?_
                    refine blkX ?_
                    refine thenN ?_
                    have M112 : Mem W102 [(one g17, W102), (S106, W102), (Fr, w)] := M111.front [(S106, W102)] rfl
                    have M113 : Mem W102 [(Fr, w), (one g17, W102), (S106, W102)] := M112.front [(one g17, W102), (S106, W102)] rfl
                    have M114 : Mem W102 [(one g17, W102), (Fr, w), (S106, W102)] := M113.front [(Fr, w)] rfl
                    have M115 : Mem W102 [(S106, W102), (one g17, W102), (Fr, w)] := M114.front [(one g17, W102), (Fr, w)] rfl
                    exact ⟨k54, by omega, x38, x39, x40, wrap64 (x41 + (wrap64 (1 + r90.2))), r100.2, A104, c105, S106, ad109, _, updL_same _ _ ⟨rfl, rfl, rfl, rfl, rfl, rfl, rfl, trivial⟩, M115, ho107.map (fun _ _ h => h), had110, B108, (by omega), H53⟩
                · replace H53 := ifN c86 H53
                  refine WC_skip ?_
                  refine thenN ?_
                  refine WC_seq ?_
                  refine WC_region ?_
                  refine WL_of (L_move rfl rfl (.string (sv a0)) rfl ?_)
                  refine WL_of (L_move rfl rfl (.int .i64 x41) rfl ?_)
                  obtain ⟨q116, hq117, H53⟩ := bindS H53
                  refine WL_of (L_sslice rfl rfl Tryd.underlying9 a0 rfl x41 (List.length a0 : Int) .i64 .i64 (.inl rfl) (.inr ⟨rfl, rfl⟩) q116 hq117 ?_)
                  obtain ⟨r119, hr120, H53⟩ := bindS H53
                  refine WL_of (L_call' rfl rfl cf48 [.string (sv q116)] rfl (unicode_utf8_DecodeRuneInString_ok q116 r119 _ (Un [(S45, W50), (one g17, W50), (Fr, w)]) (hG.call M51 2 rfl) M51.frame  hr120) ?_)
                  rintro _ W121 ⟨rfl, M122⟩
                  have M123 : Mem W121 [(S45, W50), (one g17, W50), (Fr, w)] := M51.back (New := []) M122
                  refine WL_of (L_move rfl rfl (.tuple #[.int .i32 r119.1, .int .i64 r119.2]) rfl ?_)
                  refine WL_of (L_extract rfl rfl [.int .i32 r119.1, .int .i64 r119.2] rfl (.int .i32 r119.1) rfl ?_)
                  refine WL_of (L_extract rfl rfl [.int .i32 r119.1, .int .i64 r119.2] rfl (.int .i64 r119.2) rfl ?_)
                  refine WL_of (L_assign rfl rfl (.int .i32 r119.1) rfl ?_)
                  refine WL_of (L_assign rfl rfl (.int .i64 r119.2) rfl ?_)
                  refine WL_nil ?_
                  refine thenN ?_
                  refine WC_seq ?_
                  obtain ⟨z124, hz125, H53⟩ := bindS H53
                  refine WC_cut (fun ρ w_ => ∃  (ρ0 : Nat → Value), ρ = updL ρ0 [(0, .string (sv a0)), (1, .int .i64 a1), (4, .string (sv x38)), (5, .int .i64 x39), (6, .int .i64 x40), (7, .pointer (some ⟨g17, 0, none⟩)), (8, .int .i64 x41), (12, .int .i64 r119.2), (86, .bool z124)] ∧ Mem w_ [(S45, W50), (one g17, W50), (Fr, w)]) ?_ ?_
                  · refine WC_region ?_
                    refine WL_of (L_move rfl rfl (.int .i32 r119.1) rfl ?_)
                    refine WL_of (L_bin rfl rfl (.int .i32 r119.1) (.int .i32 65533) rfl rfl (.bool (decide ((r119.1 : Int) = 65533))) (B_eql _ _ _ _ r119.1 65533) ?_)
                    refine WL_of (L_move rfl rfl (.bool (decide ((r119.1 : Int) = 65533))) rfl ?_)
                    by_cases c126 : (r119.1 : Int) = 65533
                    · replace hz125 := ifP c126 hz125
                      refine WL_known 71 true (vtrue c126) ?_
                      refine WL_of (L_move rfl rfl (.int .i64 r119.2) rfl ?_)
                      refine WL_of (L_bin rfl rfl (.int .i64 r119.2) (.int .i64 1) rfl rfl (.bool (decide ((r119.2 : Int) = 1))) (B_eql _ _ _ _ r119.2 1) ?_)
                      refine WL_of (L_pick rfl rfl true rfl (.bool (decide ((r119.2 : Int) = 1))) rfl ?_)
                      refine WL_of (L_move rfl rfl (.bool (decide ((r119.2 : Int) = 1))) rfl ?_)
                      by_cases c127 : (r119.2 : Int) = 1
                      · replace hz125 := ifP c127 hz125
                        refine WL_known 75 true (vtrue c127) ?_
                        refine WL_of (WO_off rfl rfl ?_)
                        refine WL_of (WO_off rfl rfl ?_)
                        refine WL_of (L_pick rfl rfl true rfl (.bool true) rfl ?_)
                        refine WL_of (L_move rfl rfl (.bool true) rfl ?_)
                        refine WL_of (WO_off rfl rfl ?_)
                        refine WL_of (WO_off rfl rfl ?_)
                        refine WL_of (L_pick rfl rfl true rfl (.bool true) rfl ?_)
                        refine WL_of (L_move rfl rfl (.bool true) rfl ?_)
                        refine WL_of (WO_off rfl rfl ?_)
                        refine WL_of (WO_off rfl rfl ?_)
                        refine WL_of (L_pick rfl rfl true rfl (.bool true) rfl ?_)
                        refine WL_nil ?_
                        refine thenN ?_
                        obtain rfl := someE hz125
                        exact ⟨_, updL_same _ _ ⟨rfl, rfl, rfl, rfl, rfl, rfl, rfl, rfl, rfl, trivial⟩, M123⟩
                      · replace hz125 := ifN c127 hz125
                        refine WL_known 75 false (vfalse c127) ?_
                        refine WL_of (L_move rfl rfl (.int .i32 r119.1) rfl ?_)
                        refine WL_of (L_bin rfl rfl (.int .i32 r119.1) (.int .i32 32) rfl rfl (.bool (decide ((r119.1 : Int) < 32))) (B_lss _ _ _ _ r119.1 32) ?_)
                        refine WL_of (L_pick rfl rfl false rfl (.bool (decide ((r119.1 : Int) < 32))) rfl ?_)
                        refine WL_of (L_move rfl rfl (.bool (decide ((r119.1 : Int) < 32))) rfl ?_)
                        by_cases c128 : (r119.1 : Int) < 32
                        · replace hz125 := ifP c128 hz125
                          refine WL_known 79 true (vtrue c128) ?_
                          refine WL_of (WO_off rfl rfl ?_)
                          refine WL_of (WO_off rfl rfl ?_)
                          refine WL_of (L_pick rfl rfl true rfl (.bool true) rfl ?_)
                          refine WL_of (L_move rfl rfl (.bool true) rfl ?_)
                          refine WL_of (WO_off rfl rfl ?_)
                          refine WL_of (WO_off rfl rfl ?_)
                          refine WL_of (L_pick rfl rfl true rfl (.bool true) rfl ?_)
                          refine WL_nil ?_
                          refine thenN ?_
                          obtain rfl := someE hz125
                          exact ⟨_, updL_same _ _ ⟨rfl, rfl, rfl, rfl, rfl, rfl, rfl, rfl, rfl, trivial⟩, M123⟩
                        · replace hz125 := ifN c128 hz125
                          refine WL_known 79 false (vfalse c128) ?_
                          refine WL_of (L_move rfl rfl (.int .i32 r119.1) rfl ?_)
                          refine WL_of (L_bin rfl rfl (.int .i32 r119.1) (.int .i32 127) rfl rfl (.bool (decide ((r119.1 : Int) = 127))) (B_eql _ _ _ _ r119.1 127) ?_)
                          refine WL_of (L_pick rfl rfl false rfl (.bool (decide ((r119.1 : Int) = 127))) rfl ?_)
                          refine WL_of (L_move rfl rfl (.bool (decide ((r119.1 : Int) = 127))) rfl ?_)
                          by_cases c129 : (r119.1 : Int) = 127
                          · replace hz125 := ifP c129 hz125
                            refine WL_known 83 true (vtrue c129) ?_
                            refine WL_of (WO_off rfl rfl ?_)
                            refine WL_of (WO_off rfl rfl ?_)
                            refine WL_of (L_pick rfl rfl true rfl (.bool true) rfl ?_)
                            refine WL_nil ?_
                            refine thenN ?_
                            obtain rfl := someE hz125
                            exact ⟨_, updL_same _ _ ⟨rfl, rfl, rfl, rfl, rfl, rfl, rfl, rfl, rfl, trivial⟩, M123⟩
                          · replace hz125 := ifN c129 hz125
                            refine WL_known 83 false (vfalse c129) ?_
                            refine WL_of (L_move rfl rfl (.int .i32 r119.1) rfl ?_)
                            obtain ⟨r131, hr132, hz125⟩ := bindS hz125
                            refine WL_of (L_call' rfl rfl cf59 [.int .i32 r119.1] rfl (text_hidden_ok r119.1 r131 _ (Un [(S45, W50), (one g17, W50), (Fr, w)]) (hG.call M123 2 rfl) M123.frame  hr132) ?_)
                            rintro _ W133 ⟨rfl, M134⟩
                            have M135 : Mem W133 [(S45, W50), (one g17, W50), (Fr, w)] := M123.back (New := []) M134
                            refine WL_of (L_pick rfl rfl false rfl (.bool r131) rfl ?_)
                            refine WL_nil ?_
                            refine thenN ?_
                            obtain rfl := someE hz125
                            exact ⟨_, updL_same _ _ ⟨rfl, rfl, rfl, rfl, rfl, rfl, rfl, rfl, rfl, trivial⟩, M135⟩
                    · replace hz125 := ifN c126 hz125
                      refine WL_known 71 false (vfalse c126) ?_
                      refine WL_of (WO_off rfl rfl ?_)
                      refine WL_of (WO_off rfl rfl ?_)
                      refine WL_of (L_pick rfl rfl false rfl (.bool false) rfl ?_)
                      refine WL_of (L_move rfl rfl (.bool false) rfl ?_)
                      refine WL_of (L_move rfl rfl (.int .i32 r119.1) rfl ?_)
                      refine WL_of (L_bin rfl rfl (.int .i32 r119.1) (.int .i32 32) rfl rfl (.bool (decide ((r119.1 : Int) < 32))) (B_lss _ _ _ _ r119.1 32) ?_)
                      refine WL_of (L_pick rfl rfl false rfl (.bool (decide ((r119.1 : Int) < 32))) rfl ?_)
                      refine WL_of (L_move rfl rfl (.bool (decide ((r119.1 : Int) < 32))) rfl ?_)
                      by_cases c136 : (r119.1 : Int) < 32
                      · replace hz125 := ifP c136 hz125
                        refine WL_known 79 true (vtrue c136) ?_
                        refine WL_of (WO_off rfl rfl ?_)
                        refine WL_of (WO_off rfl rfl ?_)
                        refine WL_of (L_pick rfl rfl true rfl (.bool true) rfl ?_)
                        refine WL_of (L_move rfl rfl (.bool true) rfl ?_)
                        refine WL_of (WO_off rfl rfl ?_)
                        refine WL_of (WO_off rfl rfl ?_)
                        refine WL_of (L_pick rfl rfl true rfl (.bool true) rfl ?_)
                        refine WL_nil ?_
                        refine thenN ?_
                        obtain rfl := someE hz125
                        exact ⟨_, updL_same _ _ ⟨rfl, rfl, rfl, rfl, rfl, rfl, rfl, rfl, rfl, trivial⟩, M123⟩
                      · replace hz125 := ifN c136 hz125
                        refine WL_known 79 false (vfalse c136) ?_
                        refine WL_of (L_move rfl rfl (.int .i32 r119.1) rfl ?_)
                        refine WL_of (L_bin rfl rfl (.int .i32 r119.1) (.int .i32 127) rfl rfl (.bool (decide ((r119.1 : Int) = 127))) (B_eql _ _ _ _ r119.1 127) ?_)
                        refine WL_of (L_pick rfl rfl false rfl (.bool (decide ((r119.1 : Int) = 127))) rfl ?_)
                        refine WL_of (L_move rfl rfl (.bool (decide ((r119.1 : Int) = 127))) rfl ?_)
                        by_cases c137 : (r119.1 : Int) = 127
                        · replace hz125 := ifP c137 hz125
                          refine WL_known 83 true (vtrue c137) ?_
                          refine WL_of (WO_off rfl rfl ?_)
                          refine WL_of (WO_off rfl rfl ?_)
                          refine WL_of (L_pick rfl rfl true rfl (.bool true) rfl ?_)
                          refine WL_nil ?_
                          refine thenN ?_
                          obtain rfl := someE hz125
                          exact ⟨_, updL_same _ _ ⟨rfl, rfl, rfl, rfl, rfl, rfl, rfl, rfl, rfl, trivial⟩, M123⟩
                        · replace hz125 := ifN c137 hz125
                          refine WL_known 83 false (vfalse c137) ?_
                          refine WL_of (L_move rfl rfl (.int .i32 r119.1) rfl ?_)
                          obtain ⟨r139, hr140, hz125⟩ := bindS hz125
                          refine WL_of (L_call' rfl rfl cf59 [.int .i32 r119.1] rfl (text_hidden_ok r119.1 r139 _ (Un [(S45, W50), (one g17, W50), (Fr, w)]) (hG.call M123 2 rfl) M123.frame  hr140) ?_)
                          rintro _ W141 ⟨rfl, M142⟩
                          have M143 : Mem W141 [(S45, W50), (one g17, W50), (Fr, w)] := M123.back (New := []) M142
                          refine WL_of (L_pick rfl rfl false rfl (.bool r139) rfl ?_)
                          refine WL_nil ?_
                          refine thenN ?_
                          obtain rfl := someE hz125
                          exact ⟨_, updL_same _ _ ⟨rfl, rfl, rfl, rfl, rfl, rfl, rfl, rfl, rfl, trivial⟩, M143⟩
                  · rintro _ W144 ⟨ρ146, rfl, M145⟩
                    refine WC_ifb rfl (fun c147 => ?_) (fun c147 => ?_)
                    · replace H53 := ifP c147 H53
                      refine WC_seq ?_
                      refine WC_region ?_
                      refine WL_of (L_assign rfl rfl (.string (sv (lit []))) rfl ?_)
                      refine WL_of (L_assign rfl rfl (.int .i64 0) rfl ?_)
                      refine WL_of (L_assign rfl rfl (.int .i64 26) rfl ?_)
                      refine WL_nil ?_
                      refine thenN ?_
                      refine WC_ret ?_
                      refine thenR ?_
                      refine blkR ?_
                      refine thenR ?_
                      refine blkR ?_
                      refine thenR ?_
                      obtain rfl := someE H53
                      have M148 : Mem W144 [(Fr, w), (S45, W50), (one g17, W50)] := M145.front [(S45, W50), (one g17, W50)] rfl
                      have M149 : Mem W144 [(Fr, w)] := M148.sub (List.prefix_append [(Fr, w)] [(S45, W50), (one g17, W50)]).sublist
                      refine retR [.string (sv (lit [])), .int .i64 0, .int .i64 26] ⟨rfl, rfl, rfl, trivial⟩ ?_
                      exact ⟨rfl, M149⟩
                    · replace H53 := ifN (by rw [c147]; simp) H53
                      refine WC_skip ?_
                      refine thenN ?_
                      refine WC_seq ?_
                      refine WC_region ?_
                      refine WL_of (L_move rfl rfl (.string (sv a0)) rfl ?_)
                      refine WL_of (L_move rfl rfl (.int .i64 x41) rfl ?_)
                      refine WL_of (L_move rfl rfl (.int .i64 x41) rfl ?_)
                      refine WL_of (L_move rfl rfl (.int .i64 r119.2) rfl ?_)
                      refine WL_of (L_bin rfl rfl (.int .i64 x41) (.int .i64 r119.2) rfl rfl (.int .i64 (wrap64 (x41 + r119.2))) (B_add _ _ _ x41 r119.2) ?_)
                      obtain ⟨q150, hq151, H53⟩ := bindS H53
                      refine WL_of (L_sslice rfl rfl Tryd.underlying9 a0 rfl x41 (wrap64 (x41 + r119.2)) .i64 .i64 (.inl rfl) (.inl rfl) q150 hq151 ?_)
                      have M152 : Mem W144 [(one g17, W50), (S45, W50), (Fr, w)] := M145.front [(S45, W50)] rfl
                      have M153 : Mem W144 [(Fr, w)] := M152.drop.drop
                      obtain ⟨r154, hr155, H53⟩ := bindS H53
                      refine WL_of (L_call' rfl rfl cf27 [.pointer (some ⟨g17, 0, none⟩), .string (sv q150)] rfl (strings_Builder_WriteString_ok x42 g17 ad47 had48 A43 c44 S45 q150 r154 _ (Un [(Fr, w)]) (hG.call M153 0 rfl) M152.lend2 ((hr46.agree (M152.agree 1 rfl)).map (fun _ _ h => h)) (B49.now (M152.agree 0 rfl)) hr155) ?_)
                      rintro _ W156 ⟨A158, c159, S160, ad163, rfl, M157, ho161, B162, had164⟩
                      have M165 : Mem W156 [(S160, W156), (one g17, W156), (Fr, w)] := M153.back (New := [(S160, W156), (one g17, W156)]) M157
                      refine WL_nil ?_
                      refine thenN ?_
                      refine WC_region ?_
                      refine WL_of (L_move rfl rfl (.int .i64 x41) rfl ?_)
                      refine WL_of (L_move rfl rfl (.int .i64 r119.2) rfl ?_)
                      refine WL_of (L_bin rfl rfl (.int .i64 x41) (.int .i64 r119.2) rfl rfl (.int .i64 (wrap64 (x41 + r119.2))) (B_add _ _ _ x41 r119.2) ?_)
                      refine WL_of (L_assign rfl rfl (.int .i64 (wrap64 (x41 + r119.2))) rfl ?_)
                      refine WL_nil ?_
                      refine blkN ?_
                      refine thenN ?_
                      have M166 : Mem W156 [(one g17, W156), (S160, W156), (Fr, w)] := M165.front [(S160, W156)] rfl
                      have M167 : Mem W156 [(Fr, w), (one g17, W156), (S160, W156)] := M166.front [(one g17, W156), (S160, W156)] rfl
                      have M168 : Mem W156 [(one g17, W156), (Fr, w), (S160, W156)] := M167.front [(Fr, w)] rfl
                      have M169 : Mem W156 [(S160, W156), (one g17, W156), (Fr, w)] := M168.front [(one g17, W156), (Fr, w)] rfl
                      exact ⟨k54, by omega, x38, x39, x40, wrap64 (x41 + r119.2), r154.2, A158, c159, S160, ad163, _, updL_same _ _ ⟨rfl, rfl, rfl, rfl, rfl, rfl, rfl, trivial⟩, M169, ho161.map (fun _ _ h => h), had164, B162, (by omega), H53⟩

/-! ### annals/text.digit: function 44 -/
def text_digit (a0 : UInt8) : Option Bool :=
  ((if (48 : UInt8) ≤ a0 then (some (decide (a0 ≤ (57 : UInt8)))) else (some false))).bind (fun (z1 : Bool) => (some z1))
set_option maxRecDepth 100000 in
set_option maxHeartbeats 4000000 in
theorem text_digit_ok (a0 : UInt8) (r : Bool) (w : World) (Fr : BS) (hG : Gl Fr w) (hF : ∀ b, Fr b → b < w.heap.size)  (H : text_digit a0 = some r) :
    CallsR Tryd.prog 44 #[.int .u8 (a0.toNat : Int)] w (fun v w' => v = .bool r ∧ Mem w' [(Fr, w)]) := by
  have M0 := Mem.start w Fr hF
  refine enterZ (args := [.int .u8 (a0.toNat : Int)]) [.tmp 2] Tryd.func44 rfl rfl rfl rfl ?_
  unfold text_digit at H
  refine WC_seq ?_
  refine WC_region ?_
  refine WL_of (L_assign rfl rfl (.bool false) rfl ?_)
  refine WL_nil ?_
  refine thenN ?_
  obtain ⟨z1, hz2, H⟩ := bindS H
  refine WC_cut (fun ρ w_ => ∃  (ρ0 : Nat → Value), ρ = updL ρ0 [(2, .bool z1)] ∧ Mem w_ [(Fr, w)]) ?_ ?_
  · refine WC_region ?_
    refine WL_of (L_move rfl rfl (.int .u8 (a0.toNat : Int)) rfl ?_)
    refine WL_of (L_bin rfl rfl (.int .u8 (a0.toNat : Int)) (.int .u8 48) rfl rfl (.bool (decide ((48 : UInt8) ≤ a0))) (B_geq8 _ _ _ a0 (48 : UInt8)) ?_)
    refine WL_of (L_move rfl rfl (.bool (decide ((48 : UInt8) ≤ a0))) rfl ?_)
    by_cases c3 : (48 : UInt8) ≤ a0
    · replace hz2 := ifP c3 hz2
      refine WL_known 5 true (vtrue c3) ?_
      refine WL_of (L_move rfl rfl (.int .u8 (a0.toNat : Int)) rfl ?_)
      refine WL_of (L_bin rfl rfl (.int .u8 (a0.toNat : Int)) (.int .u8 57) rfl rfl (.bool (decide (a0 ≤ (57 : UInt8)))) (B_leq8 _ _ _ a0 (57 : UInt8)) ?_)
      refine WL_of (L_pick rfl rfl true rfl (.bool (decide (a0 ≤ (57 : UInt8)))) rfl ?_)
      refine WL_of (L_assign rfl rfl (.bool (decide (a0 ≤ (57 : UInt8)))) rfl ?_)
      refine WL_nil ?_
      refine thenN ?_
      obtain rfl := someE hz2
      exact ⟨_, updL_same _ _ ⟨rfl, trivial⟩, M0⟩
    · replace hz2 := ifN c3 hz2
      refine WL_known 5 false (vfalse c3) ?_
      refine WL_of (WO_off rfl rfl ?_)
      refine WL_of (WO_off rfl rfl ?_)
      refine WL_of (L_pick rfl rfl false rfl (.bool false) rfl ?_)
      refine WL_of (L_assign rfl rfl (.bool false) rfl ?_)
      refine WL_nil ?_
      refine thenN ?_
      obtain rfl := someE hz2
      exact ⟨_, updL_same _ _ ⟨rfl, trivial⟩, M0⟩
  · rintro _ W4 ⟨ρ6, rfl, M5⟩
    refine WC_ret ?_
    obtain rfl := someE H
    refine retR [.bool z1] ⟨rfl, trivial⟩ ?_
    exact ⟨rfl, M5⟩

/-! ### annals/text.worth: function 61 -/
def text_worth.l0 : Nat → UInt8 → Str → Int → Bool → Int → Int → Option (Int × Bool)
  | 0, _, _, _, _, _, _ => none
  | k + 1, b1, z3, x28, x29, x30, x31 => (if (x31 : Int) < (List.length z3 : Int) then (atL z3 x31).bind (fun b39 => (if (x30 : Int) < (wrap64 (Int.tdiv (wrap64 ((-9223372036854775808) + ((b39 - (48 : UInt8)).toNat : Int))) 10)) then (some (0, false)) else (text_worth.l0 k b1 z3 x28 x29 (wrap64 ((wrap64 (x30 * 10)) - ((b39 - (48 : UInt8)).toNat : Int))) (wrap64 (x31 + 1))))) else (if b1 = (45 : UInt8) then (some (x30, true)) else (some (wrap64 (-x30), (decide (((-9223372036854775808) : Int) < x30))))))
def text_worth (k : Nat) (a0 : Str) : Option (Int × Bool) :=
  (atL a0 0).bind (fun b1 => ((if b1 = (45 : UInt8) then (subS a0 1 (List.length a0 : Int)).bind (fun q6 => (some q6)) else (some a0))).bind (fun (z3 : Str) => ((atL z3 0).bind (fun b13 => (if b13 = (48 : UInt8) then (some (decide ((1 : Int) < (List.length a0 : Int)))) else (some false)))).bind (fun (z11 : Bool) => (if z11 = true then (some (0, false)) else (text_worth.l0 k b1 z3 0 false 0 0)))))
set_option maxRecDepth 100000 in
set_option maxHeartbeats 4000000 in
theorem text_worth_ok (k : Nat) (a0 : Str) (r : Int × Bool) (w : World) (Fr : BS) (hG : Gl Fr w) (hF : ∀ b, Fr b → b < w.heap.size)  (H : text_worth k a0 = some r) :
    CallsR Tryd.prog 61 #[.string (sv a0)] w (fun v w' => v = .tuple #[.int .i64 r.1, .bool r.2] ∧ Mem w' [(Fr, w)]) := by
  have M0 := Mem.start w Fr hF
  refine enterZ (args := [.string (sv a0)]) [.tmp 2, .tmp 3] Tryd.func61 rfl rfl rfl rfl ?_
  unfold text_worth at H
  refine WC_seq ?_
  refine WC_region ?_
  refine WL_of (L_assign rfl rfl (.int .i64 0) rfl ?_)
  refine WL_of (L_assign rfl rfl (.bool false) rfl ?_)
  refine WL_nil ?_
  refine thenN ?_
  refine WC_seq ?_
  refine WC_region ?_
  refine WL_of (L_move rfl rfl (.string (sv a0)) rfl ?_)
  obtain ⟨b1, hb2, H⟩ := bindS H
  refine WL_of (L_sindex rfl rfl Tryd.underlying9 .i64 a0 0 rfl rfl b1 hb2 ?_)
  refine WL_of (L_bin rfl rfl (.int .u8 (b1.toNat : Int)) (.int .u8 45) rfl rfl (.bool (decide (b1 = (45 : UInt8)))) (B_eql8 _ _ _ b1 (45 : UInt8)) ?_)
  refine WL_of (L_assign rfl rfl (.bool (decide (b1 = (45 : UInt8)))) rfl ?_)
  refine WL_nil ?_
  refine thenN ?_
  refine WC_seq ?_
  refine WC_region ?_
  refine WL_of (L_move rfl rfl (.string (sv a0)) rfl ?_)
  refine WL_of (L_assign rfl rfl (.string (sv a0)) rfl ?_)
  refine WL_nil ?_
  refine thenN ?_
  obtain ⟨z3, hz4, H⟩ := bindS H
  refine WC_cut (fun ρ w_ => ∃  (ρ0 : Nat → Value), ρ = updL ρ0 [(0, .string (sv a0)), (2, .int .i64 0), (3, .bool false), (4, .bool (decide (b1 = (45 : UInt8)))), (5, .string (sv z3))] ∧ Mem w_ [(Fr, w)]) ?_ ?_
  · refine WC_seq ?_
    refine WC_region ?_
    refine WL_of (L_move rfl rfl (.bool (decide (b1 = (45 : UInt8)))) rfl ?_)
    refine WL_nil ?_
    refine thenN ?_
    refine WC_if (p := b1 = (45 : UInt8)) rfl (fun c5 => ?_) (fun c5 => ?_)
    · replace hz4 := ifP c5 hz4
      refine WC_region ?_
      refine WL_of (L_move rfl rfl (.string (sv a0)) rfl ?_)
      obtain ⟨q6, hq7, hz4⟩ := bindS hz4
      refine WL_of (L_sslice rfl rfl Tryd.underlying9 a0 rfl 1 (List.length a0 : Int) .i64 .i64 (.inl rfl) (.inr ⟨rfl, rfl⟩) q6 hq7 ?_)
      refine WL_of (L_assign rfl rfl (.string (sv q6)) rfl ?_)
      refine WL_nil ?_
      refine thenN ?_
      obtain rfl := someE hz4
      exact ⟨_, updL_same _ _ ⟨rfl, rfl, rfl, rfl, rfl, trivial⟩, M0⟩
    · replace hz4 := ifN c5 hz4
      refine WC_skip ?_
      refine thenN ?_
      obtain rfl := someE hz4
      exact ⟨_, updL_same _ _ ⟨rfl, rfl, rfl, rfl, rfl, trivial⟩, M0⟩
  · rintro _ W8 ⟨ρ10, rfl, M9⟩
    refine WC_seq ?_
    obtain ⟨z11, hz12, H⟩ := bindS H
    refine WC_cut (fun ρ w_ => ∃  (ρ0 : Nat → Value), ρ = updL ρ0 [(2, .int .i64 0), (3, .bool false), (4, .bool (decide (b1 = (45 : UInt8)))), (5, .string (sv z3)), (23, .bool z11)] ∧ Mem w_ [(Fr, w)]) ?_ ?_
    · refine WC_region ?_
      refine WL_of (L_move rfl rfl (.string (sv z3)) rfl ?_)
      obtain ⟨b13, hb14, hz12⟩ := bindS hz12
      refine WL_of (L_sindex rfl rfl Tryd.underlying9 .i64 z3 0 rfl rfl b13 hb14 ?_)
      refine WL_of (L_bin rfl rfl (.int .u8 (b13.toNat : Int)) (.int .u8 48) rfl rfl (.bool (decide (b13 = (48 : UInt8)))) (B_eql8 _ _ _ b13 (48 : UInt8)) ?_)
      refine WL_of (L_move rfl rfl (.bool (decide (b13 = (48 : UInt8)))) rfl ?_)
      by_cases c15 : b13 = (48 : UInt8)
      · replace hz12 := ifP c15 hz12
        refine WL_known 19 true (vtrue c15) ?_
        refine WL_of (L_move rfl rfl (.string (sv a0)) rfl ?_)
        refine WL_of (L_len rfl rfl (.string (sv a0)) rfl (List.length a0) (N_str Tryd.underlying9 a0) ?_)
        refine WL_of (L_bin rfl rfl (.int .i64 (List.length a0 : Int)) (.int .i64 1) rfl rfl (.bool (decide ((1 : Int) < (List.length a0 : Int)))) (B_gtr _ _ _ _ (List.length a0 : Int) 1) ?_)
        refine WL_of (L_pick rfl rfl true rfl (.bool (decide ((1 : Int) < (List.length a0 : Int)))) rfl ?_)
        refine WL_nil ?_
        refine thenN ?_
        obtain rfl := someE hz12
        exact ⟨_, updL_same _ _ ⟨rfl, rfl, rfl, rfl, rfl, trivial⟩, M9⟩
      · replace hz12 := ifN c15 hz12
        refine WL_known 19 false (vfalse c15) ?_
        refine WL_of (WO_off rfl rfl ?_)
        refine WL_of (WO_off rfl rfl ?_)
        refine WL_of (WO_off rfl rfl ?_)
        refine WL_of (L_pick rfl rfl false rfl (.bool false) rfl ?_)
        refine WL_nil ?_
        refine thenN ?_
        obtain rfl := someE hz12
        exact ⟨_, updL_same _ _ ⟨rfl, rfl, rfl, rfl, rfl, trivial⟩, M9⟩
    · rintro _ W16 ⟨ρ18, rfl, M17⟩
      refine WC_ifb rfl (fun c19 => ?_) (fun c19 => ?_)
      · replace H := ifP c19 H
        refine WC_seq ?_
        refine WC_region ?_
        refine WL_of (L_assign rfl rfl (.int .i64 0) rfl ?_)
        refine WL_of (L_assign rfl rfl (.bool false) rfl ?_)
        refine WL_nil ?_
        refine thenN ?_
        refine WC_ret ?_
        refine thenR ?_
        obtain rfl := someE H
        refine retR [.int .i64 0, .bool false] ⟨rfl, rfl, trivial⟩ ?_
        exact ⟨rfl, M17⟩
      · replace H := ifN (by rw [c19]; simp) H
        refine WC_skip ?_
        refine thenN ?_
        refine WC_seq ?_
        refine WC_region ?_
        refine WL_of (L_assign rfl rfl (.int .i64 0) rfl ?_)
        refine WL_nil ?_
        refine thenN ?_
        refine WC_seq ?_
        refine WC_seq ?_
        refine WC_region ?_
        refine WL_of (L_move rfl rfl (.string (sv z3)) rfl ?_)
        refine WL_of (L_len rfl rfl (.string (sv z3)) rfl (List.length z3) (N_str Tryd.underlying9 z3) ?_)
        refine WL_of (L_move rfl rfl (.int .i64 0) rfl ?_)
        refine WL_nil ?_
        refine thenN ?_
        refine WC_block ?_
        refine WC_loop (fun k36 ρ w_ => ∃ (x28 : Int) (x29 : Bool) (x30 : Int) (x31 : Int) (ρ0 : Nat → Value), ρ = updL ρ0 [(2, .int .i64 x28), (3, .bool x29), (4, .bool (decide (b1 = (45 : UInt8)))), (5, .string (sv z3)), (6, .int .i64 x30), (25, .int .i64 (List.length z3 : Int)), (26, .int .i64 x31)] ∧ Mem w_ [(Fr, w)] ∧ k36 ≤ k ∧ text_worth.l0 k36 b1 z3 x28 x29 x30 x31 = some r) k ?_ ?_
        · exact ⟨0, false, 0, 0, _, updL_same _ _ ⟨rfl, rfl, rfl, rfl, rfl, rfl, rfl, trivial⟩, M17, (Nat.le_refl _), H⟩
        · rintro k36 _ W32 ⟨x28, x29, x30, x31, ρ34, rfl, M33, hk37, H35⟩
          cases k36 with
          | zero => rw [text_worth.l0] at H35; cases H35
          | succ k36 =>
          rw [text_worth.l0] at H35
          refine WC_seq ?_
          refine WC_region ?_
          refine WL_of (L_bin rfl rfl (.int .i64 x31) (.int .i64 (List.length z3 : Int)) rfl rfl (.bool (decide ((x31 : Int) < (List.length z3 : Int)))) (B_lss _ _ _ _ x31 (List.length z3 : Int)) ?_)
          refine WL_nil ?_
          refine thenN ?_
          refine WC_seq ?_
          refine WC_if (p := (x31 : Int) < (List.length z3 : Int)) rfl (fun c38 => ?_) (fun c38 => ?_)
          · replace H35 := ifP c38 H35
            refine WC_skip ?_
            refine thenN ?_
            refine WC_seq ?_
            refine WC_block ?_
            refine WC_seq ?_
            refine WC_region ?_
            refine WL_of (L_move rfl rfl (.int .i64 x31) rfl ?_)
            refine WL_of (L_assign rfl rfl (.int .i64 x31) rfl ?_)
            refine WL_nil ?_
            refine thenN ?_
            refine WC_seq ?_
            refine WC_region ?_
            refine WL_of (L_move rfl rfl (.string (sv z3)) rfl ?_)
            refine WL_of (L_move rfl rfl (.int .i64 x31) rfl ?_)
            obtain ⟨b39, hb40, H35⟩ := bindS H35
            refine WL_of (L_sindex rfl rfl Tryd.underlying9 .i64 z3 x31 rfl rfl b39 hb40 ?_)
            refine WL_of (L_bin rfl rfl (.int .u8 (b39.toNat : Int)) (.int .u8 48) rfl rfl (.int .u8 ((b39 - (48 : UInt8)).toNat : Int)) (B_sub8 _ _ _ b39 (48 : UInt8)) ?_)
            refine WL_of (L_conv rfl rfl (.int .u8 ((b39 - (48 : UInt8)).toNat : Int)) rfl (.int .i64 ((b39 - (48 : UInt8)).toNat : Int)) (C_u8_i64 Tryd.underlying5 Tryd.underlying3 (b39 - (48 : UInt8))) ?_)
            refine WL_of (L_assign rfl rfl (.int .i64 ((b39 - (48 : UInt8)).toNat : Int)) rfl ?_)
            refine WL_nil ?_
            refine thenN ?_
            refine WC_seq ?_
            refine WC_seq ?_
            refine WC_region ?_
            refine WL_of (L_move rfl rfl (.int .i64 x30) rfl ?_)
            refine WL_of (L_move rfl rfl (.int .i64 ((b39 - (48 : UInt8)).toNat : Int)) rfl ?_)
            refine WL_of (L_bin rfl rfl (.int .i64 (-9223372036854775808)) (.int .i64 ((b39 - (48 : UInt8)).toNat : Int)) rfl rfl (.int .i64 (wrap64 ((-9223372036854775808) + ((b39 - (48 : UInt8)).toNat : Int)))) (B_add _ _ _ (-9223372036854775808) ((b39 - (48 : UInt8)).toNat : Int)) ?_)
            refine WL_of (L_bin rfl rfl (.int .i64 (wrap64 ((-9223372036854775808) + ((b39 - (48 : UInt8)).toNat : Int)))) (.int .i64 10) rfl rfl (.int .i64 (wrap64 (Int.tdiv (wrap64 ((-9223372036854775808) + ((b39 - (48 : UInt8)).toNat : Int))) 10))) (B_quo _ _ _ (wrap64 ((-9223372036854775808) + ((b39 - (48 : UInt8)).toNat : Int))) 10 (by decide)) ?_)
            refine WL_of (L_bin rfl rfl (.int .i64 x30) (.int .i64 (wrap64 (Int.tdiv (wrap64 ((-9223372036854775808) + ((b39 - (48 : UInt8)).toNat : Int))) 10))) rfl rfl (.bool (decide ((x30 : Int) < (wrap64 (Int.tdiv (wrap64 ((-9223372036854775808) + ((b39 - (48 : UInt8)).toNat : Int))) 10))))) (B_lss _ _ _ _ x30 (wrap64 (Int.tdiv (wrap64 ((-9223372036854775808) + ((b39 - (48 : UInt8)).toNat : Int))) 10))) ?_)
            refine WL_nil ?_
            refine thenN ?_
            refine WC_if (p := (x30 : Int) < (wrap64 (Int.tdiv (wrap64 ((-9223372036854775808) + ((b39 - (48 : UInt8)).toNat : Int))) 10))) rfl (fun c41 => ?_) (fun c41 => ?_)
            · replace H35 := ifP c41 H35
              refine WC_seq ?_
              refine WC_region ?_
              refine WL_of (L_assign rfl rfl (.int .i64 0) rfl ?_)
              refine WL_of (L_assign rfl rfl (.bool false) rfl ?_)
              refine WL_nil ?_
              refine thenN ?_
              refine WC_ret ?_
              refine thenR ?_
              refine blkR ?_
              refine thenR ?_
              refine thenR ?_
              refine blkR ?_
              refine thenR ?_
              obtain rfl := someE H35
              refine retR [.int .i64 0, .bool false] ⟨rfl, rfl, trivial⟩ ?_
              exact ⟨rfl, M33⟩
            · replace H35 := ifN c41 H35
              refine WC_skip ?_
              refine thenN ?_
              refine WC_region ?_
              refine WL_of (L_move rfl rfl (.int .i64 x30) rfl ?_)
              refine WL_of (L_bin rfl rfl (.int .i64 x30) (.int .i64 10) rfl rfl (.int .i64 (wrap64 (x30 * 10))) (B_mul _ _ _ x30 10) ?_)
              refine WL_of (L_move rfl rfl (.int .i64 ((b39 - (48 : UInt8)).toNat : Int)) rfl ?_)
              refine WL_of (L_bin rfl rfl (.int .i64 (wrap64 (x30 * 10))) (.int .i64 ((b39 - (48 : UInt8)).toNat : Int)) rfl rfl (.int .i64 (wrap64 ((wrap64 (x30 * 10)) - ((b39 - (48 : UInt8)).toNat : Int)))) (B_sub _ _ _ (wrap64 (x30 * 10)) ((b39 - (48 : UInt8)).toNat : Int)) ?_)
              refine WL_of (L_assign rfl rfl (.int .i64 (wrap64 ((wrap64 (x30 * 10)) - ((b39 - (48 : UInt8)).toNat : Int)))) rfl ?_)
              refine WL_nil ?_
              refine blkN ?_
              refine thenN ?_
              refine WC_region ?_
              refine WL_of (L_bin rfl rfl (.int .i64 x31) (.int .i64 1) rfl rfl (.int .i64 (wrap64 (x31 + 1))) (B_add _ _ _ x31 1) ?_)
              refine WL_of (L_move rfl rfl (.int .i64 (wrap64 (x31 + 1))) rfl ?_)
              refine WL_nil ?_
              refine thenN ?_
              exact ⟨k36, by omega, x28, x29, wrap64 ((wrap64 (x30 * 10)) - ((b39 - (48 : UInt8)).toNat : Int)), wrap64 (x31 + 1), _, updL_same _ _ ⟨rfl, rfl, rfl, rfl, rfl, rfl, rfl, trivial⟩, M33, (by omega), H35⟩
          · replace H35 := ifN c38 H35
            refine WC_exit ?_
            refine thenE ?_
            refine thenE ?_
            refine blkX ?_
            refine thenN ?_
            refine WC_seq ?_
            refine WC_seq ?_
            refine WC_region ?_
            refine WL_of (L_move rfl rfl (.bool (decide (b1 = (45 : UInt8)))) rfl ?_)
            refine WL_nil ?_
            refine thenN ?_
            refine WC_if (p := b1 = (45 : UInt8)) rfl (fun c42 => ?_) (fun c42 => ?_)
            · replace H35 := ifP c42 H35
              refine WC_seq ?_
              refine WC_region ?_
              refine WL_of (L_move rfl rfl (.int .i64 x30) rfl ?_)
              refine WL_of (L_assign rfl rfl (.int .i64 x30) rfl ?_)
              refine WL_of (L_assign rfl rfl (.bool true) rfl ?_)
              refine WL_nil ?_
              refine thenN ?_
              refine WC_ret ?_
              refine thenR ?_
              obtain rfl := someE H35
              refine retR [.int .i64 x30, .bool true] ⟨rfl, rfl, trivial⟩ ?_
              exact ⟨rfl, M33⟩
            · replace H35 := ifN c42 H35
              refine WC_skip ?_
              refine thenN ?_
              refine WC_seq ?_
              refine WC_region ?_
              refine WL_of (L_move rfl rfl (.int .i64 x30) rfl ?_)
              refine WL_of (L_neg rfl rfl x30 rfl ?_)
              refine WL_of (L_move rfl rfl (.int .i64 x30) rfl ?_)
              refine WL_of (L_bin rfl rfl (.int .i64 x30) (.int .i64 (-9223372036854775808)) rfl rfl (.bool (decide (((-9223372036854775808) : Int) < x30))) (B_gtr _ _ _ _ x30 (-9223372036854775808)) ?_)
              refine WL_of (L_assign rfl rfl (.int .i64 (wrap64 (-x30))) rfl ?_)
              refine WL_of (L_assign rfl rfl (.bool (decide (((-9223372036854775808) : Int) < x30))) rfl ?_)
              refine WL_nil ?_
              refine thenN ?_
              refine WC_ret ?_
              obtain rfl := someE H35
              refine retR [.int .i64 (wrap64 (-x30)), .bool (decide (((-9223372036854775808) : Int) < x30))] ⟨rfl, rfl, trivial⟩ ?_
              exact ⟨rfl, M33⟩

/-! ### annals/text.number: function 45 -/
def text_number.l0 : Nat → Str → Int → Option (api_Word × Int × Int × Int)
  | 0, _, _ => none
  | k + 1, a0, x7 => ((if (x7 : Int) < (List.length a0 : Int) then (atL a0 x7).bind (fun b17 => (text_digit b17).bind (fun (r20 : Bool) => (some r20))) else (some false))).bind (fun (z14 : Bool) => (if z14 = true then (text_number.l0 k a0 (wrap64 (x7 + 1))) else (subS a0 0 x7).bind (fun q29 => (text_worth k q29).bind (fun (r32 : (Int × Bool)) => (if (!r32.2) = true then (some ((⟨0, 0, (lit []), 0⟩ : api_Word), 0, 29, 0)) else (subS a0 0 x7).bind (fun q43 => (some ((⟨2, 0, q43, r32.1⟩ : api_Word), x7, 0, 0))))))))
def text_number (k : Nat) (a0 : Str) : Option (api_Word × Int × Int × Int) :=
  (text_number.l0 k a0 1)
set_option maxRecDepth 100000 in
set_option maxHeartbeats 4000000 in
theorem text_number_ok (k : Nat) (a0 : Str) (r : api_Word × Int × Int × Int) (w : World) (Fr : BS) (hG : Gl Fr w) (hF : ∀ b, Fr b → b < w.heap.size)  (H : text_number k a0 = some r) :
    CallsR Tryd.prog 45 #[.string (sv a0)] w (fun v w' => v = .tuple #[.agg #[.int .i64 r.1.Kind, .int .i64 r.1.At, .string (sv r.1.Text), .int .i64 r.1.Num], .int .i64 r.2.1, .int .i64 r.2.2.1, .int .i64 r.2.2.2] ∧ Mem w' [(Fr, w)]) := by
  have M0 := Mem.start w Fr hF
  refine enterZ (args := [.string (sv a0)]) [.cell 2 88, .tmp 3, .tmp 4, .tmp 5] Tryd.func45 rfl rfl rfl rfl ?_
  unfold text_number at H
  refine WC_seq ?_
  refine WC_region ?_
  refine WL_of (L_alloc M0 rfl rfl zr88 [.int .i64 0, .int .i64 0, .string (sv (lit [])), .int .i64 0] rfl ?_)
  intro g1 W2 B3 M4
  refine WL_of (L_assign rfl rfl (.int .i64 0) rfl ?_)
  refine WL_of (L_assign rfl rfl (.int .i64 0) rfl ?_)
  refine WL_of (L_assign rfl rfl (.int .i64 0) rfl ?_)
  refine WL_nil ?_
  refine thenN ?_
  refine WC_seq ?_
  refine WC_region ?_
  refine WL_of (L_assign rfl rfl (.int .i64 1) rfl ?_)
  refine WL_nil ?_
  refine thenN ?_
  refine WC_seq ?_
  refine WC_block ?_
  refine WC_loop (fun k12 ρ w_ => ∃ (x7 : Int) (ρ0 : Nat → Value), ρ = updL ρ0 [(0, .string (sv a0)), (2, .pointer (some ⟨g1, 0, none⟩)), (3, .int .i64 0), (4, .int .i64 0), (5, .int .i64 0), (6, .int .i64 x7)] ∧ Mem w_ [(one g1, W2), (Fr, w)] ∧ k12 ≤ k ∧ text_number.l0 k12 a0 x7 = some r) k ?_ ?_
  · exact ⟨1, _, updL_same _ _ ⟨rfl, rfl, rfl, rfl, rfl, rfl, trivial⟩, M4, (Nat.le_refl _), H⟩
  · rintro k12 _ W8 ⟨x7, ρ10, rfl, M9, hk13, H11⟩
    cases k12 with
    | zero => rw [text_number.l0] at H11; cases H11
    | succ k12 =>
    rw [text_number.l0] at H11
    refine WC_seq ?_
    obtain ⟨z14, hz15, H11⟩ := bindS H11
    refine WC_cut (fun ρ w_ => ∃  (ρ0 : Nat → Value), ρ = updL ρ0 [(0, .string (sv a0)), (2, .pointer (some ⟨g1, 0, none⟩)), (3, .int .i64 0), (4, .int .i64 0), (5, .int .i64 0), (6, .int .i64 x7), (18, .bool z14)] ∧ Mem w_ [(one g1, W2), (Fr, w)]) ?_ ?_
    · refine WC_region ?_
      refine WL_of (L_move rfl rfl (.int .i64 x7) rfl ?_)
      refine WL_of (L_move rfl rfl (.string (sv a0)) rfl ?_)
      refine WL_of (L_len rfl rfl (.string (sv a0)) rfl (List.length a0) (N_str Tryd.underlying9 a0) ?_)
      refine WL_of (L_bin rfl rfl (.int .i64 x7) (.int .i64 (List.length a0 : Int)) rfl rfl (.bool (decide ((x7 : Int) < (List.length a0 : Int)))) (B_lss _ _ _ _ x7 (List.length a0 : Int)) ?_)
      refine WL_of (L_move rfl rfl (.bool (decide ((x7 : Int) < (List.length a0 : Int)))) rfl ?_)
      by_cases c16 : (x7 : Int) < (List.length a0 : Int)
      · replace hz15 := ifP c16 hz15
        refine WL_known 13 true (vtrue c16) ?_
        refine WL_of (L_move rfl rfl (.string (sv a0)) rfl ?_)
        refine WL_of (L_move rfl rfl (.int .i64 x7) rfl ?_)
        obtain ⟨b17, hb18, hz15⟩ := bindS hz15
        refine WL_of (L_sindex rfl rfl Tryd.underlying9 .i64 a0 x7 rfl rfl b17 hb18 ?_)
        obtain ⟨r20, hr21, hz15⟩ := bindS hz15
        refine WL_of (L_call' rfl rfl cf44 [.int .u8 (b17.toNat : Int)] rfl (text_digit_ok b17 r20 _ (Un [(one g1, W2), (Fr, w)]) (hG.call M9 1 rfl) M9.frame  hr21) ?_)
        rintro _ W22 ⟨rfl, M23⟩
        have M24 : Mem W22 [(one g1, W2), (Fr, w)] := M9.back (New := []) M23
        refine WL_of (L_pick rfl rfl true rfl (.bool r20) rfl ?_)
        refine WL_nil ?_
        refine thenN ?_
        obtain rfl := someE hz15
        exact ⟨_, updL_same _ _ ⟨rfl, rfl, rfl, rfl, rfl, rfl, rfl, trivial⟩, M24⟩
      · replace hz15 := ifN c16 hz15
        refine WL_known 13 false (vfalse c16) ?_
        refine WL_of (WO_off rfl rfl ?_)
        refine WL_of (WO_off rfl rfl ?_)
        refine WL_of (WO_off rfl rfl ?_)
        refine WL_of (WO_off rfl rfl ?_)
        refine WL_of (L_pick rfl rfl false rfl (.bool false) rfl ?_)
        refine WL_nil ?_
        refine thenN ?_
        obtain rfl := someE hz15
        exact ⟨_, updL_same _ _ ⟨rfl, rfl, rfl, rfl, rfl, rfl, rfl, trivial⟩, M9⟩
    · rintro _ W25 ⟨ρ27, rfl, M26⟩
      refine WC_ifb rfl (fun c28 => ?_) (fun c28 => ?_)
      · replace H11 := ifP c28 H11
        refine WC_skip ?_
        refine thenN ?_
        refine WC_block ?_
        refine WC_region ?_
        refine WL_of (L_move rfl rfl (.int .i64 x7) rfl ?_)
        refine WL_of (L_bin rfl rfl (.int .i64 x7) (.int .i64 1) rfl rfl (.int .i64 (wrap64 (x7 + 1))) (B_add _ _ _ x7 1) ?_)
        refine WL_of (L_assign rfl rfl (.int .i64 (wrap64 (x7 + 1))) rfl ?_)
        refine WL_nil ?_
        refine blkN ?_
        refine thenN ?_
        exact ⟨k12, by omega, wrap64 (x7 + 1), _, updL_same _ _ ⟨rfl, rfl, rfl, rfl, rfl, rfl, trivial⟩, M26, (by omega), H11⟩
      · replace H11 := ifN (by rw [c28]; simp) H11
        refine WC_exit ?_
        refine thenE ?_
        refine thenE ?_
        refine blkX ?_
        refine thenN ?_
        refine WC_seq ?_
        refine WC_region ?_
        refine WL_of (L_move rfl rfl (.string (sv a0)) rfl ?_)
        refine WL_of (L_move rfl rfl (.int .i64 x7) rfl ?_)
        obtain ⟨q29, hq30, H11⟩ := bindS H11
        refine WL_of (L_sslice rfl rfl Tryd.underlying9 a0 rfl 0 x7 .i64 .i64 (.inr ⟨rfl, rfl⟩) (.inl rfl) q29 hq30 ?_)
        obtain ⟨r32, hr33, H11⟩ := bindS H11
        refine WL_of (L_call' rfl rfl cf61 [.string (sv q29)] rfl (text_worth_ok k12 q29 r32 _ (Un [(one g1, W2), (Fr, w)]) (hG.call M26 1 rfl) M26.frame  hr33) ?_)
        rintro _ W34 ⟨rfl, M35⟩
        have M36 : Mem W34 [(one g1, W2), (Fr, w)] := M26.back (New := []) M35
        refine WL_of (L_move rfl rfl (.tuple #[.int .i64 r32.1, .bool r32.2]) rfl ?_)
        refine WL_of (L_extract rfl rfl [.int .i64 r32.1, .bool r32.2] rfl (.int .i64 r32.1) rfl ?_)
        refine WL_of (L_extract rfl rfl [.int .i64 r32.1, .bool r32.2] rfl (.bool r32.2) rfl ?_)
        refine WL_of (L_assign rfl rfl (.int .i64 r32.1) rfl ?_)
        refine WL_of (L_assign rfl rfl (.bool r32.2) rfl ?_)
        refine WL_nil ?_
        refine thenN ?_
        refine WC_seq ?_
        refine WC_seq ?_
        refine WC_region ?_
        refine WL_of (L_move rfl rfl (.bool r32.2) rfl ?_)
        refine WL_of (L_not rfl rfl r32.2 rfl ?_)
        refine WL_nil ?_
        refine thenN ?_
        refine WC_ifb rfl (fun c37 => ?_) (fun c37 => ?_)
        · replace H11 := ifP c37 H11
          refine WC_seq ?_
          refine WC_region ?_
          refine WL_of (L_build' rfl rfl [] rfl Tryd.underlying88 zr88 pl88 [.int .i64 0, .int .i64 0, .string (sv (lit [])), .int .i64 0] rfl ?_)
          refine WL_of (L_store M36 rfl (.agg #[.int .i64 0, .int .i64 0, .string (sv (lit [])), .int .i64 0]) rfl [.int .i64 0, .int .i64 0, .string (sv (lit [])), .int .i64 0] rfl 4 sz88 rfl rfl rfl B3 rfl rfl [.int .i64 0, .int .i64 0, .string (sv (lit [])), .int .i64 0] rfl ?_)
          intro W38 B39 M40
          refine WL_of (L_assign rfl rfl (.int .i64 0) rfl ?_)
          refine WL_of (L_assign rfl rfl (.int .i64 29) rfl ?_)
          refine WL_of (L_assign rfl rfl (.int .i64 0) rfl ?_)
          refine WL_nil ?_
          refine thenN ?_
          refine WC_ret ?_
          refine thenR ?_
          obtain rfl := someE H11
          have M41 : Mem W38 [(Fr, w), (one g1, W38)] := M40.front [(one g1, W38)] rfl
          have M42 : Mem W38 [(Fr, w)] := M41.sub (List.prefix_append [(Fr, w)] [(one g1, W38)]).sublist
          refine retR [.agg #[.int .i64 0, .int .i64 0, .string (sv (lit [])), .int .i64 0], .int .i64 0, .int .i64 29, .int .i64 0] ⟨⟨_, rfl, R_loadVarN Tryd.underlying88 rfl B39.el (M40.agree 0 rfl) sz88 rfl⟩, rfl, rfl, rfl, trivial⟩ ?_
          exact ⟨rfl, M42⟩
        · replace H11 := ifN (by rw [c37]; simp) H11
          refine WC_skip ?_
          refine thenN ?_
          refine WC_seq ?_
          refine WC_region ?_
          refine WL_of (L_move rfl rfl (.string (sv a0)) rfl ?_)
          refine WL_of (L_move rfl rfl (.int .i64 x7) rfl ?_)
          obtain ⟨q43, hq44, H11⟩ := bindS H11
          refine WL_of (L_sslice rfl rfl Tryd.underlying9 a0 rfl 0 x7 .i64 .i64 (.inr ⟨rfl, rfl⟩) (.inl rfl) q43 hq44 ?_)
          refine WL_of (L_move rfl rfl (.int .i64 r32.1) rfl ?_)
          refine WL_of (L_build' rfl rfl [(0, .int .i64 2), (2, .string (sv q43)), (3, .int .i64 r32.1)] rfl Tryd.underlying88 zr88 pl88 [.int .i64 2, .int .i64 0, .string (sv q43), .int .i64 r32.1] rfl ?_)
          refine WL_of (L_move rfl rfl (.int .i64 x7) rfl ?_)
          refine WL_of (L_store M36 rfl (.agg #[.int .i64 2, .int .i64 0, .string (sv q43), .int .i64 r32.1]) rfl [.int .i64 2, .int .i64 0, .string (sv q43), .int .i64 r32.1] rfl 4 sz88 rfl rfl rfl B3 rfl rfl [.int .i64 2, .int .i64 0, .string (sv q43), .int .i64 r32.1] rfl ?_)
          intro W45 B46 M47
          refine WL_of (L_assign rfl rfl (.int .i64 x7) rfl ?_)
          refine WL_of (L_assign rfl rfl (.int .i64 0) rfl ?_)
          refine WL_of (L_assign rfl rfl (.int .i64 0) rfl ?_)
          refine WL_nil ?_
          refine thenN ?_
          refine WC_ret ?_
          obtain rfl := someE H11
          have M48 : Mem W45 [(Fr, w), (one g1, W45)] := M47.front [(one g1, W45)] rfl
          have M49 : Mem W45 [(Fr, w)] := M48.sub (List.prefix_append [(Fr, w)] [(one g1, W45)]).sublist
          refine retR [.agg #[.int .i64 2, .int .i64 0, .string (sv q43), .int .i64 r32.1], .int .i64 x7, .int .i64 0, .int .i64 0] ⟨⟨_, rfl, R_loadVarN Tryd.underlying88 rfl B46.el (M47.agree 0 rfl) sz88 rfl⟩, rfl, rfl, rfl, trivial⟩ ?_
          exact ⟨rfl, M49⟩


end Go.Z
