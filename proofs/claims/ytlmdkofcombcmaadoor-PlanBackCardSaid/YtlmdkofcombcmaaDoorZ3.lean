/- A part of an own library for walks over a Go program's form: no statement of the claim's own, no conditions. -/
import Derived.Test.YtlmdkofcombcmaaDoorZ2
import Derived.WideShapes
namespace Go.Z
open Go
open Go.RowKit (wrap32 wrap64)

/-! ## 3. Strings as lists of bytes -/
def sv (l : List UInt8) : ByteArray := ⟨l.toArray⟩
theorem sv_size (l : List UInt8) : (sv l).size = l.length := by simp [sv, ByteArray.size]
theorem sv_toList (l : List UInt8) : (sv l).toList = l := by rw [ByteArray.toList_eq]; simp [sv]
theorem sv_inj {a b : List UInt8} (h : sv a = sv b) : a = b := by rw [← sv_toList a, h, sv_toList]
theorem sv_append (a b : List UInt8) : sv a ++ sv b = sv (a ++ b) := by
  apply Go.WideShapes.bytes_inj; simp [sv]
theorem sv_of (s : ByteArray) : s = sv s.data.toList := by cases s; simp [sv]
theorem sv_get (l : List UInt8) (i : Nat) : (sv l)[i]? = l[i]? := by
  by_cases h : i < l.length
  · have h2 : i < (sv l).size := by rw [sv_size]; exact h
    rw [getElem?_pos (sv l) i h2, List.getElem?_eq_getElem h]
    simp [sv, ByteArray.getElem_eq_getElem_data]
  · have h2 : ¬ i < (sv l).size := by rw [sv_size]; exact h
    rw [getElem?_neg (sv l) i h2, List.getElem?_eq_none (by omega)]
theorem sv_extract (l : List UInt8) (a b : Nat) : (sv l).extract a b = sv ((l.take b).drop a) := by
  apply Go.WideShapes.bytes_inj
  simp [sv, ByteArray.data_extract, List.drop_take]

/-- What stands at a place: of bytes, of elements. -/
def atL {α : Type} (l : List α) (i : Int) : Option α := if 0 ≤ i then l[i.toNat]? else none
/-- A part, from lo up to hi. -/
def subL {α : Type} (l : List α) (lo hi : Int) : Option (List α) := if 0 ≤ lo ∧ lo ≤ hi ∧ hi ≤ (l.length : Int) then some ((l.take hi.toNat).drop lo.toNat) else none
theorem bindS {α β : Type} {o : Option α} {f : α → Option β} {r : β} (h : o.bind f = some r) : ∃ x, o = some x ∧ f x = some r := by
  cases o with
  | none => cases h
  | some x => exact ⟨x, rfl, h⟩
theorem ifP {α : Type} {p : Prop} [Decidable p] {a b : Option α} {r : α} (c : p) (h : (if p then a else b) = some r) : a = some r := by rwa [if_pos c] at h
theorem ifN {α : Type} {p : Prop} [Decidable p] {a b : Option α} {r : α} (c : ¬ p) (h : (if p then a else b) = some r) : b = some r := by rwa [if_neg c] at h
theorem noneS {α : Type} {r : α} {C : Prop} (h : (none : Option α) = some r) : C := by cases h
theorem someS {α : Type} {a r : α} (h : some a = some r) : r = a := (Option.some.inj h).symm
theorem atL_spec {α : Type} {l : List α} {i : Int} {x : α} (h : atL l i = some x) : 0 ≤ i ∧ i < l.length ∧ l[i.toNat]? = some x := by
  unfold atL at h
  split at h
  · rename_i h0
    have := (List.getElem?_eq_some_iff.1 h).1
    exact ⟨h0, by omega, h⟩
  · cases h
theorem subL_spec {α : Type} {l : List α} {lo hi : Int} {x : List α} (h : subL l lo hi = some x) : 0 ≤ lo ∧ lo ≤ hi ∧ hi ≤ l.length ∧ x = (l.take hi.toNat).drop lo.toNat := by
  unfold subL at h
  split at h
  · rename_i h0; exact ⟨h0.1, h0.2.1, h0.2.2, (Option.some.inj h).symm⟩
  · cases h

section
variable {P : Program} {N : Nat} {Q : Post} {ρ : Nat → Value} {w : World} {ops : Array Oper} {K : (Nat → Value) → World → Prop} {d : Nat} {ty : TypeId} {pos : String} {af : Array Edge} {g : Option (Nat × Bool)}

theorem dst_ok {d N : Nat} (h : Nat.ble (d + 1) N = true) : (some d : Option Nat).all (· < N) = true := by
  have : d < N := Nat.le_of_ble_eq_true h
  simpa using this

theorem L_assign {x : Operand} (hg : wantedZ ops ⟨some d, .assign x, ty, pos, af, g⟩ ρ = true) (hd : Nat.ble (d + 1) N = true) (v : Value) (hx : ev ρ x = v)
    (h : K (upd ρ d v) w) : WO P N ops Q ⟨some d, .assign x, ty, pos, af, g⟩ K ρ w :=
  WO_val hg (dst_ok hd) (by rw [← hx]; rfl) h
theorem L_move {x : Operand} (hg : wantedZ ops ⟨some d, .move x, ty, pos, af, g⟩ ρ = true) (hd : Nat.ble (d + 1) N = true) (v : Value) (hx : ev ρ x = v)
    (h : K (upd ρ d v) w) : WO P N ops Q ⟨some d, .move x, ty, pos, af, g⟩ K ρ w :=
  WO_val hg (dst_ok hd) (by rw [← hx]; rfl) h
theorem L_pick {c a b : Operand} (hg : wantedZ ops ⟨some d, .pick c a b, ty, pos, af, g⟩ ρ = true) (hd : Nat.ble (d + 1) N = true) (t : Bool) (hc : ev ρ c = .bool t) (v : Value) (hx : (bif t then ev ρ a else ev ρ b) = v)
    (h : K (upd ρ d v) w) : WO P N ops Q ⟨some d, .pick c a b, ty, pos, af, g⟩ K ρ w :=
  WO_val hg (dst_ok hd) (by
    rw [← hx]
    simp only [execOp, hc, asBool]
    cases t <;> simp) h
theorem L_not {xt : TypeId} {x : Operand} (hg : wantedZ ops ⟨some d, .unOp .not xt x, ty, pos, af, g⟩ ρ = true) (hd : Nat.ble (d + 1) N = true) (b : Bool) (hx : ev ρ x = .bool b)
    (h : K (upd ρ d (.bool (!b))) w) : WO P N ops Q ⟨some d, .unOp .not xt x, ty, pos, af, g⟩ K ρ w :=
  WO_val hg (dst_ok hd) (by simp [execOp, hx, Op.unary]) h
theorem L_notp {xt : TypeId} {x : Operand} (hg : wantedZ ops ⟨some d, .unOp .not xt x, ty, pos, af, g⟩ ρ = true) (hd : Nat.ble (d + 1) N = true) (p : Prop) [Decidable p] (hx : ev ρ x = .bool (decide p))
    (h : K (upd ρ d (.bool (decide (¬ p)))) w) : WO P N ops Q ⟨some d, .unOp .not xt x, ty, pos, af, g⟩ K ρ w :=
  WO_val hg (dst_ok hd) (by simp [execOp, hx, Op.unary]) h
theorem L_neg {xt : TypeId} {x : Operand} (hg : wantedZ ops ⟨some d, .unOp .neg xt x, ty, pos, af, g⟩ ρ = true) (hd : Nat.ble (d + 1) N = true) (n : Int) (hx : ev ρ x = .int .i64 n)
    (h : K (upd ρ d (.int .i64 (wrap64 (-n)))) w) : WO P N ops Q ⟨some d, .unOp .neg xt x, ty, pos, af, g⟩ K ρ w :=
  WO_val hg (dst_ok hd) (by simp [execOp, hx, Op.unary, Op.intArith, IntWalk.i64_left]) h
theorem L_extract {x : Operand} {i : Nat} (hg : wantedZ ops ⟨some d, .extract x i, ty, pos, af, g⟩ ρ = true) (hd : Nat.ble (d + 1) N = true) (l : List Value) (hx : ev ρ x = .tuple l.toArray) (v : Value) (hv : l[i]? = some v)
    (h : K (upd ρ d v) w) : WO P N ops Q ⟨some d, .extract x i, ty, pos, af, g⟩ K ρ w :=
  WO_val hg (dst_ok hd) (by simp [execOp, hx, Instr.extract, hv]) h
theorem L_nilCheck {x : Operand} (hg : wantedZ ops ⟨some d, .nilCheck x, ty, pos, af, g⟩ ρ = true) (hd : Nat.ble (d + 1) N = true) (a : Addr) (hx : ev ρ x = .pointer (some a))
    (h : K (upd ρ d (.pointer (some a))) w) : WO P N ops Q ⟨some d, .nilCheck x, ty, pos, af, g⟩ K ρ w :=
  WO_val hg (dst_ok hd) (by simp [execOp, hx]) h

/-- A binary operation, by what it comes to. -/
def binS (op : BinOp) (xt : TypeId) (x y : Operand) (a b : Value) : Sem Value := do eqGuard op xt x y a b; binOp op xt a b
theorem L_bin {op : BinOp} {xt yt : TypeId} {x y : Operand} (hg : wantedZ ops ⟨some d, .binOp op xt x y yt, ty, pos, af, g⟩ ρ = true) (hd : Nat.ble (d + 1) N = true) (vx vy : Value) (hx : ev ρ x = vx) (hy : ev ρ y = vy) (v : Value)
    (hrun : (binS op xt x y vx vy).run P w = .ok v w)
    (h : K (upd ρ d v) w) : WO P N ops Q ⟨some d, .binOp op xt x y yt, ty, pos, af, g⟩ K ρ w :=
  WO_val hg (dst_ok hd) (by
    subst hx hy
    unfold binS at hrun
    simp only [execOp, Sem.run_bind] at hrun ⊢
    rw [hrun]
    rfl) h

section
variable (xt : TypeId) (x y : Operand)
theorem B_eql (k : IntKind) (a b : Int) : (binS .eql xt x y (.int k a) (.int k b)).run P w = .ok (.bool (decide (a = b))) w := by
  simp [binS, eqGuard, binOp, Op.intCmp]; rfl
theorem B_neq (k : IntKind) (a b : Int) : (binS .neq xt x y (.int k a) (.int k b)).run P w = .ok (.bool (decide (a ≠ b))) w := by
  simp [binS, eqGuard, binOp, Op.intCmp]; rfl
theorem B_lss (k : IntKind) (a b : Int) : (binS .lss xt x y (.int k a) (.int k b)).run P w = .ok (.bool (decide (a < b))) w := by
  simp [binS, eqGuard, binOp, Op.intCmp]
theorem B_leq (k : IntKind) (a b : Int) : (binS .leq xt x y (.int k a) (.int k b)).run P w = .ok (.bool (decide (a ≤ b))) w := by
  simp [binS, eqGuard, binOp, Op.intCmp]
theorem B_gtr (k : IntKind) (a b : Int) : (binS .gtr xt x y (.int k a) (.int k b)).run P w = .ok (.bool (decide (b < a))) w := by
  simp [binS, eqGuard, binOp, Op.intCmp]
theorem B_geq (k : IntKind) (a b : Int) : (binS .geq xt x y (.int k a) (.int k b)).run P w = .ok (.bool (decide (b ≤ a))) w := by
  simp [binS, eqGuard, binOp, Op.intCmp]
theorem B_add (a b : Int) : (binS .add xt x y (.int .i64 a) (.int .i64 b)).run P w = .ok (.int .i64 (wrap64 (a + b))) w := by
  simp [binS, eqGuard, binOp, Op.intArith, IntWalk.i64_left]
theorem B_sub (a b : Int) : (binS .sub xt x y (.int .i64 a) (.int .i64 b)).run P w = .ok (.int .i64 (wrap64 (a - b))) w := by
  simp [binS, eqGuard, binOp, Op.intArith, IntWalk.i64_left]
theorem B_mul (a b : Int) : (binS .mul xt x y (.int .i64 a) (.int .i64 b)).run P w = .ok (.int .i64 (wrap64 (a * b))) w := by
  simp [binS, eqGuard, binOp, Op.intArith, IntWalk.i64_left]
theorem B_add32 (a b : Int) : (binS .add xt x y (.int .i32 a) (.int .i32 b)).run P w = .ok (.int .i32 (wrap32 (a + b))) w := by
  simp [binS, eqGuard, binOp, Op.intArith, IntWalk.i32_left]
theorem B_sub32 (a b : Int) : (binS .sub xt x y (.int .i32 a) (.int .i32 b)).run P w = .ok (.int .i32 (wrap32 (a - b))) w := by
  simp [binS, eqGuard, binOp, Op.intArith, IntWalk.i32_left]
theorem B_quo (a b : Int) (hb : b ≠ 0) : (binS .quo xt x y (.int .i64 a) (.int .i64 b)).run P w = .ok (.int .i64 (wrap64 (a.tdiv b))) w := by
  simp [binS, eqGuard, binOp, Op.intDiv, hb, IntWalk.i64_left]
theorem B_rem (a b : Int) (hb : b ≠ 0) : (binS .rem xt x y (.int .i64 a) (.int .i64 b)).run P w = .ok (.int .i64 (a.tmod b)) w := by
  simp [binS, eqGuard, binOp, Op.intDiv, hb]
theorem equal_bool (hu : P.underlying xt = some .bool) (a b : Bool) : (Op.equal xt (.bool a) (.bool b)).run P w = .ok (a == b) w := by
  show (Op.equalIn (9999 + 1) xt (.bool a) (.bool b)).run P w = _
  unfold Op.equalIn
  simp [run_underlying hu]
theorem B_beql (hu : P.underlying xt = some .bool) (a b : Bool) : (binS .eql xt x y (.bool a) (.bool b)).run P w = .ok (.bool (decide (a = b))) w := by
  simp only [binS, eqGuard, binOp, Sem.run_bind, equal_bool xt hu]
  simp; cases a <;> cases b <;> rfl
theorem B_bneq (hu : P.underlying xt = some .bool) (a b : Bool) : (binS .neq xt x y (.bool a) (.bool b)).run P w = .ok (.bool (decide (a ≠ b))) w := by
  simp only [binS, eqGuard, binOp, Sem.run_bind, equal_bool xt hu]
  simp; cases a <;> cases b <;> rfl
theorem B_seql (a b : List UInt8) : (binS .eql xt x y (.string (sv a)) (.string (sv b))).run P w = .ok (.bool (decide (a = b))) w := by
  simp [binS, eqGuard, binOp, Op.stringOp, sv_toList]
  rw [Bool.eq_iff_iff]; simp
theorem B_sneq (a b : List UInt8) : (binS .neq xt x y (.string (sv a)) (.string (sv b))).run P w = .ok (.bool (decide (a ≠ b))) w := by
  simp [binS, eqGuard, binOp, Op.stringOp, sv_toList]
  rw [Bool.eq_iff_iff]; simp
theorem B_sgtr (a b : List UInt8) : (binS .gtr xt x y (.string (sv a)) (.string (sv b))).run P w = .ok (.bool (!(Op.bytesLess a b || a == b))) w := by
  simp [binS, eqGuard, binOp, Op.stringOp, sv_toList]
theorem B_slss (a b : List UInt8) : (binS .lss xt x y (.string (sv a)) (.string (sv b))).run P w = .ok (.bool (Op.bytesLess a b)) w := by
  simp [binS, eqGuard, binOp, Op.stringOp, sv_toList]
theorem B_sadd (a b : List UInt8) (h : (a.length : Int) + b.length ≤ 9223372036854775807) : (binS .add xt x y (.string (sv a)) (.string (sv b))).run P w = .ok (.string (sv (a ++ b))) w := by
  have : ¬ ((((sv a).size + (sv b).size : Nat) : Int) > IntKind.i64.max) := by
    rw [sv_size, sv_size]; simp [IntKind.max, IntKind.signed, IntKind.bits]; omega
  simp only [binS, eqGuard, binOp, Op.stringOp, this, if_false]
  simp [sv_append]
-- bytes
theorem B_eql8 (a b : UInt8) : (binS .eql xt x y (.int .u8 a.toNat) (.int .u8 b.toNat)).run P w = .ok (.bool (decide (a = b))) w := by
  rw [B_eql]; congr 3; simp only [Int.ofNat_inj, UInt8.toNat_inj]
theorem B_neq8 (a b : UInt8) : (binS .neq xt x y (.int .u8 a.toNat) (.int .u8 b.toNat)).run P w = .ok (.bool (decide (a ≠ b))) w := by
  rw [B_neq]; congr 3; simp only [Int.ofNat_inj, UInt8.toNat_inj, ne_eq]
theorem B_lss8 (a b : UInt8) : (binS .lss xt x y (.int .u8 a.toNat) (.int .u8 b.toNat)).run P w = .ok (.bool (decide (a < b))) w := by
  rw [B_lss]; congr 2; simp [UInt8.lt_iff_toNat_lt]
theorem B_leq8 (a b : UInt8) : (binS .leq xt x y (.int .u8 a.toNat) (.int .u8 b.toNat)).run P w = .ok (.bool (decide (a ≤ b))) w := by
  rw [B_leq]; congr 2; simp [UInt8.le_iff_toNat_le]
theorem B_gtr8 (a b : UInt8) : (binS .gtr xt x y (.int .u8 a.toNat) (.int .u8 b.toNat)).run P w = .ok (.bool (decide (b < a))) w := by
  rw [B_gtr]; congr 2; simp [UInt8.lt_iff_toNat_lt]
theorem B_geq8 (a b : UInt8) : (binS .geq xt x y (.int .u8 a.toNat) (.int .u8 b.toNat)).run P w = .ok (.bool (decide (b ≤ a))) w := by
  rw [B_geq]; congr 2; simp [UInt8.le_iff_toNat_le]
theorem B_add8 (a b : UInt8) : (binS .add xt x y (.int .u8 a.toNat) (.int .u8 b.toNat)).run P w = .ok (.int .u8 (a + b).toNat) w := by
  simp [binS, eqGuard, binOp, Op.intArith, IntKind.wrap_u8]
theorem B_sub8 (a b : UInt8) : (binS .sub xt x y (.int .u8 a.toNat) (.int .u8 b.toNat)).run P w = .ok (.int .u8 (a - b).toNat) w := by
  have := a.toNat_lt; have := b.toNat_lt; simp [binS, eqGuard, binOp, Op.intArith, IntKind.wrap_u8, UInt8.toNat_sub]; omega
end

/-! conversions -/
theorem L_conv {a b : TypeId} {x : Operand} (hg : wantedZ ops ⟨some d, .convert a b x, ty, pos, af, g⟩ ρ = true) (hd : Nat.ble (d + 1) N = true) (vx : Value) (hx : ev ρ x = vx) (v : Value) (hrun : (convert a b vx).run P w = .ok v w)
    (h : K (upd ρ d v) w) : WO P N ops Q ⟨some d, .convert a b x, ty, pos, af, g⟩ K ρ w :=
  WO_val hg (dst_ok hd) (by subst hx; simp only [execOp, Sem.run_bind]; rw [hrun]; rfl) h
theorem C_int {a b : TypeId} {da : TypeDesc} {k k' : IntKind} (ha : P.underlying a = some da) (hb : P.underlying b = some (.int k)) (n : Int) : (convert a b (.int k' n)).run P w = .ok (.int k (k.wrap n)) w := by
  simp [convert, run_underlying ha, run_underlying hb, Conv.intToInt]
theorem C_u8_i64 {a b : TypeId} {da : TypeDesc} (ha : P.underlying a = some da) (hb : P.underlying b = some (.int .i64)) (n : UInt8) : (convert a b (.int .u8 n.toNat)).run P w = .ok (.int .i64 n.toNat) w := by
  rw [C_int ha hb, IntWalk.i64_in]; have := n.toNat_lt; omega
theorem C_i64_i64 {a b : TypeId} {da : TypeDesc} (ha : P.underlying a = some da) (hb : P.underlying b = some (.int .i64)) (n : Int) : (convert a b (.int .i64 n)).run P w = .ok (.int .i64 (wrap64 n)) w := by
  rw [C_int ha hb, IntWalk.i64_left]
theorem C_i32_i64 {a b : TypeId} {da : TypeDesc} (ha : P.underlying a = some da) (hb : P.underlying b = some (.int .i64)) (n : Int) : (convert a b (.int .i32 n)).run P w = .ok (.int .i64 (wrap64 n)) w := by
  rw [C_int ha hb, IntWalk.i64_left]
theorem C_i64_i32 {a b : TypeId} {da : TypeDesc} (ha : P.underlying a = some da) (hb : P.underlying b = some (.int .i32)) (n : Int) : (convert a b (.int .i64 n)).run P w = .ok (.int .i32 (wrap32 n)) w := by
  rw [C_int ha hb, IntWalk.i32_left]
theorem C_i64_u8 {a b : TypeId} {da : TypeDesc} {k : IntKind} (ha : P.underlying a = some da) (hb : P.underlying b = some (.int .u8)) (n : Int) : (convert a b (.int k n)).run P w = .ok (.int .u8 (UInt8.ofInt n).toNat) w := by
  rw [C_int ha hb, IntKind.wrap_u8]
  congr 2
  unfold UInt8.ofInt
  simp
  omega
theorem C_u8_i32 {a b : TypeId} {da : TypeDesc} (ha : P.underlying a = some da) (hb : P.underlying b = some (.int .i32)) (n : UInt8) : (convert a b (.int .u8 n.toNat)).run P w = .ok (.int .i32 n.toNat) w := by
  rw [C_int ha hb, IntWalk.i32_in]; have := n.toNat_lt; omega

/-! indexing and cutting a string -/
theorem L_sindex {xt : TypeId} {x y : Operand} (hg : wantedZ ops ⟨some d, .index xt x y, ty, pos, af, g⟩ ρ = true) (hd : Nat.ble (d + 1) N = true) (hu : P.underlying xt = some .string) (k : IntKind) (l : List UInt8) (i : Int) (hx : ev ρ x = .string (sv l)) (hy : ev ρ y = .int k i) (c : UInt8)
    (hc : atL l i = some c) (h : K (upd ρ d (.int .u8 c.toNat)) w) : WO P N ops Q ⟨some d, .index xt x y, ty, pos, af, g⟩ K ρ w :=
  WO_val hg (dst_ok hd) (by
    obtain ⟨h0, h1, h2⟩ := atL_spec hc
    simp [execOp, hx, hy, Instr.index, asIntOf, run_underlying hu, h0, sv_get, h2]) h
theorem S_bound (k : IntKind) (i : Int) (y : Nat) (code : BoundsCode) (h0 : 0 ≤ i) (h1 : i ≤ y) : (Instr.sliceBound (.int k i) y code).run P w = .ok i.toNat w := by
  simp [Instr.sliceBound, asIntOf, h0, h1]
theorem L_sslice {xt : TypeId} {x : Operand} {lo hi : Option Operand} (hg : wantedZ ops ⟨some d, .slice xt x lo hi none, ty, pos, af, g⟩ ρ = true) (hd : Nat.ble (d + 1) N = true) (hu : P.underlying xt = some .string) (l : List UInt8) (hx : ev ρ x = .string (sv l)) (a b : Int) (k1 k2 : IntKind)
    (hlo : lo.map (ev ρ) = some (.int k1 a) ∨ lo = none ∧ a = 0) (hhi : hi.map (ev ρ) = some (.int k2 b) ∨ hi = none ∧ b = l.length) (r : List UInt8) (hr : subL l a b = some r)
    (h : K (upd ρ d (.string (sv r))) w) : WO P N ops Q ⟨some d, .slice xt x lo hi none, ty, pos, af, g⟩ K ρ w :=
  WO_val hg (dst_ok hd) (by
    obtain ⟨h0, h1, h2, rfl⟩ := subL_spec hr
    have hs : (sv l).size = l.length := sv_size l
    have e1 : (Instr.sliceBounds false (sv l).size (sv l).size (lo.map (ev ρ)) (hi.map (ev ρ)) none).run P w = .ok (a.toNat, b.toNat, (sv l).size) w := by
      unfold Instr.sliceBounds
      rcases hhi with hhi | ⟨hhi, rfl⟩
      · rw [hhi]
        rcases hlo with hlo | ⟨hlo, rfl⟩
        · rw [hlo]
          simp [S_bound k2 b l.length _ (by omega) h2, hs, S_bound k1 a b.toNat _ h0 (by omega)]
        · subst hlo
          simp [S_bound k2 b l.length _ (by omega) h2, hs]
      · subst hhi
        rcases hlo with hlo | ⟨hlo, rfl⟩
        · rw [hlo]
          simp [hs, S_bound k1 a l.length _ h0 (by omega)]
        · subst hlo
          simp [hs]
    have e2 : (Instr.sliceAt xt (.string (sv l)) (lo.map (ev ρ)) (hi.map (ev ρ)) none).run P w = .ok (.string (sv ((l.take b.toNat).drop a.toNat))) w := by
      simp only [Instr.sliceAt, Sem.run_bind, run_underlying hu, Result.andThen]
      unfold Instr.slice
      simp only [Sem.run_bind, run_underlying hu, Result.andThen]
      simp [e1, sv_extract]
    simp only [execOp, Sem.run_bind, hx]
    simp [e2]) h

/-! len -/
theorem L_len {x : Operand} {at0 : TypeId} (hg : wantedZ ops ⟨some d, .call ⟨.builtin .len, #[x], #[at0]⟩, ty, pos, af, g⟩ ρ = true) (hd : Nat.ble (d + 1) N = true) (vx : Value) (hx : ev ρ x = vx) (n : Nat) (hrun : (Builtin.len_ #[at0] ty #[vx]).run P w = .ok (.int .i64 n) w)
    (h : K (upd ρ d (.int .i64 (n : Int))) w) : WO P N ops Q ⟨some d, .call ⟨.builtin .len, #[x], #[at0]⟩, ty, pos, af, g⟩ K ρ w :=
  WO_val hg (dst_ok hd) (by subst hx; simp [execOp, resolve, invoke, builtin, hrun]) h
theorem N_str {t ty' : TypeId} (hu : P.underlying t = some .string) (l : List UInt8) : (Builtin.len_ #[t] ty' #[.string (sv l)]).run P w = .ok (.int .i64 l.length) w := by
  simp [Builtin.len_, run_underlying hu, sv_size, goInt]
theorem N_slice {t ty' e : TypeId} (hu : P.underlying t = some (.slice e)) (A : Option Addr) (n c : Nat) : (Builtin.len_ #[t] ty' #[.slice A n c]).run P w = .ok (.int .i64 n) w := by
  simp [Builtin.len_, run_underlying hu, goInt]
theorem L_min {x y : Operand} {t1 t2 : TypeId} (hg : wantedZ ops ⟨some d, .call ⟨.builtin .min, #[x, y], #[t1, t2]⟩, ty, pos, af, g⟩ ρ = true) (hd : Nat.ble (d + 1) N = true) (k : IntKind) (a b : Int) (hx : ev ρ x = .int k a) (hy : ev ρ y = .int k b)
    (h : K (upd ρ d (.int k (min a b))) w) : WO P N ops Q ⟨some d, .call ⟨.builtin .min, #[x, y], #[t1, t2]⟩, ty, pos, af, g⟩ K ρ w :=
  WO_val hg (dst_ok hd) (by simp [execOp, resolve, invoke, builtin, hx, hy, Builtin.min_, Builtin.min2]; omega) h
theorem L_max {x y : Operand} {t1 t2 : TypeId} (hg : wantedZ ops ⟨some d, .call ⟨.builtin .max, #[x, y], #[t1, t2]⟩, ty, pos, af, g⟩ ρ = true) (hd : Nat.ble (d + 1) N = true) (k : IntKind) (a b : Int) (hx : ev ρ x = .int k a) (hy : ev ρ y = .int k b)
    (h : K (upd ρ d (.int k (max a b))) w) : WO P N ops Q ⟨some d, .call ⟨.builtin .max, #[x, y], #[t1, t2]⟩, ty, pos, af, g⟩ K ρ w :=
  WO_val hg (dst_ok hd) (by simp [execOp, resolve, invoke, builtin, hx, hy, Builtin.max_, Builtin.max2]; omega) h
end
end Go.Z
