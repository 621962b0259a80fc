/- A part of an own library for walks over a Go program's form: no statement of the claim's own, no conditions. -/
import Derived.Test.YtlmdkofcombcmaaDoorZ13
import Derived.Scope
namespace Go.Z
open Go
open Go.RowKit (wrap32 wrap64)
/-! ## 16. Integers of any kind; arrays of bytes as variables -/
def andK (k : IntKind) (a b : Int) : Int := k.wrap ((BitVec.ofInt k.bits a &&& BitVec.ofInt k.bits b).toNat : Nat)
def orK (k : IntKind) (a b : Int) : Int := k.wrap ((BitVec.ofInt k.bits a ||| BitVec.ofInt k.bits b).toNat : Nat)
def shrK (k : IntKind) (a y : Int) : Int := a.fdiv (2 ^ (min y.toNat k.bits))
def shlK (k : IntKind) (a y : Int) : Int := k.wrap (a * 2 ^ (min y.toNat k.bits))
section
variable {P : Program} {w : World} (xt : TypeId) (x y : Operand) (k : IntKind)
theorem B_addK (a b : Int) : (binS .add xt x y (.int k a) (.int k b)).run P w = .ok (.int k (k.wrap (a + b))) w := by
  simp [binS, eqGuard, binOp, Op.intArith]
theorem B_subK (a b : Int) : (binS .sub xt x y (.int k a) (.int k b)).run P w = .ok (.int k (k.wrap (a - b))) w := by
  simp [binS, eqGuard, binOp, Op.intArith]
theorem B_mulK (a b : Int) : (binS .mul xt x y (.int k a) (.int k b)).run P w = .ok (.int k (k.wrap (a * b))) w := by
  simp [binS, eqGuard, binOp, Op.intArith]
theorem B_andK (a b : Int) : (binS .and xt x y (.int k a) (.int k b)).run P w = .ok (.int k (andK k a b)) w := by
  simp [binS, eqGuard, binOp, Op.intBits, andK]
theorem B_orK (a b : Int) : (binS .or xt x y (.int k a) (.int k b)).run P w = .ok (.int k (orK k a b)) w := by
  simp [binS, eqGuard, binOp, Op.intBits, orK]
theorem B_shrK (yk : IntKind) (a b : Int) (h : 0 ≤ b) : (binS .shr xt x y (.int k a) (.int yk b)).run P w = .ok (.int k (shrK k a b)) w := by
  show (Op.shift .shr k a yk b).run P w = _
  unfold Op.shift
  rw [if_neg (by omega)]
  rfl
theorem B_shlK (yk : IntKind) (a b : Int) (h : 0 ≤ b) : (binS .shl xt x y (.int k a) (.int yk b)).run P w = .ok (.int k (shlK k a b)) w := by
  show (Op.shift .shl k a yk b).run P w = _
  unfold Op.shift
  rw [if_neg (by omega)]
  rfl
end
def u8c (xs : List UInt8) : List Value := xs.map fun b => .int .u8 b.toNat
section
variable {P : Program} {N : Nat} {Q : Post} {ρ : Nat → Value} {w : World} {ops : Array Oper} {K : (Nat → Value) → World → Prop} {d : Nat} {ty : TypeId} {pos : String} {af : Array Edge} {g : Option (Nat × Bool)} {L : List Ent}
theorem L_negK {xt : TypeId} {x : Operand} {k : IntKind} (hg : wantedZ ops ⟨some d, .unOp .neg xt x, ty, pos, af, g⟩ ρ = true) (hd : Nat.ble (d + 1) N = true) (n : Int) (hx : ev ρ x = .int k n)
    (h : K (upd ρ d (.int k (k.wrap (-n)))) w) : WO P N ops Q ⟨some d, .unOp .neg xt x, ty, pos, af, g⟩ K ρ w :=
  WO_val hg (dst_ok hd) (by simp [execOp, hx, Op.unary, Op.intArith]) h
theorem C_intK {a b : TypeId} {da : TypeDesc} {k k' : IntKind} (ha : P.underlying a = some da) (hb : P.underlying b = some (.int k)) (n : Int) : (convert a b (.int k' n)).run P w = .ok (.int k (k.wrap n)) w := C_int ha hb n
theorem u8c_set (xs : List UInt8) (i : Nat) (v : UInt8) (h : i < xs.length) : splice (u8c xs) i [.int .u8 v.toNat] = u8c (xs.set i v) := by
  unfold splice u8c
  rw [← List.map_take, ← List.map_drop, List.set_eq_take_append_cons_drop, if_pos h]
  simp
theorem L_storeArr {t : TypeId} {ad x : Operand} (xs : List UInt8) (i : Int) (val : UInt8) {u : World} {gg : Nat} {T : TypeId} (M : Mem w ((one gg, u) :: L)) (hb : Bx u gg (u8c xs) T) (hg : wantedZ ops ⟨none, .store t ad x, ty, pos, af, g⟩ ρ = true) (hs : szIs P t 1)
    (hA : ev ρ ad = .pointer (some ((⟨gg, 0, none⟩ : Addr).add (i.toNat * 1)))) (hx : ev ρ x = .int .u8 val.toNat) (hi : i.toNat < xs.length)
    (h : ∀ w', Bx w' gg (u8c (xs.set i.toNat val)) T → Mem w' ((one gg, w') :: L) → K ρ w') : WO P N ops Q ⟨none, .store t ad x, ty, pos, af, g⟩ K ρ w := by
  refine L_store M hg (.int .u8 val.toNat) hx [.int .u8 val.toNat] rfl 1 hs rfl rfl rfl hb (o := i.toNat) (by rw [hA, add_plain, Nat.mul_one]) ?_ (u8c (xs.set i.toNat val)) (u8c_set xs _ val hi) h
  refine Nat.ble_eq_true_of_le ?_
  simp only [u8c, List.length_map, List.length_cons, List.length_nil]
  omega
theorem Bx.sr {u : World} {gg : Nat} {T : TypeId} {xs : List UInt8} (hb : Bx u gg (u8c xs) T) : SR u (one gg) u none0 (some ⟨gg, 0, none⟩) xs.length xs :=
  ⟨Nat.le_refl _, fun i x hx => ⟨⟨gg, 0, none⟩, [.int .u8 x.toNat], rfl, ⟨by rw [add_block]; rfl, fun j v hv => by
    cases j with
    | succ j => simp at hv
    | zero =>
      simp at hv; subst hv
      rw [add_zero, show i * Rep.n UInt8 = i from Nat.mul_one i, add_plain]
      simp [World.cell?, show u.heap[gg]? = _ from hb, u8c, hx]⟩, rfl⟩⟩
theorem L_cutArr {t e : TypeId} {x : Operand} {lo hi : Option Operand} (xs ys : List UInt8) (hg : wantedZ ops ⟨some d, .slice t x lo hi none, ty, pos, af, g⟩ ρ = true) (hd : Nat.ble (d + 1) N = true) {n : Nat} (hu : P.underlying t = some (.array n e)) (hs : szIs P e 1) {u : World} {gg : Nat} {T : TypeId} (hb : Bx u gg (u8c xs) T) (hn : xs.length = n)
    (hx : ev ρ x = .pointer (some ⟨gg, 0, none⟩)) (a b : Int) (k1 k2 : IntKind) (hlo : lo.map (ev ρ) = some (.int k1 a) ∨ lo = none ∧ a = 0) (hhi : hi.map (ev ρ) = some (.int k2 b) ∨ hi = none ∧ b = n) (hy : subL xs a b = some ys)
    (h : ∀ A c, SR u (one gg) u none0 A c ys → K (upd ρ d (.slice A ys.length c)) w) : WO P N ops Q ⟨some d, .slice t x lo hi none, ty, pos, af, g⟩ K ρ w := by
  obtain ⟨hsr, hlen⟩ := hb.sr.cut hy
  obtain ⟨h0, h1, h2, _⟩ := subL_spec hy
  rw [hn] at hsr h2
  have e1 : (Instr.sliceBounds false n n (lo.map (ev ρ)) (hi.map (ev ρ)) none).run P w = .ok (a.toNat, b.toNat, n) w := by
    unfold Instr.sliceBounds
    rcases hhi with hhi | ⟨hhi, rfl⟩
    · rw [hhi]
      rcases hlo with hlo | ⟨hlo, rfl⟩
      · rw [hlo]
        simp [S_bound k2 b n _ (by omega) (by omega), S_bound k1 a b.toNat _ h0 (by omega)]
      · subst hlo
        simp [S_bound k2 b n _ (by omega) (by omega)]
    · subst hhi
      rcases hlo with hlo | ⟨hlo, rfl⟩
      · rw [hlo]
        simp [S_bound k1 a n _ h0 (by omega)]
      · subst hlo
        simp
  refine WO_val hg (dst_ok hd) (v := .slice (if n = a.toNat then some ⟨gg, 0, none⟩ else (some ⟨gg, 0, none⟩ : Option Addr).map (·.add (a.toNat * Rep.n UInt8))) (b.toNat - a.toNat) (n - a.toNat)) (w' := w) ?_ (by rw [hlen]; exact h _ _ hsr)
  simp only [execOp, Sem.run_bind, hx, Instr.sliceAt, run_underlying hu, Result.andThen, Instr.sureAddr, Sem.run_pure, Option.map_none, e1, R_size hs]
  by_cases hc : n = a.toNat
  · rw [if_pos hc, if_pos hc]
  · rw [if_neg hc, if_neg hc]
    rfl
end
section
variable {P : Program} {N : Nat} {Q : Post} {ρ : Nat → Value} {w : World} {ops : Array Oper} {K : (Nat → Value) → World → Prop} {d : Nat} {ty : TypeId} {pos : String} {af : Array Edge} {g : Option (Nat × Bool)}
theorem L_negL {xt : TypeId} {x : Operand} {k : IntKind} (hg : wantedZ ops ⟨some d, .unOp .neg xt x, ty, pos, af, g⟩ ρ = true) (hd : Nat.ble (d + 1) N = true) (n : Int) (hx : ev ρ x = .int k n) (m : Int) (hm : k.wrap (-n) = m)
    (h : K (upd ρ d (.int k m)) w) : WO P N ops Q ⟨some d, .unOp .neg xt x, ty, pos, af, g⟩ K ρ w := L_negK hg hd n hx (by rw [hm]; exact h)
def scopeZ (Q : Post) : Post
  | .goto _, _, _ => False
  | e, ρ, w => Q e ρ w
theorem WC_scope {c : Code} (h : WC P N c (scopeZ Q) ρ w) : WC P N (.scope c) Q ρ w := by
  intro a ha
  refine wp_scope_straight (wp_mono (h a ha) ?_)
  rintro e a' w' ⟨ρ', h1, h2⟩
  cases e with
  | goto l => exact h2.elim
  | _ => exact ⟨ρ', h1, h2⟩
theorem scopeN (h : Q .normal ρ w) : scopeZ Q .normal ρ w := h
theorem scopeE {id : Nat} (h : Q (.exit id) ρ w) : scopeZ Q (.exit id) ρ w := h
theorem scopeR (h : Q .ret ρ w) : scopeZ Q .ret ρ w := h
end
end Go.Z
