/- A part of an own library for walks over a Go program's form: no statement of the claim's own, no conditions. -/
import Derived.Test.YtlmdkofcombcmaaDoorZ10
import Derived.Below
import Derived.Sort.Grow
import Derived.Deep.Draws
namespace Go.Z
open Go
open Go.RowKit (wrap32 wrap64)
/-! ## 13. Contracts of the library's own words; arrays, parts of rows -/
theorem Mem.ofBelow {w w' : World} {Fr : BS} (hF : ∀ b, Fr b → b < w.heap.size) (h : RowKit.Below w.heap.size w w') : Mem w' [(Fr, w)] :=
  (Mem.start w Fr hF).same ⟨h.size, h.os, h.tape, h.output⟩ h.block
theorem Mem.ofGrow {w : World} {Fr : BS} (hF : ∀ b, Fr b → b < w.heap.size) (k : Nat) (os : Array Obj) : Mem (Sort.grow (w.drewN k) os) [(Fr, w)] :=
  (Mem.start w Fr hF).same ⟨by show w.heap.size ≤ (w.heap ++ os).size; simp, rfl, rfl, rfl⟩ fun b hb => by
    show (w.heap ++ os)[b]? = _
    rw [Array.getElem?_append, if_pos hb]
section
variable {P : Program} {N : Nat} {Q : Post} {ρ : Nat → Value} {w : World} {ops : Array Oper} {K : (Nat → Value) → World → Prop} {d : Nat} {ty : TypeId} {pos : String} {af : Array Edge} {g : Option (Nat × Bool)}
theorem L_indexArr {t e : TypeId} {x y : Operand} (hg : wantedZ ops ⟨some d, .indexAddr t x y, ty, pos, af, g⟩ ρ = true) (hd : Nat.ble (d + 1) N = true) {len : Nat} (hu : P.underlying t = some (.array len e)) {n : Nat} (hs : szIs P e n) {k : IntKind} {i : Int} {ad : Addr}
    (hx : ev ρ x = .pointer (some ad)) (hy : ev ρ y = .int k i) (h0 : 0 ≤ i) (h1 : i < len) (h : K (upd ρ d (.pointer (some (ad.add (i.toNat * n))))) w) : WO P N ops Q ⟨some d, .indexAddr t x y, ty, pos, af, g⟩ K ρ w :=
  WO_val hg (dst_ok hd) (by
    simp [execOp, hx, hy, Instr.indexAt, asIntOf, run_underlying hu, h0, h1, R_size hs, Instr.sureAddr]) h
theorem L_cut {α : Type} {t e : TypeId} {x : Operand} {lo hi : Option Operand} (hg : wantedZ ops ⟨some d, .slice t x lo hi none, ty, pos, af, g⟩ ρ = true) (hd : Nat.ble (d + 1) N = true) (hu : P.underlying t = some (.slice e)) {n : Nat} (hs : szIs P e n) {A : Option Addr} {xs ys : List α} {c : Nat}
    (hx : ev ρ x = .slice A xs.length c) (a b : Int) (k1 k2 : IntKind) (hlo : lo.map (ev ρ) = some (.int k1 a) ∨ lo = none ∧ a = 0) (hhi : hi.map (ev ρ) = some (.int k2 b) ∨ hi = none ∧ b = xs.length) (hy : subL xs a b = some ys) (hcap : xs.length ≤ c)
    (h : ∀ A' c', A' = (if c = a.toNat then A else A.map (·.add (a.toNat * n))) → c' = c - a.toNat → K (upd ρ d (.slice A' ys.length c')) w) : WO P N ops Q ⟨some d, .slice t x lo hi none, ty, pos, af, g⟩ K ρ w := by
  obtain ⟨h0, h1, h2, rfl⟩ := subL_spec hy
  have e1 : (Instr.sliceBounds true xs.length c (lo.map (ev ρ)) (hi.map (ev ρ)) none).run P w = .ok (a.toNat, b.toNat, c) w := by
    unfold Instr.sliceBounds
    rcases hhi with hhi | ⟨hhi, rfl⟩
    · rw [hhi]
      rcases hlo with hlo | ⟨hlo, rfl⟩
      · rw [hlo]
        simp [S_bound k2 b c _ (by omega) (by omega), S_bound k1 a b.toNat _ h0 (by omega)]
      · subst hlo
        simp [S_bound k2 b c _ (by omega) (by omega)]
    · subst hhi
      rcases hlo with hlo | ⟨hlo, rfl⟩
      · rw [hlo]
        simp [S_bound k1 a xs.length _ h0 (by omega)]
      · subst hlo
        simp
  have hl : ((xs.take b.toNat).drop a.toNat).length = b.toNat - a.toNat := by
    rw [List.length_drop, List.length_take, Nat.min_eq_left (by omega)]
  refine WO_val hg (dst_ok hd) (v := .slice (if c = a.toNat then A else A.map (·.add (a.toNat * n))) (b.toNat - a.toNat) (c - a.toNat)) (w' := w) ?_ (by rw [← hl]; exact h _ _ rfl rfl)
  have e2 : (Instr.sliceAt t (.slice A xs.length c) (lo.map (ev ρ)) (hi.map (ev ρ)) none).run P w = .ok (.slice (if c = a.toNat then A else A.map (·.add (a.toNat * n))) (b.toNat - a.toNat) (c - a.toNat)) w := by
    simp only [Instr.sliceAt, Sem.run_bind, run_underlying hu, Result.andThen]
    unfold Instr.slice
    simp only [Sem.run_bind, run_underlying hu, Result.andThen]
    simp [e1, R_size hs]
  simp only [execOp, Sem.run_bind, hx]
  simp [e2]
theorem C_str {a b : TypeId} (ha : P.underlying a = some .string) (hb : P.underlying b = some .string) (s : List UInt8) : (convert a b (.string (sv s))).run P w = .ok (.string (sv s)) w := by
  simp [convert, run_underlying ha, run_underlying hb]
theorem C_bytesNil {a b e : TypeId} (ha : P.underlying a = some (.slice e)) (he : P.underlying e = some (.int .u8)) (hb : P.underlying b = some .string) : (convert a b (.slice none 0 0)).run P w = .ok (.string (sv [])) w :=
  run_convert_bytes_nil w a e ha he 0 0 b hb
end
end Go.Z
