/- A part of an own library for walks over a Go program's form: no statement of the claim's own, no conditions. -/
import Derived.Test.YtlmdkofcombcmaaDoorZ15
import Derived.Lib.LaidU8
namespace Go.Z
open Go Go.Lib
/-! ## 18. Laid tables -/
section
variable {P : Program} {W : World} {name : String} {g : Nat} {t e : TypeId} {len : Nat} {k : IntKind}
theorem var_lt {cs : Array Value} (hg : P.globalNamed name = some g) (hv : W.var? P name = some cs) : g < W.heap.size := by
  unfold World.var? at hv
  rw [hg] at hv
  simp only [Option.bind_some] at hv
  cases hh : W.heap[g]? with
  | none => rw [hh] at hv; cases hv
  | some o => exact (Array.getElem?_eq_some_iff.1 hh).1
theorem var_same {w' : World} (hg : P.globalNamed name = some g) (hh : w'.heap[g]? = W.heap[g]?) : w'.var? P name = W.var? P name := by
  unfold World.var?
  rw [hg]
  simp only [Option.bind_some, hh]
/-- An array of structs of integers. -/
theorem tab_structs {α : Type} [Rep α] (nums : α → List Int) (xs : List α) {fs : Array Field} (hg : P.globalNamed name = some g) (hty : (P.globals[g]?).map (·.type) = some t) (ht : P.underlying t = some (.array len e)) (he : P.underlying e = some (.struct fs))
    (hf : ∀ (i : Nat) (f : Field), fs[i]? = some f → P.underlying f.type = some (.int k) ∧ f.offset = i ∧ P.cellsOf f.type = 1) (hct : P.cellsOf e = fs.size) (hn : Rep.n α = fs.size) (hlen : xs.length = len)
    (hrep : ∀ x, Rep.rep W (old W) x ((nums x).map fun z => Value.int k z)) (h : VarReads P W name (.agg (xs.map fun x => .agg ((nums x).map fun z => .lit (.int k z))))) :
    SR W (old W) W (old W) (some ⟨g, 0, none⟩) len xs := by
  obtain ⟨g', t', cs, fuel, p, hg', hty', hvar, hd⟩ := h
  obtain rfl := Option.some.inj (hg.symm.trans hg')
  obtain rfl := Option.some.inj (hty.symm.trans hty')
  refine ⟨by rw [hlen]; exact Nat.le_refl _, fun i x hx => ⟨⟨g, 0, none⟩, (nums x).map fun z => Value.int k z, rfl, ⟨by rw [add_block]; exact var_lt hg hvar, fun j v hv => ?_⟩, hrep x⟩⟩
  have hi : i < len := by rw [← hlen]; exact (List.getElem?_eq_some_iff.1 hx).1
  obtain ⟨fuel', d, q, hdi, hel⟩ := array_elem ht hd i hi
  simp only [List.getElem?_map, hx, Option.map_some, Option.some.injEq] at hdi
  subst hdi
  have hcs := ints_of_struct he hf hct hel
  rw [← hcs, List.getElem?_take] at hv
  split at hv
  · rw [List.getElem?_drop, hct, ← hn] at hv
    rw [add_add, add_plain, World.var?_cell hg hvar, ← Array.getElem?_toList]
    exact hv
  · cases hv
/-- An array of arrays of integers. -/
theorem tab_arrays {α : Type} [Rep α] (nums : α → List Int) (xs : List α) {e2 n : Nat} (hg : P.globalNamed name = some g) (hty : (P.globals[g]?).map (·.type) = some t) (ht : P.underlying t = some (.array len e)) (he : P.underlying e = some (.array n e2)) (he2 : P.underlying e2 = some (.int k)) (hce : P.cellsOf e2 = 1)
    (hct : P.cellsOf e = n) (hn : Rep.n α = n) (hlen : xs.length = len)
    (hrep : ∀ x, Rep.rep W (old W) x ((nums x).map fun z => Value.int k z)) (h : VarReads P W name (.agg (xs.map fun x => .agg ((nums x).map fun z => .lit (.int k z))))) :
    SR W (old W) W (old W) (some ⟨g, 0, none⟩) len xs := by
  obtain ⟨g', t', cs, fuel, p, hg', hty', hvar, hd⟩ := h
  obtain rfl := Option.some.inj (hg.symm.trans hg')
  obtain rfl := Option.some.inj (hty.symm.trans hty')
  refine ⟨by rw [hlen]; exact Nat.le_refl _, fun i x hx => ⟨⟨g, 0, none⟩, (nums x).map fun z => Value.int k z, rfl, ⟨by rw [add_block]; exact var_lt hg hvar, fun j v hv => ?_⟩, hrep x⟩⟩
  have hi : i < len := by rw [← hlen]; exact (List.getElem?_eq_some_iff.1 hx).1
  obtain ⟨fuel', d, q, hdi, hel⟩ := array_elem ht hd i hi
  simp only [List.getElem?_map, hx, Option.map_some, Option.some.injEq] at hdi
  subst hdi
  have hcs := cells_of_tab he he2 hce hct hel
  rw [← hcs, List.getElem?_take] at hv
  split at hv
  · rw [List.getElem?_drop, hct, ← hn] at hv
    rw [add_add, add_plain, World.var?_cell hg hvar, ← Array.getElem?_toList]
    exact hv
  · cases hv
/-- An array of bytes. -/
theorem tab_bytes (xs : List UInt8) (hg : P.globalNamed name = some g) (hty : (P.globals[g]?).map (·.type) = some t) (ht : P.underlying t = some (.array len e)) (he : P.underlying e = some (.int .u8)) (hce : P.cellsOf e = 1) (hct : P.cellsOf t = len) (hlen : xs.length = len)
    (h : VarReads P W name (tabData .u8 (xs.map fun b => (b.toNat : Int)))) : SR W (old W) W (old W) (some ⟨g, 0, none⟩) len xs := by
  obtain ⟨g', t', cs, fuel, p, hg', hty', hvar, hd⟩ := h
  obtain rfl := Option.some.inj (hg.symm.trans hg')
  obtain rfl := Option.some.inj (hty.symm.trans hty')
  have hcs := cells_of_tab ht he hce hct hd
  refine ⟨by rw [hlen]; exact Nat.le_refl _, fun i x hx => ⟨⟨g, 0, none⟩, [.int .u8 x.toNat], rfl, ⟨by rw [add_block]; exact var_lt hg hvar, fun j v hv => ?_⟩, rfl⟩⟩
  cases j with
  | succ j => simp at hv
  | zero =>
    simp at hv; subst hv
    rw [add_zero, show i * Rep.n UInt8 = i from Nat.mul_one i, add_plain, World.var?_cell hg hvar, ← Array.getElem?_toList, hcs]
    simp [hx]
/-- A list of numbers, wherever the old blocks stay. -/
theorem tab_stays {zs : List Int} (hg : P.globalNamed name = some g) (hty : (P.globals[g]?).map (·.type) = some t) (ht : P.underlying t = some (.array len e)) (he : P.underlying e = some (.int k)) (hce : P.cellsOf e = 1) (hct : P.cellsOf t = len)
    (h : VarReads P W name (tabData k zs)) : ∀ w', Agree (old W) W w' → TabIs P w' name k zs := by
  intro w' ag
  obtain ⟨g', t', cs, fuel, p, hg', hty', hvar, hd⟩ := h
  obtain rfl := Option.some.inj (hg.symm.trans hg')
  obtain rfl := Option.some.inj (hty.symm.trans hty')
  have hcs := cells_of_tab ht he hce hct hd
  unfold TabIs
  rw [var_same hg (ag g (var_lt hg hvar)), hvar, ← hcs]
theorem utf_stays {g3 g4 : Nat} (h : Utf8Tabs g3 g4 W) : ∀ w', Agree (old W) W w' → Utf8Tabs g3 g4 w' := by
  intro w' ag
  have lt : ∀ {a : Addr} {v : Value}, W.cell? a = some v → a.block < W.heap.size := fun {a v} hc => by
    unfold World.cell? at hc
    cases hh : W.heap[a.block]? with
    | none => rw [hh] at hc; simp at hc
    | some o => exact (Array.getElem?_eq_some_iff.1 hh).1
  have same : ∀ {a : Addr} {v : Value}, W.cell? a = some v → w'.cell? a = some v := fun {a v} hc => by
    rw [cell_agree ag (lt hc)]; exact hc
  exact ⟨fun c hc => same (h.1 c hc), fun i hi => ⟨same (h.2 i hi).1, same (h.2 i hi).2⟩⟩
end
end Go.Z
