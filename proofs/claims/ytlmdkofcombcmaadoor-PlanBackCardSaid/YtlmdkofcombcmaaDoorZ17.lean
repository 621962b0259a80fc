/- A part of an own library for walks over a Go program's form: no statement of the claim's own, no conditions. -/
import Derived.Test.YtlmdkofcombcmaaDoorZ16
import Derived.Deep.Strs
import Derived.Lib.SmallJoins
import Derived.WideKeyArgs
import Derived.ChangeArms
namespace Go.Z
open Go Go.ChangeShapes Go.WideShapes
/-! ## 19. Arguments that lead into memory: opened, read again -/
section
variable {H : Type} {enc : TypeId × Value → H} {P : Program}
/-- What was read in a world is read in one that keeps what was there. -/
theorem stay {W W' : World} (M : Mem W' [(old W, W)]) (hl : laidOutB P = true) {t : TypeId} (hr : P.readableRec t = true) (hrow : t < P.types.size) {v : Value} {d : DataW H} {ps : List MemPlace}
    (h : DataW.Trod enc P W 0 (fun _ => true) true t v d ps) (hlt : ∀ p ∈ ps, p.block < W.heap.size) (sp : Nat → Bool) (hs : ∀ p ∈ ps, sp p.block = true) : DataW.Trod enc P W' 0 sp true t v d ps :=
  WideElems.Trod_stays hl hr hrow h (fun p hp => by
    have hk := M.keeps.2.2 _ (hlt p hp)
    cases p with
    | cell b off =>
      show W'.cell? ⟨b, off, none⟩ = W.cell? ⟨b, off, none⟩
      have hk' : W'.heap[b]? = W.heap[b]? := hk
      unfold World.cell?
      simp only [hk']
    | map b => exact hk) hs
variable {w : World} {sp : Nat → Bool} {held : Bool}
/-- A slice whose elements are opened one by one. -/
theorem open_SR {α : Type} [Rep α] [Inhabited α] {t e : TypeId} {fuel : Nat} {cs : List Value} {x : DataW H × List MemPlace} (ht : P.underlying t = some (.slice e)) (hc : P.cellsOf e = Rep.n α) (hpos : 0 < Rep.n α)
    (hel : ∀ n cs' y, DataW.trod enc P w 0 sp held n e cs' = some y → ∃ x : α, Rep.rep w (old w) x cs') (h : DataW.trod enc P w 0 sp held fuel t cs = some x) :
    ∃ A c, ∃ xs : List α, cs = [.slice A xs.length c] ∧ SR w (old w) w (old w) A c xs := by
  rcases Deep.open_slice ht h with ⟨rfl, _⟩ | ⟨a, len, cap, m, n, D, Pl, rfl, _, hl, _, hm, _, hx⟩
  · exact ⟨none, 0, [], rfl, SR.nil _ _ _ _ _ _⟩
  · have hlm : len ≤ m := by rw [hm]; split <;> omega
    obtain ⟨f, hf⟩ := Deep.choose_lt (α := α) (n := len) (p := fun i x => ∃ cs', w.cells? 0 (a.add (i * P.cellsOf e)) (P.cellsOf e) = some cs' ∧ Rep.rep w (old w) x cs') (fun i hi => by
      obtain ⟨cs', h1, h2⟩ := hx i (by omega)
      obtain ⟨x, h3⟩ := hel n cs' _ h2
      exact ⟨x, cs', h1, h3⟩)
    have hlen : ((List.range len).map f).length = len := by rw [List.length_map, List.length_range]
    refine ⟨some a, cap, (List.range len).map f, by rw [hlen], by rw [hlen]; exact hl, fun i x hi => ?_⟩
    rw [List.getElem?_map] at hi
    obtain ⟨j, hj, rfl⟩ := Option.map_eq_some_iff.1 hi
    obtain ⟨hjl, rfl⟩ := List.getElem?_eq_some_iff.1 hj
    rw [List.length_range] at hjl
    rw [List.getElem_range]
    obtain ⟨cs', h1, h2⟩ := hf i hjl
    rw [hc] at h1
    obtain ⟨_, hcl, hcell⟩ := World.cells?_some h1
    refine ⟨a, cs', rfl, ⟨?_, fun j v hv => ?_⟩, h2⟩
    · have h0 := hcell 0 hpos
      obtain ⟨v, hv⟩ : ∃ v, cs'[0]? = some v := ⟨_, List.getElem?_eq_getElem (by omega)⟩
      rw [hv] at h0
      have := World.block_lt_of_cell? w _ h0
      exact this
    · have hjl2 : j < cs'.length := (List.getElem?_eq_some_iff.1 hv).1
      rw [hcell j (by omega), hv]
end
end Go.Z
