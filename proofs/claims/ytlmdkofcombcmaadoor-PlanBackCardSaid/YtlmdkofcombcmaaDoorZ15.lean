/- A part of an own library for walks over a Go program's form: no statement of the claim's own, no conditions. -/
import Derived.Test.YtlmdkofcombcmaaDoorZ14
import Derived.ChangeSame
import Derived.RowKit3
namespace Go.Z
open Go Go.ChangeShapes
/-! ## 17. The row's words -/
def old (W : World) : BS := fun b => b < W.heap.size
theorem Mem.keeps {W w' : World} (M : Mem w' [(old W, W)]) : w'.os = W.os ∧ w'.output = W.output ∧ ∀ i, i < W.heap.size → w'.heap[i]? = W.heap[i]? := by
  have h := M.each (old W, W) (by simp)
  exact ⟨h.1.os, h.1.output, fun i hi => h.2.1 i hi⟩
theorem Mem.kept {W w' : World} (M : Mem w' [(old W, W)]) (may : MemPlace → Prop) : W.keptBut w' may := by
  obtain ⟨h1, h2, h3⟩ := M.keeps
  refine ⟨h1, h2, fun i hi => ?_⟩
  rw [h3 i hi]
  cases hh : W.heap[i]? with
  | none => rfl
  | some o => cases o <;> simp
theorem Mem.frozen {W w' : World} (M : Mem w' [(old W, W)]) (a : Addr) (h : a.block < W.heap.size) : w'.frozen? a = W.frozen? a := by
  unfold World.frozen?
  rw [M.keeps.2.2 _ h]
section
variable {H : Type} {enc : TypeId × Value → H} {P : Program}
/-- The post of a change that changes nothing, from Mem. -/
theorem post_of_mem {f : Func} {s : ChangeSpec} {apart fresh handsOn again : Bool} {W W' : World} {args : Array Value} {v : Value} {ds gs : List (DataW H)} {before pa pv : List MemPlace}
    (hW : DataW.Whole enc P f.params.toList s.vars apart W args.toList ds gs before)
    (hres : ∀ (b : Nat) (sp : Nat → Bool) (hd : Bool), DataW.TrodAll enc P W' b sp hd f.resultTypes.toList (v.resultList f.resultTypes.size) (s.fn H (ds ++ gs)).results [])
    (hargs : ∀ sp : Nat → Bool, (∀ p ∈ before, sp p.block = true) → DataW.TrodAll enc P W' 0 sp true f.params.toList args.toList (s.fn H (ds ++ gs)).args pa)
    (hvars : ∀ sp : Nat → Bool, (∀ p ∈ before, sp p.block = true) → DataW.TrodVars enc P W' sp s.vars (s.fn H (ds ++ gs)).vars pv)
    (hps : before = pa ++ pv) (M : Mem W' [(old W, W)])
    (hok : ∀ (j : Nat) (t : TypeId) (r : Value), f.resultTypes[j]? = some t → (v.resultList f.resultTypes.size)[j]? = some r → Value.okWide P W' .any 0 t r) :
    s.post enc P f apart fresh handsOn again W args v W' := by
  have hold : ∀ p ∈ before, (fun b => decide (b < W.heap.size)) p.block = true := fun p hp => by simpa using hW.lt p hp
  have hlt := hW.lt
  refine ⟨ds, gs, before, [], pa, pv, hW, hres _ _ _, hargs _ hold, hvars _ hold, World.keptBut_mono (fun p hp => ⟨hp, ?_⟩) (M.kept (· ∈ before)), fun _ => ?_⟩
  · rw [hps, List.mem_append] at hp
    exact Or.inr hp
  · obtain ⟨_, _, _, _, _, hz, hn⟩ := hW
    refine ⟨hok, _, _, ([] ++ pa) ++ pv, ⟨[] ++ pa, pv, trodAll_append (hargs _ (fun _ _ => rfl)) (hres _ _ _), hvars _ (fun _ _ => rfl), rfl, ?_, ?_⟩, ?_⟩
    · intro b off hp
      have hp' : MemPlace.cell b off ∈ before := by rw [hps]; simpa using hp
      rw [M.frozen _ (hlt _ hp')]
      exact hz b off hp'
    · intro ha
      have := hn ha
      rw [hps] at this
      simpa using this
    · intro p hp _
      rw [hps]
      simpa using hp
end
end Go.Z
