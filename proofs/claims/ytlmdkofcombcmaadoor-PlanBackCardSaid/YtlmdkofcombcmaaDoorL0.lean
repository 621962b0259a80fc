/- A part of the pure law: facts of the functions that the walks compute, no program in sight. -/
import Derived.Test.YtlmdkofcombcmaaDoorZ16
namespace Go.Z
open Go
open Go.RowKit (wrap32 wrap64)
/-! ## Pure law: what comes out once there are rounds enough -/
def Ev {α : Type} (F : Nat → Option α) (r : α) : Prop := ∃ K, ∀ k, F (k + K) = some r
section
variable {α β : Type}
theorem Ev.up {F : Nat → Option α} {r : α} {K : Nat} (h : ∀ k, F (k + K) = some r) (d : Nat) : ∀ k, F (k + (K + d)) = some r := fun k => by
  have := h (k + d)
  rwa [show k + d + K = k + (K + d) by omega] at this
theorem Ev.some (r : α) : Ev (fun _ => Option.some r) r := ⟨0, fun _ => rfl⟩
theorem Ev.of {F : Nat → Option α} {o : Option α} {r : α} (h : ∀ k, F k = o) (ho : o = Option.some r) : Ev F r := ⟨0, fun k => by rw [h, ho]⟩
theorem Ev.bind {F : Nat → Option α} {G : Nat → α → Option β} {x : α} {r : β} (h : Ev F x) (k : Ev (fun k => G k x) r) : Ev (fun k => (F k).bind (G k)) r := by
  obtain ⟨K1, h1⟩ := h
  obtain ⟨K2, h2⟩ := k
  refine ⟨K1 + K2, fun k => ?_⟩
  show (F (k + (K1 + K2))).bind (G (k + (K1 + K2))) = _
  rw [Ev.up h1 K2 k]
  have := Ev.up (F := fun k => G k x) h2 K1 k
  show G (k + (K1 + K2)) x = _
  rw [Nat.add_comm K1 K2]
  exact this
theorem Ev.bindO {o : Option α} {G : Nat → α → Option β} {x : α} {r : β} (h : o = Option.some x) (k : Ev (fun k => G k x) r) : Ev (fun k => o.bind (G k)) r := Ev.bind (F := fun _ => o) ⟨0, fun _ => h⟩ k
theorem Ev.ite {p : Prop} [Decidable p] {F G : Nat → Option α} {r : α} (h1 : p → Ev F r) (h2 : ¬ p → Ev G r) : Ev (fun k => if p then F k else G k) r := by
  by_cases hp : p
  · simp only [hp, if_true]; exact h1 hp
  · simp only [hp, if_false]; exact h2 hp
theorem Ev.yes {p : Prop} [Decidable p] {F G : Nat → Option α} {r : α} (hp : p) (h1 : Ev F r) : Ev (fun k => if p then F k else G k) r := Ev.ite (fun _ => h1) (fun h => absurd hp h)
theorem Ev.no {p : Prop} [Decidable p] {F G : Nat → Option α} {r : α} (hp : ¬ p) (h1 : Ev G r) : Ev (fun k => if p then F k else G k) r := Ev.ite (fun h => absurd h hp) (fun _ => h1)
/-- One round. -/
theorem Ev.step {F G : Nat → Option α} {r : α} (hs : ∀ k, F (k + 1) = G k) (h : Ev G r) : Ev F r := by
  obtain ⟨K, h⟩ := h
  exact ⟨K + 1, fun k => by rw [← Nat.add_assoc, hs]; exact h k⟩
theorem Ev.same {F G : Nat → Option α} {r : α} (hs : ∀ k, F k = G k) (h : Ev G r) : Ev F r := by
  obtain ⟨K, h⟩ := h
  exact ⟨K, fun k => by rw [hs]; exact h k⟩
theorem Ev.ex {F : Nat → Option α} {r : α} (h : Ev F r) : ∃ k, F k = Option.some r := let ⟨K, h⟩ := h; ⟨0 + K, h 0⟩
/-- Some result, of such a kind. -/
def Tot (F : Nat → Option α) (p : α → Prop) : Prop := ∃ r, p r ∧ Ev F r
theorem Tot.some {p : α → Prop} (r : α) (h : p r) : Tot (fun _ => Option.some r) p := ⟨r, h, Ev.some r⟩
theorem Tot.mono {F : Nat → Option α} {p q : α → Prop} (h : Tot F p) (hq : ∀ r, p r → q r) : Tot F q := let ⟨r, h1, h2⟩ := h; ⟨r, hq r h1, h2⟩
theorem Tot.bind {F : Nat → Option α} {G : Nat → α → Option β} {p : α → Prop} {q : β → Prop} (h : Tot F p) (k : ∀ x, p x → Tot (fun k => G k x) q) : Tot (fun k => (F k).bind (G k)) q := by
  obtain ⟨x, hx, h⟩ := h
  obtain ⟨r, hr, k⟩ := k x hx
  exact ⟨r, hr, h.bind k⟩
theorem Tot.bindO {o : Option α} {G : Nat → α → Option β} {x : α} {q : β → Prop} (h : o = Option.some x) (k : Tot (fun k => G k x) q) : Tot (fun k => o.bind (G k)) q := let ⟨r, hr, k⟩ := k; ⟨r, hr, Ev.bindO h k⟩
theorem Tot.ite {c : Prop} [Decidable c] {F G : Nat → Option α} {p : α → Prop} (h1 : c → Tot F p) (h2 : ¬ c → Tot G p) : Tot (fun k => if c then F k else G k) p := by
  by_cases hp : c
  · simp only [hp, if_true]; exact h1 hp
  · simp only [hp, if_false]; exact h2 hp
theorem Tot.step {F G : Nat → Option α} {p : α → Prop} (hs : ∀ k, F (k + 1) = G k) (h : Tot G p) : Tot F p := let ⟨r, hr, h⟩ := h; ⟨r, hr, h.step hs⟩
theorem Tot.same {F G : Nat → Option α} {p : α → Prop} (hs : ∀ k, F k = G k) (h : Tot G p) : Tot F p := let ⟨r, hr, h⟩ := h; ⟨r, hr, h.same hs⟩
end
/-! numbers that fit -/
theorem wrap64_id {n : Int} (h0 : -9223372036854775808 ≤ n) (h1 : n ≤ 9223372036854775807) : wrap64 n = n := by
  rw [← IntWalk.i64_left, IntWalk.i64_in]
  all_goals first | exact h0 | exact h1 | omega
theorem atL_at {α : Type} {l : List α} {i : Int} (h0 : 0 ≤ i) (h1 : i < l.length) : ∃ x, atL l i = some x ∧ l[i.toNat]? = some x := by
  have hlt : i.toNat < l.length := by omega
  refine ⟨l[i.toNat], ?_, List.getElem?_eq_getElem hlt⟩
  unfold atL
  rw [if_pos h0, List.getElem?_eq_getElem hlt]
theorem subL_at {α : Type} {l : List α} {a b : Int} (h0 : 0 ≤ a) (h1 : a ≤ b) (h2 : b ≤ l.length) : subL l a b = some ((l.take b.toNat).drop a.toNat) := by
  unfold subL
  rw [if_pos ⟨h0, h1, h2⟩]
end Go.Z
