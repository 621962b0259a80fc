/- A part of an own library for walks over a Go program's form: no statement of the claim's own, no conditions. -/
import Derived.Test.YtlmdkofcombcmaaDoorZ12
namespace Go.Z
open Go
open Go.RowKit (wrap32 wrap64)
/-! ## 15. An element is written -/
theorem splice_append1 (a b vs : List Value) (o : Nat) (h : o + vs.length ≤ a.length) : splice (a ++ b) o vs = splice a o vs ++ b := by
  unfold splice
  rw [List.take_append_of_le_length (by omega), List.drop_append_of_le_length h]
  simp
theorem splice_append2 (a b vs : List Value) (o : Nat) : splice (a ++ b) (a.length + o) vs = a ++ splice b o vs := by
  unfold splice
  rw [List.take_append, List.drop_append]
  have h1 : a.take (a.length + o) = a := List.take_of_length_le (by omega)
  have h2 : a.drop (a.length + o + vs.length) = [] := List.drop_of_length_le (by omega)
  rw [h1, h2, show a.length + o - a.length = o by omega, show a.length + o + vs.length - a.length = o + vs.length by omega]
  simp
theorem splice_len (a vs : List Value) (o : Nat) (h : o + vs.length ≤ a.length) : (splice a o vs).length = a.length := by
  unfold splice; simp; omega
section
variable {α : Type} [Rep α] {v : World} {E : BS}
theorem Reps.set : ∀ {xs : List α} {css : List (List Value)} (i o : Nat) (vs cs : List Value) (x' : α), Reps v E xs css → css[i]? = some cs → o + vs.length ≤ Rep.n α → Rep.rep v E x' (splice cs o vs) →
    Reps v E (xs.set i x') (css.set i (splice cs o vs)) ∧ splice css.flatten (i * Rep.n α + o) vs = (css.set i (splice cs o vs)).flatten
  | [], [], i, o, vs, cs, x', _, h, _, _ => by simp at h
  | x :: xs, d :: css, 0, o, vs, cs, x', hr, h, ho, hx => by
    simp at h; subst h
    refine ⟨⟨hx, hr.2⟩, ?_⟩
    rw [Nat.zero_mul, Nat.zero_add, List.flatten_cons, splice_append1 _ _ _ _ (by rw [Rep.len hr.1]; exact ho)]
    simp
  | x :: xs, d :: css, i + 1, o, vs, cs, x', hr, h, ho, hx => by
    obtain ⟨h1, h2⟩ := Reps.set i o vs cs x' hr.2 (by simpa using h) ho hx
    refine ⟨⟨hr.1, h1⟩, ?_⟩
    rw [List.set_cons_succ, List.flatten_cons, List.flatten_cons, ← h2, show (i + 1) * Rep.n α + o = d.length + (i * Rep.n α + o) by rw [Rep.len hr.1, Nat.add_mul]; omega, splice_append2]
theorem Reps.css {xs : List α} {css : List (List Value)} : Reps v E xs css → ∀ (i : Nat) (x : α), xs[i]? = some x → ∃ cs, css[i]? = some cs ∧ Rep.rep v E x cs := by
  induction xs generalizing css with
  | nil => intro _ i x h; simp at h
  | cons y xs ih =>
    intro hr i x h
    cases css with
    | nil => exact hr.elim
    | cons d css =>
      cases i with
      | zero => simp at h; subst h; exact ⟨d, rfl, hr.1⟩
      | succ i => simpa using ih hr.2 i x (by simpa using h)
end
section
variable {P : Program} {N : Nat} {Q : Post} {ρ : Nat → Value} {w : World} {ops : Array Oper} {K : (Nat → Value) → World → Prop} {ty : TypeId} {pos : String} {af : Array Edge} {g : Option (Nat × Bool)} {L : List Ent}
theorem L_storeEl {α : Type} [Rep α] {t e : TypeId} {ad x : Operand} {S : BS} {u v : World} {E : BS} {A : Option Addr} {c : Nat} {xs : List α} (M : Mem w ((S, u) :: L)) (hg : wantedZ ops ⟨none, .store t ad x, ty, pos, af, g⟩ ρ = true) (val : Value) (hx : ev ρ x = val) (vs : List Value) (hc : val.cells = vs.toArray) (n : Nat) (hs : szIs P t n) (hn : vs.length = n) (hone : (vs.all fun v => v.oneCell') = true)
    (h : OR u S v E e A c xs) {a0 : Addr} (hA0 : A = some a0) {i : Int} {q : α} (hq : atL xs i = some q) (o : Nat) (hA : ev ρ ad = .pointer (some ((a0.add (i.toNat * Rep.n α)).add o))) (ho : Nat.ble (o + vs.length) (Rep.n α) = true) (x' : α)
    (hR : ∀ cs, Rep.rep v E q cs → Rep.rep v E x' (splice cs o vs))
    (k : ∀ w', OR w' S v E e A c (xs.set i.toNat x') → Mem w' ((S, w') :: L) → K ρ w') : WO P N ops Q ⟨none, .store t ad x, ty, pos, af, g⟩ K ρ w := by
  have hown := (h.agree (M.agree 0 rfl))
  obtain ⟨css, hr, hrow⟩ := hown.row
  obtain ⟨hi0, hi1, hi2⟩ := atL_spec hq
  have ho' := Nat.le_of_ble_eq_true ho
  obtain ⟨cs, hcs, hrep⟩ := hr.css _ _ hi2
  obtain ⟨hr', hfl⟩ := hr.set i.toNat o vs cs x' hcs ho' (hR cs hrep)
  rcases hrow.2 with ⟨he, _⟩ | ⟨gg, cap, cur, he, hb0, hh, hnc, hcm, hsz, htake⟩
  · subst hA0; cases he
  · subst hA0
    injection he with he hl hcc
    injection he with he
    subst he hcc
    have hbx : Bx w gg cur.toList e := by show w.heap[gg]? = _; rw [hh]
    have hcl : cur.toList.length = cur.size := Array.length_toList
    have hlt : i.toNat < xs.length := (List.getElem?_eq_some_iff.1 hi2).1
    have hle : i.toNat * Rep.n α + Rep.n α ≤ xs.length * Rep.n α := by rw [← Nat.succ_mul]; exact Nat.mul_le_mul_right _ hlt
    have hle2 : xs.length * Rep.n α ≤ cur.size := by rw [hsz]; exact Nat.mul_le_mul_right _ hnc
    obtain ⟨w', h1, h2, h3, h4, h5⟩ := R_storeCells (P := P) vs cur.toList (i.toNat * Rep.n α + o) 0 w hone hbx (by omega)
    rw [Nat.add_zero] at h2
    have htk : (splice cur.toList (i.toNat * Rep.n α + o) vs).take (xs.length * Rep.n α) = (css.set i.toNat (splice cs o vs)).flatten := by
      rw [← hfl, ← htake]
      conv => lhs; rw [← List.take_append_drop (xs.length * Rep.n α) cur.toList]
      rw [splice_append1 _ _ _ _ (by rw [List.length_take]; omega)]
      exact List.take_left' (by rw [splice_len _ _ _ (by rw [List.length_take]; omega), List.length_take]; omega)
    refine WO_skip hg rfl (w' := w') ?_ (k w' ⟨⟨css.set i.toNat (splice cs o vs), hr', ?_⟩, h.mine⟩ (M.change h3 (fun b hb hb2 => h4 b fun e => hb2 (e ▸ h.mine _ rfl)) (fun b hb => ⟨.inl hb, by rw [h5]; exact M.below 0 rfl b hb⟩)))
    · have ea : ((⟨gg, 0, none⟩ : Addr).add (i.toNat * Rep.n α)).add o = ⟨gg, i.toNat * Rep.n α + o, none⟩ := by rw [add_add, add_plain]
      simp only [execOp, Sem.run_bind, Instr.storeAt, Instr.sureAddr, hA, hx, storeVar, R_size hs, Result.andThen, Sem.run_pure]
      simp [hc, hn, ea, h1]
    · refine ⟨by rw [hr'.flat], .inr ⟨gg, c, (splice cur.toList (i.toNat * Rep.n α + o) vs).toArray, by simp, hb0, h2, by simpa using hnc, hcm, ?_, by simpa using htk⟩⟩
      rw [List.size_toArray, splice_len _ _ _ (by omega), hcl, hsz]
end
theorem R_partm {P : Program} {t : TypeId} {dd : TypeDesc} (hu : P.underlying t = some dd) (ha : aggB dd = false) (xs : Array Value) (i : Nat) (w : World) : (part t xs i).run P w = match xs[i]? with | some v => .ok v w | none => (stuck "part: no such cell" : Sem Value).run P w := by
  simp only [part, Sem.run_bind, R_agg hu, ha, Result.andThen]
  cases xs[i]? <;> simp
theorem Mem.lend4 {w : World} {S0 S1 S2 S3 : BS} {u0 u1 u2 u3 : World} {L : List Ent} (h : Mem w ((S0, u0) :: (S1, u1) :: (S2, u2) :: (S3, u3) :: L)) : Mem w [(S0, w), (S1, w), (S2, w), (S3, w), (Un L, w)] := by
  have ha := List.pairwise_cons.1 h.apart
  have hb := h.drop.lend3
  refine ⟨fun e he => ?_, List.pairwise_cons.2 ⟨fun e he b hb hb2 => ?_, hb.apart⟩⟩
  · rcases List.mem_cons.1 he with rfl | he
    · exact ⟨Later.refl _, Agree.refl _ _, h.below 0 rfl⟩
    · exact hb.each e he
  · simp only [List.mem_cons, List.not_mem_nil, or_false] at he
    rcases he with rfl | rfl | rfl | rfl
    · exact ha.1 (S1, u1) (by simp) b hb hb2
    · exact ha.1 (S2, u2) (by simp) b hb hb2
    · exact ha.1 (S3, u3) (by simp) b hb hb2
    · obtain ⟨f, hf, hb3⟩ := hb2
      exact ha.1 f (by simp [hf]) b hb hb3
theorem Mem.lend5 {w : World} {S0 S1 S2 S3 S4 : BS} {u0 u1 u2 u3 u4 : World} {L : List Ent} (h : Mem w ((S0, u0) :: (S1, u1) :: (S2, u2) :: (S3, u3) :: (S4, u4) :: L)) : Mem w [(S0, w), (S1, w), (S2, w), (S3, w), (S4, w), (Un L, w)] := by
  have ha := List.pairwise_cons.1 h.apart
  have hb := h.drop.lend4
  refine ⟨fun e he => ?_, List.pairwise_cons.2 ⟨fun e he b hb hb2 => ?_, hb.apart⟩⟩
  · rcases List.mem_cons.1 he with rfl | he
    · exact ⟨Later.refl _, Agree.refl _ _, h.below 0 rfl⟩
    · exact hb.each e he
  · simp only [List.mem_cons, List.not_mem_nil, or_false] at he
    rcases he with rfl | rfl | rfl | rfl | rfl
    · exact ha.1 (S1, u1) (by simp) b hb hb2
    · exact ha.1 (S2, u2) (by simp) b hb hb2
    · exact ha.1 (S3, u3) (by simp) b hb hb2
    · exact ha.1 (S4, u4) (by simp) b hb hb2
    · obtain ⟨f, hf, hb3⟩ := hb2
      exact ha.1 f (by simp [hf]) b hb hb3
theorem Mem.lend6 {w : World} {S0 S1 S2 S3 S4 S5 : BS} {u0 u1 u2 u3 u4 u5 : World} {L : List Ent} (h : Mem w ((S0, u0) :: (S1, u1) :: (S2, u2) :: (S3, u3) :: (S4, u4) :: (S5, u5) :: L)) : Mem w [(S0, w), (S1, w), (S2, w), (S3, w), (S4, w), (S5, w), (Un L, w)] := by
  have ha := List.pairwise_cons.1 h.apart
  have hb := h.drop.lend5
  refine ⟨fun e he => ?_, List.pairwise_cons.2 ⟨fun e he b hb hb2 => ?_, hb.apart⟩⟩
  · rcases List.mem_cons.1 he with rfl | he
    · exact ⟨Later.refl _, Agree.refl _ _, h.below 0 rfl⟩
    · exact hb.each e he
  · simp only [List.mem_cons, List.not_mem_nil, or_false] at he
    rcases he with rfl | rfl | rfl | rfl | rfl | rfl
    · exact ha.1 (S1, u1) (by simp) b hb hb2
    · exact ha.1 (S2, u2) (by simp) b hb hb2
    · exact ha.1 (S3, u3) (by simp) b hb hb2
    · exact ha.1 (S4, u4) (by simp) b hb hb2
    · exact ha.1 (S5, u5) (by simp) b hb hb2
    · obtain ⟨f, hf, hb3⟩ := hb2
      exact ha.1 f (by simp [hf]) b hb hb3
end Go.Z
