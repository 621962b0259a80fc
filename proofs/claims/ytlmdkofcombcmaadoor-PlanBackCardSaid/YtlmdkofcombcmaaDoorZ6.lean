/- A part of an own library for walks over a Go program's form: no statement of the claim's own, no conditions. -/
import Derived.Test.YtlmdkofcombcmaaDoorZ5
import Derived.Maps.AppendAt
import Derived.Deep.AppendLies
import Derived.Lib.ConvBytes
namespace Go.Z
open Go
open Go.RowKit (wrap32 wrap64)

/-! ## 7. Values built, rows that grow -/
def Reps {α : Type} [Rep α] (v : World) (E : BS) : List α → List (List Value) → Prop
  | [], [] => True
  | x :: xs, cs :: css => Rep.rep v E x cs ∧ Reps v E xs css
  | _, _ => False
section
variable {α : Type} [Rep α] {v v' : World} {E E' : BS}
theorem Reps.flat : ∀ {xs : List α} {css : List (List Value)}, Reps v E xs css → css.flatten.length = xs.length * Rep.n α
  | [], [], _ => by simp
  | x :: xs, cs :: css, h => by
    rw [List.flatten_cons, List.length_append, Reps.flat h.2, Rep.len h.1, List.length_cons, Nat.add_mul]; omega
theorem Reps.append : ∀ {xs ys : List α} {css dss : List (List Value)}, Reps v E xs css → Reps v E ys dss → Reps v E (xs ++ ys) (css ++ dss)
  | [], _, [], _, _, k => k
  | _ :: _, _, _ :: _, _, h, k => ⟨h.1, Reps.append h.2 k⟩
theorem Reps.map (hh : ∀ x cs, Rep.rep v E (x : α) cs → Rep.rep v' E' x cs) : ∀ {xs : List α} {css : List (List Value)}, Reps v E xs css → Reps v' E' xs css
  | [], [], _ => trivial
  | _ :: _, _ :: _, h => ⟨hh _ _ h.1, Reps.map hh h.2⟩
theorem Reps.one : ∀ {xs : List α} {css : List (List Value)}, Reps v E xs css → ∀ u ∈ css.flatten, u.oneCell' = true
  | [], [], _, _, hu => by simp at hu
  | _ :: _, _ :: _, h, u, hu => by
    rw [List.flatten_cons, List.mem_append] at hu
    rcases hu with hu | hu
    · exact List.all_eq_true.1 (Rep.one h.1) u hu
    · exact Reps.one h.2 u hu
theorem Reps.at : ∀ {xs : List α} {css : List (List Value)}, Reps v E xs css → ∀ i x, xs[i]? = some x → ∃ cs, Rep.rep v E x cs ∧ ∀ j u, cs[j]? = some u → css.flatten[i * Rep.n α + j]? = some u
  | [], [], _, i, x, hx => by simp at hx
  | y :: xs, cs :: css, h, 0, x, hx => by
    simp at hx; subst hx
    refine ⟨cs, h.1, fun j u hu => ?_⟩
    rw [List.flatten_cons, Nat.zero_mul, Nat.zero_add, List.getElem?_append_left (List.getElem?_eq_some_iff.1 hu).1]; exact hu
  | y :: xs, cs :: css, h, i + 1, x, hx => by
    obtain ⟨ds, h1, h2⟩ := Reps.at h.2 i x (by simpa using hx)
    refine ⟨ds, h1, fun j u hu => ?_⟩
    have hl := Rep.len h.1
    rw [List.flatten_cons, List.getElem?_append_right (by rw [hl, Nat.add_mul]; omega), hl]
    rw [show (i + 1) * Rep.n α + j - Rep.n α = i * Rep.n α + j by rw [Nat.add_mul]; omega]
    exact h2 j u hu

/-- A row of one's own, which may grow. -/
structure OR (u : World) (S : BS) (v : World) (E : BS) (e : TypeId) (A : Option Addr) (c : Nat) (xs : List α) : Prop where
  row : ∃ css, Reps v E xs css ∧ u.ownsRow 0 e (Rep.n α) (.slice A xs.length c) xs.length css.flatten
  mine : ∀ a, A = some a → S a.block
theorem OR.nil (u : World) (S : BS) (v : World) (E : BS) (e : TypeId) : OR u S v E e none 0 ([] : List α) :=
  ⟨⟨[], trivial, by simp, .inl ⟨rfl, rfl⟩⟩, fun _ h => by cases h⟩
theorem OR.map {u : World} {S : BS} {e : TypeId} {A : Option Addr} {c : Nat} {xs : List α} (h : OR u S v E e A c xs) (hh : ∀ x cs, Rep.rep v E (x : α) cs → Rep.rep v' E' x cs) : OR u S v' E' e A c xs :=
  let ⟨css, h1, h2⟩ := h.row
  ⟨⟨css, h1.map hh, h2⟩, h.mine⟩
theorem OR.sr {u : World} {S : BS} {e : TypeId} {A : Option Addr} {c : Nat} {xs : List α} (h : OR u S v E e A c xs) : SR u S v E A c xs := by
  obtain ⟨css, h1, hl, h2⟩ := h.row
  rcases h2 with ⟨he, h0⟩ | ⟨g, cap, cur, he, _, hh, hn, _, hsz, ht⟩
  · have : xs = [] := List.eq_nil_of_length_eq_zero h0
    subst this
    exact SR.nil _ _ _ _ _ _
  · have hA : A = some ⟨g, 0, none⟩ := by injection he
    have hc : c = cap := by injection he
    subst hA; subst hc
    refine ⟨hn, fun i x hx => ?_⟩
    obtain ⟨cs, h3, h4⟩ := h1.at i x hx
    refine ⟨⟨g, 0, none⟩, cs, rfl, ⟨by rw [add_block]; exact h.mine _ rfl, fun j u' hu => ?_⟩, h3⟩
    rw [add_add, add_plain]
    have := h4 j u' hu
    rw [← ht, List.getElem?_take] at this
    split at this
    · simpa [World.cell?, hh] using this
    · cases this
theorem OR.agree {u w : World} {S : BS} {e : TypeId} {A : Option Addr} {c : Nat} {xs : List α} (h : OR u S v E e A c xs) (ag : Agree S u w) : OR w S v E e A c xs := by
  obtain ⟨css, h1, hl, h2⟩ := h.row
  refine ⟨⟨css, h1, hl, ?_⟩, h.mine⟩
  rcases h2 with h2 | ⟨g, cap, cur, he, hb, hh, hr⟩
  · exact .inl h2
  · have hA : A = some ⟨g, 0, none⟩ := by injection he
    exact .inr ⟨g, cap, cur, he, hb, (ag g (h.mine _ hA)).trans hh, hr⟩
theorem OR.sub {u : World} {S S' : BS} {e : TypeId} {A : Option Addr} {c : Nat} {xs : List α} (h : OR u S v E e A c xs) (hs : ∀ b, S b → S' b) : OR u S' v E e A c xs := ⟨h.row, fun a ha => hs _ (h.mine a ha)⟩

/-- Elements that are to be appended, where they stand. -/
def Src (w : World) (v : World) (E : BS) (a : Addr) (ys : List α) : Prop := ∃ css, Reps v E ys css ∧ ∀ j u, css.flatten[j]? = some u → w.cell? (a.add j) = some u
theorem Src.box {w : World} {h : Nat} {cs : List Value} {T : TypeId} {ys : List α} {css : List (List Value)} (hb : Bx w h cs T) (hr : Reps v E ys css) (hc : css.flatten = cs) : Src w v E ⟨h, 0, none⟩ ys :=
  ⟨css, hr, fun j u hu => hb.el.cells j u (by rw [← hc]; exact hu)⟩
theorem Src.sr {w u : World} {S : BS} {ad : Addr} {c : Nat} : ∀ {ys : List α}, SR u S v E (some ad) c ys → Agree S u w → Src w v E ad ys := by
  have key : ∀ (ys : List α) (o : Nat), (∀ i x, ys[i]? = some x → ∃ cs, El u S (ad.add ((o + i) * Rep.n α)) cs ∧ Rep.rep v E x cs) → ∃ css, Reps v E ys css ∧ ∀ j val, css.flatten[j]? = some val → u.cell? (ad.add (o * Rep.n α + j)) = some val := by
    intro ys
    induction ys with
    | nil => intro o _; exact ⟨[], trivial, fun j val h => by simp at h⟩
    | cons y ys ih =>
      intro o h
      obtain ⟨cs, h1, h2⟩ := h 0 y (by simp)
      obtain ⟨css, h3, h4⟩ := ih (o + 1) fun i x hx => by
        obtain ⟨cs, h5, h6⟩ := h (i + 1) x (by simpa using hx)
        exact ⟨cs, by rw [show o + 1 + i = o + (i + 1) by omega]; exact h5, h6⟩
      refine ⟨cs :: css, ⟨h2, h3⟩, fun j val hj => ?_⟩
      have hl := Rep.len h2
      rw [List.flatten_cons] at hj
      by_cases hlt : j < cs.length
      · rw [List.getElem?_append_left hlt] at hj
        have := h1.cells j val hj
        rwa [add_add, Nat.add_zero] at this
      · rw [List.getElem?_append_right (by omega), hl] at hj
        have := h4 _ val hj
        rwa [show (o + 1) * Rep.n α + (j - Rep.n α) = o * Rep.n α + j by rw [Nat.add_mul]; omega] at this
  intro ys h ag
  obtain ⟨css, h1, h2⟩ := key ys 0 fun i x hx => by
    obtain ⟨ad', cs, he, h3, h4⟩ := h.els i x hx
    cases he
    exact ⟨cs, by rw [Nat.zero_add]; exact h3, h4⟩
  by_cases hn : ys = []
  · subst hn
    refine ⟨[], trivial, fun j u hu => by simp at hu⟩
  · have hS : S ad.block := by
      obtain ⟨y, ys', rfl⟩ := List.exists_cons_of_ne_nil hn
      obtain ⟨ad', cs, he, h3, _⟩ := h.els 0 y (by simp)
      cases he
      have := h3.blk
      rwa [add_block] at this
    refine ⟨css, h1, fun j val hj => ?_⟩
    have := h2 j val hj
    rw [Nat.zero_mul, Nat.zero_add] at this
    rw [cell_agree ag (by rw [add_block]; exact hS)]
    exact this
theorem Src.map {w : World} {a : Addr} {ys : List α} (h : Src w v E a ys) (hh : ∀ x cs, Rep.rep v E (x : α) cs → Rep.rep v' E' x cs) : Src w v' E' a ys :=
  let ⟨css, h1, h2⟩ := h
  ⟨css, h1.map hh, h2⟩
theorem SR.map {u : World} {S : BS} {A : Option Addr} {c : Nat} {xs : List α} (h : SR u S v E A c xs) (hh : ∀ x cs, Rep.rep v E (x : α) cs → Rep.rep v' E' x cs) : SR u S v' E' A c xs :=
  ⟨h.cap, fun i x hx => let ⟨ad, cs, h1, h2, h3⟩ := h.els i x hx; ⟨ad, cs, h1, h2, hh _ _ h3⟩⟩
/-- What is read is a source. -/
theorem SR.src {w u : World} {S : BS} {A : Option Addr} {c : Nat} {ys : List α} (h : SR u S v E A c ys) (ag : Agree S u w) : A = none ∧ ys = [] ∨ ∃ a, A = some a ∧ Src w v E a ys := by
  cases A with
  | none =>
    refine .inl ⟨rfl, ?_⟩
    cases ys with
    | nil => rfl
    | cons y ys => obtain ⟨ad, cs, h1, _⟩ := h.els 0 y rfl; cases h1
  | some a => exact .inr ⟨a, rfl, Src.sr h ag⟩
end

structure ElInfo (P : Program) (e : TypeId) (n bytes : Nat) : Prop where
  ex : ∃ i z, P.info? e = some i ∧ i.zero = some z ∧ i.size = n ∧ i.bytes = bytes ∧ z.cells.size = n
  pos : 0 < n

section
variable {P : Program} {N : Nat} {Q : Post} {ρ : Nat → Value} {w : World} {ops : Array Oper} {K : (Nat → Value) → World → Prop} {d : Nat} {ty : TypeId} {pos : String} {af : Array Edge} {g : Option (Nat × Bool)} {L : List Ent}

theorem L_append {α : Type} [Rep α] {s x : Operand} {t e : TypeId} {bytes : Nat} {S : BS} {u v : World} {E : BS} {A A2 : Option Addr} {c c2 : Nat} {xs ys : List α} (M : Mem w ((S, u) :: L))
    (hg : wantedZ ops ⟨some d, .call ⟨.builtin .append, #[s, x], #[t, t]⟩, ty, pos, af, g⟩ ρ = true) (hd : Nat.ble (d + 1) N = true) (ht : P.underlying t = some (.slice e)) (hi : ElInfo P e (Rep.n α) bytes)
    (hs : ev ρ s = .slice A xs.length c) (hx : ev ρ x = .slice A2 ys.length c2) (h : OR u S v E e A c xs) (hsrc : A2 = none ∧ ys = [] ∨ ∃ a, A2 = some a ∧ Src w v E a ys) (hb : (xs.length + ys.length) * bytes ≤ 140737488355328) (hb0 : 0 < bytes)
    (k : ∀ w' S' A' c', OR w' S' v E e A' c' (xs ++ ys) → Mem w' ((S', w') :: L) → K (upd ρ d (.slice A' (xs ++ ys).length c')) w') : WO P N ops Q ⟨some d, .call ⟨.builtin .append, #[s, x], #[t, t]⟩, ty, pos, af, g⟩ K ρ w := by
  have hown := (h.agree (M.agree 0 rfl))
  have hrunOf : ∀ v' w', (Builtin.append_ #[t, t] ty #[.slice A xs.length c, .slice A2 ys.length c2]).run P w = .ok v' w' → K (upd ρ d v') w' → WO P N ops Q ⟨some d, .call ⟨.builtin .append, #[s, x], #[t, t]⟩, ty, pos, af, g⟩ K ρ w := fun v' w' hr hk =>
    WO_val (v := v') (w' := w') hg (dst_ok hd) (by simp [execOp, resolve, invoke, builtin, hs, hx, hr]) hk
  obtain ⟨⟨i, z, e1, e2, e3, e4, e5⟩, hpos⟩ := hi
  rcases hsrc with ⟨rfl, rfl⟩ | ⟨a, rfl, css2, hr2, hc2⟩
  · refine hrunOf (.slice A xs.length c) w ?_ ?_
    · have hcap := h.sr.cap
      simp [Builtin.append_, run_underlying ht, sizeOf, typeInfo, e1, Builtin.lenOf, Builtin.firstCells, hcap]
      cases A <;> simp [storeCells]
    · have := k w S A c (by simpa using hown) (M.change (Later.refl _) (fun _ _ _ => rfl) (fun b hb' => ⟨.inl hb', M.below 0 rfl b hb'⟩))
      simpa using this
  · obtain ⟨css, hr, hrow⟩ := hown.row
    have hlen : xs.length + ys.length ≤ 140737488355328 := Nat.le_trans (Nat.le_mul_of_pos_right _ hb0) hb
    obtain ⟨v', w', h1, h2, h3, _, h5⟩ := run_append_own_at (P := P) w 0 t ty e i z (Rep.n α) bytes ht e1 e2 e3 e4 e5 hpos (.slice A xs.length c) xs.length css.flatten hrow a ys.length c2 css2.flatten hr2.flat hc2 hr2.one
      (by simp only [maxLen]; omega) hb (Nat.zero_le _)
    obtain ⟨A', c', rfl⟩ : ∃ A' c', v' = .slice A' (xs.length + ys.length) c' := by
      rcases h2.2 with ⟨rfl, h0⟩ | ⟨g', cap, cur, rfl, _⟩
      · exact ⟨none, 0, by rw [h0]⟩
      · exact ⟨_, _, rfl⟩
    refine hrunOf _ w' h1 ?_
    rw [← List.length_append] at h2 ⊢
    have hblk : ∀ a', A' = some a' → (S a'.block ∨ w.heap.size ≤ a'.block) ∧ a'.block < w'.heap.size := by
      rintro a' rfl
      refine ⟨?_, ?_⟩
      · rcases h5 with h5 | h5
        · cases A with
          | none => simp [Value.ownBlock] at h5
          | some a0 =>
            simp only [Value.ownBlock, Option.some.injEq] at h5
            rw [h5]; exact .inl (h.mine _ rfl)
        · simp only [Value.ownBlock, Option.some.injEq] at h5
          rw [h5]; exact .inr (Nat.le_refl _)
      · rcases h2.2 with ⟨he, _⟩ | ⟨g', cap, cur, he, _, hh, _⟩
        · cases he
        · injection he with he; injection he with he; subst he
          exact (Array.getElem?_eq_some_iff.1 hh).1
    refine k w' (fun b => S b ∨ ∃ a', A' = some a' ∧ b = a'.block) A' c' ⟨⟨css ++ css2, hr.append hr2, by rw [List.flatten_append]; exact h2⟩, fun a' ha' => .inr ⟨a', ha', rfl⟩⟩ (M.change ⟨h3.size, h3.os, h3.tape, h3.output⟩ (fun b hb1 hb2 => h3.block b hb1 ?_) fun b hb1 => ?_)
    · intro he
      cases A with
      | none => simp [Value.ownBlock] at he
      | some a0 =>
        simp only [Value.ownBlock, Option.some.injEq] at he
        subst he
        exact hb2 (h.mine _ rfl)
    · rcases hb1 with hb1 | ⟨a', ha', rfl⟩
      · exact ⟨.inl hb1, Nat.lt_of_lt_of_le (M.below 0 rfl b hb1) h3.size⟩
      · exact hblk a' ha'

theorem L_build {t : TypeId} {parts : Array (Nat × Operand)} (hg : wantedZ ops ⟨some d, .build t parts, ty, pos, af, g⟩ ρ = true) (hd : Nat.ble (d + 1) N = true) (pv : List (Nat × Value)) (hp : (parts.map fun (i, x) => (i, ev ρ x)) = pv.toArray)
    {fs : Array Field} (hu : P.underlying t = some (.struct fs)) {z : Value} (hz : (P.info? t).bind (·.zero) = some z) {pl : Array (Nat × Nat)} (hpl : ∀ w, (fs.mapM fun f => do pure (f.offset, ← sizeOf f.type) : Sem (Array (Nat × Nat))).run P w = .ok pl w)
    (cs : List Value) (hf : Instr.fill (fun i => pl[i]?) z.cells pv = some cs.toArray)
    (h : K (upd ρ d (.agg cs.toArray)) w) : WO P N ops Q ⟨some d, .build t parts, ty, pos, af, g⟩ K ρ w :=
  WO_val hg (dst_ok hd) (by
    have e : (Instr.build t pv.toArray).run P w = .ok (.agg cs.toArray) w := by
      simp only [Instr.build, Sem.run_bind, R_zero hz, run_underlying hu, Result.andThen, hpl]
      rw [hf]
      rfl
    simp only [execOp, Sem.run_bind]
    rw [hp, e]
    rfl) h
theorem L_buildSlice {t e : TypeId} {len : Nat} {parts : Array (Nat × Operand)} (M : Mem w L) (hg : wantedZ ops ⟨some d, .buildSlice t len parts, ty, pos, af, g⟩ ρ = true) (hd : Nat.ble (d + 1) N = true) (pv : List (Nat × Value)) (hp : (parts.map fun (i, x) => (i, ev ρ x)) = pv.toArray)
    (hu : P.underlying t = some (.slice e)) {size : Nat} (hs : szIs P e size) {z : Value} (hz : (P.info? e).bind (·.zero) = some z) (hsm : Nat.ble (len * size) 16777216 = true) (hnz : Nat.beq (len * size) 0 = false) (cs : List Value)
    (hf : Instr.fill (fun i => some (i * size, size)) ((Array.range (len * size)).map (z.cells[· % z.cells.size]!)) pv = some cs.toArray)
    (h : ∀ b w', Bx w' b cs e → Mem w' ((one b, w') :: L) → K (upd ρ d (.slice (some ⟨b, 0, none⟩) len len)) w') : WO P N ops Q ⟨some d, .buildSlice t len parts, ty, pos, af, g⟩ K ρ w :=
  WO_val hg (dst_ok hd) (v := .slice (some ⟨w.heap.size, 0, none⟩) len len) (w' := w.alloc (.cells cs.toArray e)) (by
    have h1 : ¬ len * size > 2 ^ 24 := by have := Nat.le_of_ble_eq_true hsm; omega
    have h2 : ¬ len * size = 0 := Nat.ne_of_beq_eq_false hnz
    have e1 : (Instr.buildSlice t len pv.toArray).run P w = .ok (.slice (some ⟨w.heap.size, 0, none⟩) len len) (w.alloc (.cells cs.toArray e)) := by
      simp only [Instr.buildSlice, Sem.run_bind, run_underlying hu, R_size hs, Result.andThen, h1, h2, if_false, Sem.run_pure, R_zero hz]
      rw [hf]
      rfl
    simp only [execOp, Sem.run_bind]
    rw [hp, e1]
    rfl) (h _ _ (alloc_new _) (M.alloc _))

theorem L_buildSlice0 {t e : TypeId} (M : Mem w L) (hg : wantedZ ops ⟨some d, .buildSlice t 0 #[], ty, pos, af, g⟩ ρ = true) (hd : Nat.ble (d + 1) N = true) (hu : P.underlying t = some (.slice e)) {size : Nat} (hs : szIs P e size)
    (h : ∀ b w', Bx w' b [] e → Mem w' ((one b, w') :: L) → K (upd ρ d (.slice (some ⟨b, 0, none⟩) 0 0)) w') : WO P N ops Q ⟨some d, .buildSlice t 0 #[], ty, pos, af, g⟩ K ρ w :=
  WO_val hg (dst_ok hd) (v := .slice (some ⟨w.heap.size, 0, none⟩) 0 0) (w' := w.alloc (.cells #[] e)) (by
    simp only [execOp, Sem.run_bind, Instr.buildSlice, run_underlying hu, R_size hs, Result.andThen]
    have e0 : Array.range 0 = #[] := rfl
    simp [Instr.fill, e0]
    rfl) (h _ _ (alloc_new _) (M.alloc _))
/-- A literal's row is one's own. -/
theorem OR.lit {α : Type} [Rep α] {u v : World} {E : BS} {b : Nat} {cs : List Value} {e : TypeId} {xs : List α} {css : List (List Value)} (hb : Bx u b cs e) (hr : Reps v E xs css) (hc : css.flatten = cs) (hl : xs.length ≤ 9223372036854775807) : OR u (one b) v E e (some ⟨b, 0, none⟩) xs.length xs :=
  ⟨⟨css, hr, hr.flat, .inr ⟨b, xs.length, cs.toArray, rfl, Nat.zero_le _, hb, Nat.le_refl _, by simpa [maxLen] using hl, by rw [← hc]; simp [hr.flat], by
    rw [← hc]
    simp only []
    exact List.take_of_length_le (by rw [hr.flat]; exact Nat.le_refl _)⟩⟩, fun a ha => by cases ha; rfl⟩
/-! strings: ranged over, made of runes, of bytes -/
theorem L_range {t : TypeId} {x : Operand} (M : Mem w L) (hg : wantedZ ops ⟨some d, .range t x, ty, pos, af, g⟩ ρ = true) (hd : Nat.ble (d + 1) N = true) (hu : P.underlying t = some .string) (l : List UInt8) (hx : ev ρ x = .string (sv l))
    (h : ∀ b w', w'.heap[b]? = some (.stringIter (sv l) 0) → Mem w' ((one b, w') :: L) → K (upd ρ d (.pointer (some ⟨b, 0, none⟩))) w') : WO P N ops Q ⟨some d, .range t x, ty, pos, af, g⟩ K ρ w :=
  WO_val hg (dst_ok hd) (v := .pointer (some ⟨w.heap.size, 0, none⟩)) (w' := w.alloc (.stringIter (sv l) 0)) (by
    simp only [execOp, hx, Instr.range, Sem.run_bind, run_underlying hu, Result.andThen]
    rfl) (h _ _ (alloc_new _) (M.alloc _))
/-- The rune at a place, how many bytes it has. -/
def dec (l : List UInt8) (i : Nat) : Int × Nat := ((Utf8.decode (sv l) i).1, (Utf8.decode (sv l) i).2)
theorem putObj_mem {b : Nat} {u : World} {o : Obj} (M : Mem w ((one b, u) :: L)) : Mem ({ w with heap := w.heap.setIfInBounds b o } : World) ((one b, ({ w with heap := w.heap.setIfInBounds b o } : World)) :: L) :=
  M.change ⟨by simp, rfl, rfl, rfl⟩ (fun k _ hk => by simp [Ne.symm (show k ≠ b from hk)]) (fun k hk => by
    rw [show k = b from hk]
    exact ⟨.inl rfl, by simpa using M.below 0 rfl b rfl⟩)
theorem R_next {b i : Nat} {l : List UInt8} {ty' : TypeId} (hb : w.heap[b]? = some (.stringIter (sv l) i)) :
    (Instr.next (.pointer (some ⟨b, 0, none⟩)) true ty').run P w = if i < l.length then .ok (.tuple #[.bool true, .int .i64 i, .int .i32 (dec l i).1]) { w with heap := w.heap.setIfInBounds b (.stringIter (sv l) (i + (dec l i).2)) } else .ok (.tuple #[.bool false]) w := by
  have e : (getObj b).run P w = .ok (.stringIter (sv l) i) w := by simp [getObj, Sem.run, hb]
  simp only [Instr.next, Sem.run_bind, e, Result.andThen, sv_size]
  split
  · simp [dec, goInt, setObj, Sem.run, hb]
  · rfl
theorem L_next {x : Operand} {b i : Nat} {u : World} (M : Mem w ((one b, u) :: L)) (hg : wantedZ ops ⟨some d, .next x true, ty, pos, af, g⟩ ρ = true) (hd : Nat.ble (d + 1) N = true) {l : List UInt8} (hb : u.heap[b]? = some (.stringIter (sv l) i)) (hx : ev ρ x = .pointer (some ⟨b, 0, none⟩))
    (h1 : i < l.length → ∀ w', w'.heap[b]? = some (.stringIter (sv l) (i + (dec l i).2)) → Mem w' ((one b, w') :: L) → K (upd ρ d (.tuple #[.bool true, .int .i64 i, .int .i32 (dec l i).1])) w')
    (h2 : ¬ i < l.length → K (upd ρ d (.tuple #[.bool false])) w) : WO P N ops Q ⟨some d, .next x true, ty, pos, af, g⟩ K ρ w := by
  have hb' : w.heap[b]? = some (.stringIter (sv l) i) := (M.agree 0 rfl b rfl).trans hb
  have hr := R_next (P := P) (ty' := ty) hb'
  by_cases hlt : i < l.length
  · rw [if_pos hlt] at hr
    refine WO_val hg (dst_ok hd) (by simp only [execOp, hx, Sem.run_bind]; rw [hr]; rfl) (h1 hlt _ ?_ (putObj_mem M))
    have : b < w.heap.size := (Array.getElem?_eq_some_iff.1 hb').1
    simp [this]
  · rw [if_neg hlt] at hr
    exact WO_val hg (dst_ok hd) (by simp only [execOp, hx, Sem.run_bind]; rw [hr]; rfl) (h2 hlt)
/-- A rune's bytes. -/
def enc (r : Int) : List UInt8 := (Utf8.encode r).data.toList
theorem C_rune {a b : TypeId} {k : IntKind} {da : TypeDesc} (ha : P.underlying a = some da) (hb : P.underlying b = some .string) (n : Int) : (convert a b (.int k n)).run P w = .ok (.string (sv (enc n))) w := by
  simp only [convert, Sem.run_bind, run_underlying ha, run_underlying hb, Result.andThen]
  show _ = Result.ok (Value.string (sv (Utf8.encode n).data.toList)) w
  rw [← sv_of]
  cases da <;> rfl
theorem C_bytes {a b e : TypeId} (ha : P.underlying a = some (.slice e)) (he : P.underlying e = some (.int .u8)) (hb : P.underlying b = some .string) {u v : World} {S E : BS} {A : Option Addr} {c : Nat} {xs : List UInt8} (h : SR u S v E A c xs) (ag : Agree S u w) :
    (convert a b (.slice A xs.length c)).run P w = .ok (.string (sv xs)) w := by
  have hcell : ∀ i x, xs[i]? = some x → ∃ ad, A = some ad ∧ w.cell? (ad.add i) = some (.int .u8 x.toNat) := by
    intro i x hx
    obtain ⟨ad, cs, h1, h2, h3⟩ := h.els i x hx
    obtain rfl : cs = [.int .u8 x.toNat] := h3
    refine ⟨ad, h1, ?_⟩
    have := h2.cell ag 0 (v := .int .u8 x.toNat) rfl
    rwa [add_add, Nat.add_zero, show i * Rep.n UInt8 = i from Nat.mul_one i] at this
  cases A with
  | none =>
    have : xs = [] := by
      cases xs with
      | nil => rfl
      | cons x xs => obtain ⟨ad, h1, _⟩ := hcell 0 x rfl; cases h1
    subst this
    exact run_convert_bytes_nil w a e ha he 0 c b hb
  | some ad =>
    cases xs with
    | nil => simp [convert, run_underlying ha, run_underlying hb, run_underlying he, Conv.bytesToString, loadCells, loadCellsFrom, sv]; rfl
    | cons x xs =>
      have h0 := hcell 0 x rfl
      obtain ⟨ad', e0, h0⟩ := h0
      cases e0
      rw [add_zero] at h0
      obtain ⟨B, off, sp⟩ := ad
      have hsp : sp = none := by
        cases sp with
        | none => rfl
        | some s => simp [World.cell?] at h0; split at h0 <;> simp at h0
      subst hsp
      have := run_convert_bytes_arg (P := P) w a e ha he B off (x :: xs).length c ((x :: xs).map fun b => (b.toNat : Int)) (by simp) (fun i hi => by
        obtain ⟨ad', e1, h1⟩ := hcell i _ (List.getElem?_eq_getElem hi)
        cases e1
        have ea : (⟨B, off, none⟩ : Addr).add i = ⟨B, off + i, none⟩ := by unfold Addr.add; split <;> simp_all
        rw [ea] at h1
        rw [h1, List.getD_eq_getElem?_getD, List.getElem?_map, List.getElem?_eq_getElem hi]
        rfl) b hb
      rw [this]
      congr 2
      unfold strOfNums sv
      rw [List.map_map]
      have e2 : ∀ l : List UInt8, l.map ((fun n : Int => UInt8.ofNat n.toNat) ∘ fun b : UInt8 => (b.toNat : Int)) = l := by
        intro l
        induction l with
        | nil => rfl
        | cons y l ih => rw [List.map_cons, ih]; simp
      rw [e2]
end
end Go.Z
