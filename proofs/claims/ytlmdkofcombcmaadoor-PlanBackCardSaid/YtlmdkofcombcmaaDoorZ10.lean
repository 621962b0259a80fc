/- A part of an own library for walks over a Go program's form: no statement of the claim's own, no conditions. -/
import Derived.Test.YtlmdkofcombcmaaDoorZ9
import Derived.Lib.AppendStr
import Derived.Lib.UnsafeStr
import Derived.Lib.Builder
import Derived.Laws.Externs
namespace Go.Z
open Go
open Go.RowKit (wrap32 wrap64)
/-! ## 12. Builders -/
theorem strCells_sv (s : List UInt8) : Lib.strCells (sv s) = s.map fun b => Value.int .u8 b.toNat := by simp [Lib.strCells, sv]
theorem Reps.bytes (v : World) (E : BS) : ∀ s : List UInt8, Reps v E s (s.map fun b => [Value.int .u8 b.toNat])
  | [] => trivial
  | _ :: s => ⟨rfl, Reps.bytes v E s⟩
theorem flat_bytes : ∀ s : List UInt8, (s.map fun b => [Value.int .u8 b.toNat]).flatten = s.map fun b => Value.int .u8 b.toNat
  | [] => rfl
  | b :: s => by rw [List.map_cons, List.flatten_cons, flat_bytes s]; rfl
section
variable {P : Program} {N : Nat} {Q : Post} {ρ : Nat → Value} {w : World} {ops : Array Oper} {K : (Nat → Value) → World → Prop} {d : Nat} {ty : TypeId} {pos : String} {af : Array Edge} {g : Option (Nat × Bool)} {L : List Ent}
theorem append_str_own (w : World) (t u ty e : TypeId) (i : TypeInfo) (ht : P.underlying t = some (.slice e)) (hu : P.underlying u = some .string) (hi : P.info? e = some i) (hz : i.zero = some (.int .u8 0)) (hsize : i.size = 1) (hby : i.bytes = 1)
    (v : Value) (n : Nat) (xs : List Value) (hown : w.ownsRow 0 e 1 v n xs) (s : ByteArray) (hb : n + s.size ≤ 140737488355328) :
    ∃ v' w', (Builtin.append_ #[t, u] ty #[v, .string s]).run P w = .ok v' w' ∧ w'.ownsRow 0 e 1 v' (n + s.size) (xs ++ Lib.strCells s) ∧ w.grownBy w' v.ownBlock ∧
      (∀ b, v'.ownBlock = some b → v.ownBlock = some b ∨ w.heap.size ≤ b) := by
  have hmax : n + s.size ≤ maxLen := by simp only [maxLen]; omega
  rcases hown.2 with ⟨rfl, rfl⟩ | ⟨g, cap, cur, rfl, hbg, hg, hnc, hcm, hcs, htake⟩
  · obtain ⟨v', w', h1, h2, h3, h4⟩ := Lib.run_append_own_string (P := P) w w.heap.size t u ty e i ht hu hi hz hsize hby (.slice none 0 0) 0 xs ⟨hown.1, .inl ⟨rfl, rfl⟩⟩ s hmax hb (Nat.le_refl _)
    refine ⟨v', w', h1, ⟨h2.1, ?_⟩, h3, ?_⟩
    · rcases h2.2 with h | ⟨g', cap, cur, he, h⟩
      · exact .inl h
      · exact .inr ⟨g', cap, cur, he, Nat.zero_le _, h.2⟩
    · intro b hb'
      rcases h2.2 with ⟨h, _⟩ | ⟨g', cap, cur, he, h, _⟩
      · rw [h] at hb'; cases hb'
      · rw [he] at hb'; simp only [Value.ownBlock, Option.some.injEq] at hb'; exact .inr (hb' ▸ h)
  · obtain ⟨v', w', h1, h2, h3, h4⟩ := Lib.run_append_own_string (P := P) w 0 t u ty e i ht hu hi hz hsize hby _ n xs hown s hmax hb (Nat.zero_le _)
    refine ⟨v', w', h1, h2, h3, ?_⟩
    have hxl : xs.length = n := by simpa using hown.1
    by_cases hroom : n + s.size ≤ cap
    · have hr := Lib.run_append_room_string (P := P) w t u ty e i ht hu hi hsize g n cap cur hg s hroom (by omega)
      rw [hr] at h1
      injection h1 with h1
      intro b hb'
      rw [← h1] at hb'
      exact .inl hb'
    · have holds : ∀ j u, xs[j]? = some u → w.cell? ((⟨g, 0, none⟩ : Addr).add j) = some u := hown.cells (g := g) rfl
      have hr := Lib.run_append_grow_string (P := P) w t u ty e i (.int .u8 0) ht hu hi hz ⟨g, 0, none⟩ n cap xs (by rw [hsize]; simpa using hxl) holds s (by omega) (by omega) (by rw [hby]; exact growslice_fits (by omega) (by omega))
      rw [hr] at h1
      injection h1 with h1
      intro b hb'
      rw [← h1] at hb'
      simp only [Value.ownBlock, Option.some.injEq] at hb'
      exact .inr (hb' ▸ Nat.le_refl _)

/-- A row of bytes, a string behind it. -/
def bcat (a : List UInt8) (b : Str) : List UInt8 := List.append a b
/-- A string is put behind a row of bytes. -/
theorem L_appendStr {s x : Operand} {t u e : TypeId} {S : BS} {uw v : World} {E : BS} {A : Option Addr} {c : Nat} {xs : List UInt8} (M : Mem w ((S, uw) :: L)) (str : List UInt8)
    (hg : wantedZ ops ⟨some d, .call ⟨.builtin .append, #[s, x], #[t, u]⟩, ty, pos, af, g⟩ ρ = true) (hd : Nat.ble (d + 1) N = true) (ht : P.underlying t = some (.slice e)) (hu : P.underlying u = some .string) (hi : (P.info? e).map (fun i => (i.zero, i.size, i.bytes)) = some (some (.int .u8 0), 1, 1))
    (hs : ev ρ s = .slice A xs.length c) (hx : ev ρ x = .string (sv str)) (h : OR uw S v E e A c xs) (hb : xs.length + List.length str ≤ 140737488355328)
    (k : ∀ w' S' A' c', OR w' S' v E e A' c' (bcat xs str) → Mem w' ((S', w') :: L) → K (upd ρ d (.slice A' (bcat xs str).length c')) w') : WO P N ops Q ⟨some d, .call ⟨.builtin .append, #[s, x], #[t, u]⟩, ty, pos, af, g⟩ K ρ w := by
  have hown := (h.agree (M.agree 0 rfl))
  obtain ⟨i, e1, e2⟩ := Option.map_eq_some_iff.1 hi
  injection e2 with e3 e4
  injection e4 with e5 e6
  obtain ⟨css, hr, hrow⟩ := hown.row
  have hss : (sv str).size = List.length str := sv_size str
  obtain ⟨v', w', h1, h2, h3, h5⟩ := append_str_own (P := P) w t u ty e i ht hu e1 e3 e5 e6 (.slice A xs.length c) xs.length css.flatten hrow (sv str) (by rw [hss]; exact hb)
  obtain ⟨A', c', rfl⟩ : ∃ A' c', v' = .slice A' (xs.length + (sv str).size) c' := by
    rcases h2.2 with ⟨rfl, h0⟩ | ⟨g', cap, cur, rfl, _⟩
    · exact ⟨none, 0, by rw [h0]⟩
    · exact ⟨_, _, rfl⟩
  have el : xs.length + (sv str).size = (xs ++ str : List UInt8).length := by rw [hss, List.length_append]
  refine WO_val (v := .slice A' (xs.length + (sv str).size) c') (w' := w') hg (dst_ok hd) (by simp [execOp, resolve, invoke, builtin, hs, hx, h1]) ?_
  rw [el] at h2 ⊢
  have ef : css.flatten ++ Lib.strCells (sv str) = (css ++ List.map (fun b : UInt8 => [Value.int .u8 (b.toNat : Int)]) str).flatten := by rw [List.flatten_append, flat_bytes, strCells_sv]
  refine k w' (fun b => S b ∨ ∃ a', A' = some a' ∧ b = a'.block) A' c' ⟨⟨css ++ List.map (fun b : UInt8 => [Value.int .u8 (b.toNat : Int)]) str, hr.append (Reps.bytes v E str), by rw [← ef]; exact h2⟩, fun a' ha' => .inr ⟨a', ha', rfl⟩⟩ (M.change ⟨h3.size, h3.os, h3.tape, h3.output⟩ (fun b hb1 hb2 => h3.block b hb1 ?_) fun b hb1 => ?_)
  · intro he
    cases A with
    | none => simp [Value.ownBlock] at he
    | some a0 =>
      simp only [Value.ownBlock, Option.some.injEq] at he
      subst he
      exact hb2 (h.mine _ rfl)
  · rcases hb1 with hb1 | ⟨a', ha', rfl⟩
    · exact ⟨.inl hb1, Nat.lt_of_lt_of_le (M.below 0 rfl b hb1) h3.size⟩
    · subst ha'
      refine ⟨?_, ?_⟩
      · rcases h5 a'.block rfl with h6 | h6
        · cases A with
          | none => cases h6
          | some a0 => simp only [Value.ownBlock, Option.some.injEq] at h6; rw [← h6]; exact .inl (h.mine _ rfl)
        · exact .inr h6
      · rcases h2.2 with ⟨he, _⟩ | ⟨g', cap, cur, he, _, hh, _⟩
        · cases he
        · injection he with he; injection he with he; subst he
          exact (Array.getElem?_eq_some_iff.1 hh).1

/-- A row's first byte's address. -/
theorem L_sliceData {x : Operand} {ats : Array TypeId} {e e' : TypeId} {S : BS} {uw v : World} {E : BS} {A : Option Addr} {c : Nat} {xs : List UInt8} (M : Mem w L) (j : Nat) (hj : L[j]? = some (S, uw)) (hg : wantedZ ops ⟨some d, .call ⟨.builtin .unsafeSliceData, #[x], ats⟩, ty, pos, af, g⟩ ρ = true) (hd : Nat.ble (d + 1) N = true)
    (hp : P.underlying ty = some (.pointer e')) (hx : ev ρ x = .slice A xs.length c) (h : OR uw S v E e A c xs)
    (k : ∀ w' q, (xs = [] ∨ q = A) → Mem w' L → K (upd ρ d (.pointer q)) w') : WO P N ops Q ⟨some d, .call ⟨.builtin .unsafeSliceData, #[x], ats⟩, ty, pos, af, g⟩ K ρ w := by
  have hown := (h.agree (M.agree j hj))
  obtain ⟨css, hr, hrow⟩ := hown.row
  have hrunOf : ∀ v' w', (Builtin.unsafeSliceData_ ats ty #[.slice A xs.length c]).run P w = .ok v' w' → K (upd ρ d v') w' → WO P N ops Q ⟨some d, .call ⟨.builtin .unsafeSliceData, #[x], ats⟩, ty, pos, af, g⟩ K ρ w := fun v' w' hr hk =>
    WO_val (v := v') (w' := w') hg (dst_ok hd) (by simp [execOp, resolve, invoke, builtin, hx, hr]) hk
  cases A with
  | none => exact hrunOf _ _ (Lib.run_unsafeSliceData_nil w _ _ _ _) (k w none (.inr rfl) M)
  | some a =>
    by_cases hc : c = 0
    · subst hc
      have h0 : xs = [] := List.eq_nil_of_length_eq_zero (Nat.le_zero.1 h.sr.cap)
      subst h0
      rcases hrow.2 with ⟨he, _⟩ | ⟨g', cap, cur, he, _, hh, _⟩
      · cases he
      · injection he with he _ _; injection he with he; subst he
        have hsh : w.shape? g' = some (e, cur.size) := by simp [World.shape?, hh]
        exact hrunOf _ _ (Lib.run_unsafeSliceData_zero w _ _ e' hp _ _ _ hsh) (k _ _ (.inl rfl) (M.alloc _).drop)
    · exact hrunOf _ _ (Lib.run_unsafeSliceData_row w _ _ _ _ _ hc) (k w (some a) (.inr rfl) M)
theorem freeze_mem {S : BS} {uw : World} {a : Addr} (M : Mem w ((S, uw) :: L)) (ha : S a.block) (n : Nat) : Mem (w.freeze a n) L := by
  have h1 : ∀ b, b ≠ a.block → (w.freeze a n).heap[b]? = w.heap[b]? := by
    intro b hb
    unfold World.freeze
    split
    · rfl
    · simp only [Array.getElem?_modify]
      rw [if_neg (Ne.symm hb)]
  have h2 : (w.freeze a n).heap.size = w.heap.size := by
    unfold World.freeze
    split
    · rfl
    · simp
  exact (M.change (S' := none0) ⟨by rw [h2]; exact Nat.le_refl _, by unfold World.freeze; split <;> rfl, by unfold World.freeze; split <;> rfl, by unfold World.freeze; split <;> rfl⟩ (fun b _ hb => h1 b fun he => hb (he ▸ ha)) (fun b hb => hb.elim)).drop
/-- The bytes of a row as a string: the row is used up. -/
theorem L_unsafeString {x y : Operand} {pt it e : TypeId} {S : BS} {uw v : World} {E : BS} {A q : Option Addr} {c : Nat} {xs : List UInt8} (M : Mem w ((S, uw) :: L)) (hg : wantedZ ops ⟨some d, .call ⟨.builtin .unsafeString, #[x, y], #[pt, it]⟩, ty, pos, af, g⟩ ρ = true) (hd : Nat.ble (d + 1) N = true)
    (hp : P.underlying pt = some (.pointer e)) (hc1 : P.cellsOf e = 1) (hx : ev ρ x = .pointer q) (hy : ev ρ y = .int .i64 (xs.length : Int)) (hq : xs = [] ∨ q = A) (h : OR uw S v E e A c xs)
    (k : ∀ w', Mem w' L → K (upd ρ d (.string (sv xs))) w') : WO P N ops Q ⟨some d, .call ⟨.builtin .unsafeString, #[x, y], #[pt, it]⟩, ty, pos, af, g⟩ K ρ w := by
  have hown := (h.agree (M.agree 0 rfl))
  obtain ⟨css, hr, hrow⟩ := hown.row
  have hrunOf : ∀ w', (Builtin.unsafeString_ #[pt, it] ty #[.pointer q, .int .i64 xs.length]).run P w = .ok (.string (sv xs)) w' → Mem w' L → WO P N ops Q ⟨some d, .call ⟨.builtin .unsafeString, #[x, y], #[pt, it]⟩, ty, pos, af, g⟩ K ρ w := fun w' hr hm =>
    WO_val (v := .string (sv xs)) (w' := w') hg (dst_ok hd) (by simp [execOp, resolve, invoke, builtin, hx, hy, hr]) (k w' hm)
  by_cases h0 : xs = []
  · subst h0
    exact hrunOf w (Lib.run_unsafeString_none w _ _ _ q) M.drop
  · obtain rfl : q = A := hq.resolve_left h0
    rcases hrow.2 with ⟨_, he⟩ | ⟨g', cap, cur, he, _, hh, hn, hm, hsz, _⟩
    · exact absurd (List.eq_nil_of_length_eq_zero he) h0
    · injection he with he _ _; subst he
      have hcell : ∀ j x, xs[j]? = some x → w.cell? ((⟨g', 0, none⟩ : Addr).add j) = some (.int .u8 x.toNat) := by
        intro j x hx'
        obtain ⟨ad, cs, h1, h2, h3⟩ := hown.sr.els j x hx'
        obtain rfl : cs = [.int .u8 x.toNat] := h3
        cases h1
        have := h2.cell (Agree.refl _ _) 0 (v := .int .u8 x.toNat) rfl
        rwa [add_add, Nat.add_zero, show j * Rep.n UInt8 = j from Nat.mul_one j] at this
      have hcs : cur.size = cap := by rw [hsz]; exact Nat.mul_one _
      exact hrunOf _ (Lib.run_unsafeString_row w pt it ty e hp hc1 g' cur.size (by simp [World.shape?, hh]) xs h0 (by rw [hcs]; exact hn) (by simp only [maxLen] at hm; omega) hcell) (freeze_mem M (hown.mine _ rfl) _)
end

/-! the check that a builder was not copied -/
section
variable {P : Program} {N : Nat} {Q : Post} {ρ : Nat → Value} {w : World} {ops : Array Oper} {K : (Nat → Value) → World → Prop} {d : Nat} {ty : TypeId} {pos : String} {af : Array Edge} {g : Option (Nat × Bool)}
theorem B_peqn {xt e : TypeId} (x y : Operand) (hu : P.underlying xt = some (.pointer e)) (p : Option Addr) : (binS .eql xt x y (.pointer p) (.pointer none)).run P w = .ok (.bool p.isNone) w := by
  have h : (Op.equalIn (9999 + 1) xt (.pointer p) (.pointer none)).run P w = .ok p.isNone w := by
    unfold Op.equalIn
    simp only [Sem.run_bind, run_underlying hu, Result.andThen]
    cases p <;> rfl
  have h2 : (binOp .eql xt (.pointer p) (.pointer none)).run P w = .ok (.bool p.isNone) w := by
    simp only [binOp]
    simp [Op.equal, Op.maxDepth, h]
  simp only [binS, Sem.run_bind]
  show (Result.andThen (Result.ok () w) fun _ w' => (binOp .eql xt (.pointer p) (.pointer none)).run P w') = _
  exact h2
theorem B_pneq {xt e : TypeId} {j : TypeInfo} (x y : Operand) (hu : P.underlying xt = some (.pointer e)) (hj : P.info? e = some j) (a : Addr) : (binS .neq xt x y (.pointer (some a)) (.pointer (some a))).run P w = .ok (.bool false) w := by
  simp only [binS, Sem.run_bind]
  show (Result.andThen (Result.ok () w) fun _ w' => (binOp .neq xt (.pointer (some a)) (.pointer (some a))).run P w') = _
  exact Lib.run_neq_ptr_same w a hu hj
theorem L_extern {f : FuncId} {xs : Array Operand} {ats : Array TypeId} (hg : wantedZ ops ⟨some d, .call ⟨.value (.func f), xs, ats⟩, ty, pos, af, g⟩ ρ = true) (hd : Nat.ble (d + 1) N = true) (args : List Value) (hx : xs.toList.map (ev ρ) = args) (v : Value)
    (hcf : (callFunc f args.toArray).run P w = .ok (.value v) w) (h : K (upd ρ d v) w) : WO P N ops Q ⟨some d, .call ⟨.value (.func f), xs, ats⟩, ty, pos, af, g⟩ K ρ w :=
  WO_val hg (dst_ok hd) (by
    have : #[] ++ (xs.map (ev ρ)) ++ #[] = args.toArray := by rw [arr_map hx]; simp
    simp only [execOp, resolve, ev, Deferred.ofValue, Sem.run_bind, Sem.run_pure, Result.andThen, invoke]
    rw [this]
    exact hcf) h
end
end Go.Z
