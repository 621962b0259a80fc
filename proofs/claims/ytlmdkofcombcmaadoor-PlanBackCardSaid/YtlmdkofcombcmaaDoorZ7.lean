/- A part of an own library for walks over a Go program's form: no statement of the claim's own, no conditions. -/
import Derived.Test.YtlmdkofcombcmaaDoorZ6
namespace Go.Z
open Go
open Go.RowKit (wrap32 wrap64)

/-! ## 8. What is taken first, by its own lemma -/
def valOp : Op → Bool
  | .assign _ | .move _ | .pick _ _ _ | .unOp _ _ _ | .binOp _ _ _ _ _ | .extract _ _ | .fieldAddr _ _ _ | .load _ _ | .indexAddr _ _ _ | .index _ _ _ | .build _ _ | .convert _ _ _ | .slice _ _ _ _ _ => true
  | .call ⟨.builtin .len, _, _⟩ => true
  | _ => false
theorem bind_val {P : Program} {w w' : World} {m : Sem Value} {n : Next} (h : (do let v ← m; pure (Next.value v) : Sem Next).run P w = .ok n w') : ∃ v, n = .value v := by
  rw [Sem.run_bind] at h
  cases e : m.run P w with
  | ok v w2 => rw [e] at h; simp only [Result.andThen, Sem.run_pure] at h; injection h with h1 h2; exact ⟨v, h1.symm⟩
  | halt x w2 => rw [e] at h; cases h
theorem val_next {P : Program} {w w' : World} {ρv : Operand → Value} {o : Oper} {n : Next} (h : valOp o.op = true) (hr : (execOp ρv o).run P w = .ok n w') : ∃ v, n = .value v := by
  obtain ⟨d, op, ty, pos, af, g⟩ := o
  unfold execOp at hr
  cases op <;> first | exact absurd h Bool.false_ne_true | (dsimp only at hr; exact bind_val hr) | skip
  case move => injection hr with h1; exact ⟨_, h1.symm⟩
  case assign => injection hr with h1; exact ⟨_, h1.symm⟩
  case pick c a b =>
    simp only [Sem.run_bind] at hr
    cases e : (asBool (ρv c)).run P w with
    | ok v w2 => rw [e] at hr; simp only [Result.andThen, Sem.run_pure] at hr; injection hr with h1 h2; exact ⟨_, h1.symm⟩
    | halt x w2 => rw [e] at hr; cases hr
  case call c =>
    obtain ⟨cal, xs, ts⟩ := c
    cases cal <;> first | exact absurd h Bool.false_ne_true | skip
    rename_i b
    cases b <;> first | exact absurd h Bool.false_ne_true | skip
    simp only [resolve, Sem.run_bind, Sem.run_pure, Result.andThen, invoke] at hr
    exact bind_val hr

section
variable {P : Program} {N : Nat} {ops : Array Oper} {Q : Post} {ρ : Nat → Value} {w : World} {S : World → Prop} {T : List Nat} {n : Nat} {listed : Array Bool}
theorem WO_run {oi : Oper} {v : Value} {a : Act} (ha : At N ρ a) (hv : valOp oi.op = true) (hd : oi.dst.isSome = true) (hN : oi.dst.all (· < N) = true) (h : WO P N ops (fun _ _ _ => False) oi (fun ρ' w' => ρ' = putZ ρ oi.dst v ∧ w' = w) ρ w) (hg : wantedZ ops oi ρ = true) :
    (execOp (ev ρ) oi).run P w = .ok (.value v) w := by
  have h1 := h a ha
  rw [hg, if_pos rfl] at h1
  unfold Oper.wp at h1
  rw [ha.eval] at h1
  cases e : (execOp (ev ρ) oi).run P w with
  | halt x w' => rw [e] at h1; cases x <;> first | exact h1.elim | (simp only [Oper.upon, lift] at h1; try (obtain ⟨_, _, h2⟩ := h1; exact h2.elim))
  | ok nx w' =>
    rw [e] at h1
    obtain ⟨v', rfl⟩ := val_next hv e
    obtain ⟨ρ', h2, rfl, rfl⟩ := h1
    cases hdd : oi.dst with
    | none => rw [hdd] at hd; cases hd
    | some d =>
      have hlt : d < N := by rw [hdd] at hN; simpa using hN
      have h3 := ha.put oi.dst hN v'
      have h4 := h2.get d
      rw [h3.get d, hdd] at h4
      simp only [putZ, upd, Nat.beq_refl, cond_true] at h4
      rw [h4]
theorem WD_take' (i : Nat) {oi : Oper} (hi : ops[i]? = some oi) (hs : Region.noSelect ops = true) (hf : Region.free .any ops listed i = true) (hr : (Region.ready .any ops listed).contains i = true) (hT : waitsFor ops T i = true) (hc : clearB T listed = true)
    (hv : (valOp oi.op && oi.dst.isSome) = true) (hQ : ∀ c ρ w, ¬ Q (.panic c) ρ w) (hd : oi.dst.all (· < N) = true) (v : Value) (hS : S w) (hg : wantedZ ops oi ρ = true) (hy : ∀ w', S w' → WO P N ops (fun _ _ _ => False) oi (fun ρ' w'' => ρ' = putZ ρ oi.dst v ∧ w'' = w') ρ w')
    (h : WD P N ops Q S T n (listed.setIfInBounds i true) (putZ ρ oi.dst v) w) : WD P N ops Q S T (n + 1) listed ρ w := by
  intro a ha
  rw [Bool.and_eq_true] at hv
  exact WD_take i hi hs hf hr hT hc hQ hd v hS (.inl ⟨hg, fun w' hw => WO_run ha hv.1 hv.2 hd (hy w' hw) hg⟩) h a ha
end

section
variable {P : Program} {N : Nat} {Q : Post} {ρ : Nat → Value} {w : World} {ops : Array Oper} {K : (Nat → Value) → World → Prop} {dst : Option Nat} {d : Nat} {ty : TypeId} {pos : String} {af : Array Edge} {g : Option (Nat × Bool)} {L : List Ent}
theorem arr_map {α β : Type} {f : α → β} {xs : Array α} {l : List β} (h : xs.toList.map f = l) : xs.map f = l.toArray := by subst h; apply Array.ext'; simp
theorem L_call' {f : FuncId} {xs : Array Operand} {ats : Array TypeId} (hg : wantedZ ops ⟨dst, .call ⟨.value (.func f), xs, ats⟩, ty, pos, af, g⟩ ρ = true) (hd : dst.all (· < N) = true)
    (hcf : ∀ (args : Array Value) (w : World), (callFunc f args).run P w = .ok (.enter f args) w) (args : List Value) (hx : xs.toList.map (ev ρ) = args) {R : Value → World → Prop} (hc : CallsR P f args.toArray w R)
    (h : ∀ v w', R v w' → K (putZ ρ dst v) w') : WO P N ops Q ⟨dst, .call ⟨.value (.func f), xs, ats⟩, ty, pos, af, g⟩ K ρ w := L_call hg hd hcf args (arr_map hx) hc h
theorem L_build' {t : TypeId} {parts : Array (Nat × Operand)} (hg : wantedZ ops ⟨some d, .build t parts, ty, pos, af, g⟩ ρ = true) (hd : Nat.ble (d + 1) N = true) (pv : List (Nat × Value)) (hp : (parts.toList.map fun (i, x) => (i, ev ρ x)) = pv)
    {fs : Array Field} (hu : P.underlying t = some (.struct fs)) {z : Value} (hz : (P.info? t).bind (·.zero) = some z) {pl : Array (Nat × Nat)} (hpl : ∀ w, (fs.mapM fun f => do pure (f.offset, ← sizeOf f.type) : Sem (Array (Nat × Nat))).run P w = .ok pl w)
    (cs : List Value) (hf : Instr.fill (fun i => pl[i]?) z.cells pv = some cs.toArray)
    (h : K (upd ρ d (.agg cs.toArray)) w) : WO P N ops Q ⟨some d, .build t parts, ty, pos, af, g⟩ K ρ w := L_build hg hd pv (arr_map hp) hu hz hpl cs hf h
theorem L_buildSlice' {t e : TypeId} {len : Nat} {parts : Array (Nat × Operand)} (M : Mem w L) (hg : wantedZ ops ⟨some d, .buildSlice t len parts, ty, pos, af, g⟩ ρ = true) (hd : Nat.ble (d + 1) N = true) (pv : List (Nat × Value)) (hp : (parts.toList.map fun (i, x) => (i, ev ρ x)) = pv)
    (hu : P.underlying t = some (.slice e)) {size : Nat} (hs : szIs P e size) {z : Value} (hz : (P.info? e).bind (·.zero) = some z) (hsm : Nat.ble (len * size) 16777216 = true) (hnz : Nat.beq (len * size) 0 = false) (cs : List Value)
    (hf : Instr.fill (fun i => some (i * size, size)) ((Array.range (len * size)).map (z.cells[· % z.cells.size]!)) pv = some cs.toArray)
    (h : ∀ b w', Bx w' b cs e → Mem w' ((one b, w') :: L) → K (upd ρ d (.slice (some ⟨b, 0, none⟩) len len)) w') : WO P N ops Q ⟨some d, .buildSlice t len parts, ty, pos, af, g⟩ K ρ w := L_buildSlice M hg hd pv (arr_map hp) hu hs hz hsm hnz cs hf h
end
/-- A text that stands in the program. -/
def lit (l : List UInt8) : Str := l
/-- A part of a text. -/
def subS (a : Str) (lo hi : Int) : Option Str := subL (α := UInt8) a lo hi
/-- Two strings, one behind the other. -/
def cat (a b : Str) : Str := List.append a b
theorem someE {α : Type} {a r : α} (h : some a = some r) : a = r := Option.some.inj h
/-! ## 9. Facts of a program's types -/
theorem R_field' {P : Program} {s t : TypeId} {fs : Array Field} (f o n : Nat) (hu : P.underlying s = some (.struct fs)) (hf : (fs[f]?).map (fun fd => (fd.type, fd.offset)) = some (t, o)) (hs : szIs P t (n + 1)) (A : Addr) (w : World) :
    (Instr.fieldAt s (.pointer (some A)) f).run P w = .ok (.pointer (some (A.add o))) w := by
  obtain ⟨fd, h1, h2⟩ := Option.map_eq_some_iff.1 hf
  injection h2 with h3 h4
  subst h3 h4
  exact R_field hu h1 hs A
theorem ElInfo_ex {P : Program} {e : TypeId} {n b : Nat} (z : Value) (h : (P.info? e).map (fun i => (i.zero, i.size, i.bytes)) = some (some z, n, b)) (hz : z.cells.size = n) (hp : 0 < n) : ElInfo P e n b := by
  obtain ⟨i, h1, h2⟩ := Option.map_eq_some_iff.1 h
  injection h2 with h3 h4
  injection h4 with h5 h6
  exact ⟨⟨i, z, h1, h3, h5, h6, hz⟩, hp⟩
end Go.Z
