/- A part of an own library for walks over a Go program's form: no statement of the claim's own, no conditions. -/
import Derived.Test.YtlmdkofcombcmaaDoorZ1
namespace Go.Z
open Go

theorem wp_loop_fuel {P : Program} {c : Code} {Q : Exit → Act → World → Prop} {a : Act} {w : World} (I : Nat → Act → World → Prop) (k : Nat) (h₀ : I k a w)
    (round : ∀ k a w, I k a w → c.wp P (Exit.then (fun a' w' => ∃ j, j < k ∧ I j a' w') Q) a w) : (Code.loop c).wp P Q a w := by
  intro b kk cs
  have key : ∀ n a w, I n a w →
      ∃ e a' w', Q e a' w' ∧ Arrives P (lone (b.at a (.code c :: .inLoop c :: kk)) cs w) b kk cs e a' w' := by
    intro n
    induction n using Nat.strongRecOn with
    | _ n ih =>
      intro a w hI
      obtain ⟨e, a₁, w₁, hq, harr⟩ := round n a w hI b (.inLoop c :: kk) cs
      cases e with
      | normal =>
        obtain ⟨j, hj, hI₁⟩ := hq
        obtain ⟨e₂, a₂, w₂, hq₂, harr₂⟩ := ih j hj a₁ w₁ hI₁
        exact ⟨e₂, a₂, w₂, hq₂, .of_steps (Steps.trans harr (.one step_inLoop)) harr₂⟩
      | exit id => exact ⟨_, a₁, w₁, hq, .pass (x := .inLoop c) rfl (fun _ _ => .inl (by simp)) harr⟩
      | goto l => exact ⟨_, a₁, w₁, hq, .pass (x := .inLoop c) rfl (fun _ _ => .inl (by simp)) harr⟩
      | ret => exact ⟨_, a₁, w₁, hq, .pass (x := .inLoop c) rfl (fun _ _ => .inl (by simp)) harr⟩
      | panic ch => exact ⟨_, a₁, w₁, hq, .pass (x := .inLoop c) rfl (fun _ _ => .inl (by simp)) harr⟩
      | outgrown => exact ⟨_, a₁, w₁, hq, .pass (x := .inLoop c) rfl (fun _ _ => .inl (by simp)) harr⟩
  obtain ⟨e, a', w', hq, harr⟩ := key k a w h₀
  exact ⟨e, a', w', hq, .of_steps (.one step_loop) harr⟩

/-- A Go function returns, with such a value and such a world. -/
def CallsR (P : Program) (f : FuncId) (args : Array Value) (w : World) (R : Value → World → Prop) : Prop :=
  Calls P f args w fun e w' => ∃ v, e = .returned v ∧ R v w'

theorem CallsR.mono {P : Program} {f : FuncId} {args : Array Value} {w : World} {R R' : Value → World → Prop} (h : CallsR P f args w R) (hr : ∀ v w', R v w' → R' v w') : CallsR P f args w R' :=
  Calls.mono h fun _ _ ⟨v, e, hR⟩ => ⟨v, e, hr _ _ hR⟩

def tup : List Value → Value
  | [x] => x
  | l => .tuple l.toArray

def wantedZ (ops : Array Oper) (o : Oper) (ρ : Nat → Value) : Bool :=
  match o.guard with
  | none => true
  | some (j, b) => match (ops[j]?).bind (·.dst) with
    | some t => match ρ t with
      | .bool x => x == b
      | _ => false
    | none => false

theorem wanted_eq {N : Nat} {ρ : Nat → Value} {a : Act} (h : At N ρ a) (ops : Array Oper) (o : Oper) : Region.wanted o (yielded ops a.tmps) = wantedZ ops o ρ := by
  unfold Region.wanted wantedZ
  cases o.guard with
  | none => rfl
  | some p =>
    obtain ⟨j, b⟩ := p
    simp only [yielded]
    cases (ops[j]?).bind (·.dst) with
    | none => simp
    | some t =>
      have hg := h.get t
      simp only [Option.bind_some]
      rcases Nat.lt_or_ge t a.tmps.size with ht | ht
      · have e : a.tmps[t]? = some (ρ t) := by rw [← hg]; simp [Array.getD_eq_getD_getElem?, ht]
        rw [e]
        cases ρ t <;> simp
      · have e2 : a.tmps[t]? = none := Array.getElem?_eq_none ht
        have e : ρ t = undef := by rw [← hg]; simp [Array.getD_eq_getD_getElem?, e2]
        rw [e, e2]; simp [undef]

section
variable {P : Program} {N : Nat} {Q : Post} {ρ : Nat → Value} {w : World} {ops : Array Oper} {rest : List Oper} {o : Oper}

theorem WC_loop {c : Code} (I : Nat → (Nat → Value) → World → Prop) (k : Nat) (h₀ : I k ρ w)
    (round : ∀ k ρ w, I k ρ w → WC P N c (thenZ (fun ρ w => ∃ j, j < k ∧ I j ρ w) Q) ρ w) : WC P N (.loop c) Q ρ w := by
  intro a ha
  refine wp_loop_fuel (fun k a w => ∃ ρ, At N ρ a ∧ I k ρ w) k ⟨ρ, ha, h₀⟩ ?_
  rintro k a w ⟨ρ', h1, h2⟩
  refine wp_mono (round k ρ' w h2 a h1) ?_
  rintro e a' w' ⟨ρ2, h3, h4⟩
  cases e with
  | normal => obtain ⟨j, hj, hI⟩ := h4; exact ⟨j, hj, ρ2, h3, hI⟩
  | _ => exact ⟨ρ2, h3, h4⟩

/-- What a result variable holds. -/
def RvIs (P : Program) (ρ : Nat → Value) (w : World) : ResultVar → Value → Prop
  | .tmp t, v => ρ t = v
  | .cell t T, v => ∃ A, ρ t = .pointer (some A) ∧ (loadVar T A).run P w = .ok v w
def RvsAre (P : Program) (ρ : Nat → Value) (w : World) : List ResultVar → List Value → Prop
  | [], [] => True
  | r :: rs, v :: vs => RvIs P ρ w r v ∧ RvsAre P ρ w rs vs
  | _, _ => False
/-- A function's end. -/
def retZ (P : Program) (rs : List ResultVar) (R : Value → World → Prop) : Post
  | .normal, ρ, w | .ret, ρ, w => ∃ vs, RvsAre P ρ w rs vs ∧ R (tup vs) w
  | _, _, _ => False
theorem retR {rs : List ResultVar} {R : Value → World → Prop} (vs : List Value) (h : RvsAre P ρ w rs vs) (hr : R (tup vs) w) : retZ P rs R .ret ρ w := ⟨vs, h, hr⟩
theorem retN {rs : List ResultVar} {R : Value → World → Prop} (vs : List Value) (h : RvsAre P ρ w rs vs) (hr : R (tup vs) w) : retZ P rs R .normal ρ w := ⟨vs, h, hr⟩

theorem thenN {next : (Nat → Value) → World → Prop} (h : next ρ w) : thenZ next Q .normal ρ w := h
theorem thenE {next : (Nat → Value) → World → Prop} {id : Nat} (h : Q (.exit id) ρ w) : thenZ next Q (.exit id) ρ w := h
theorem thenR {next : (Nat → Value) → World → Prop} (h : Q .ret ρ w) : thenZ next Q .ret ρ w := h
theorem blkN {id : Nat} (h : Q .normal ρ w) : inBlockZ id Q .normal ρ w := h
theorem blkR {id : Nat} (h : Q .ret ρ w) : inBlockZ id Q .ret ρ w := h
theorem blkX {id : Nat} (h : Q .normal ρ w) : inBlockZ id Q (.exit id) ρ w := by simp only [inBlockZ, if_true]; exact h
theorem blkY {id id' : Nat} (e : Nat.beq id' id = false) (h : Q (.exit id') ρ w) : inBlockZ id Q (.exit id') ρ w := by
  simp only [inBlockZ]; rw [if_neg (Nat.ne_of_beq_eq_false e)]; exact h

theorem enterZ {f : FuncId} {fn : Func} {c : Code} {args : List Value} {R : Value → World → Prop} (rs : List ResultVar)
    (hf : P.funcs[f]? = some fn) (hb : fn.body = some c) (hN : fn.ntmps = N) (ha : Nat.ble args.length N = true) (hr : fn.results = rs.toArray)
    (h : WC P N c (retZ P rs R) (env args) w) : CallsR P f args.toArray w R := by
  have hlen : args.length ≤ N := Nat.le_of_ble_eq_true ha
  refine calls_of_wp hf hb ?_
  have hAt : At N (env args) { tmps := args.toArray ++ Array.replicate (fn.ntmps - args.toArray.size) undef, defers := [] } := by
    refine ⟨by simp [hN]; omega, fun t => ?_, rfl⟩
    simp only [env, Array.getD_eq_getD_getElem?, List.getD_eq_getElem?_getD]
    by_cases ht : t < args.length
    · simp [Array.getElem?_append, ht]
    · have : args[t]? = none := by simp; omega
      rw [this]
      simp only [Array.getElem?_append, List.size_toArray]
      rw [if_neg ht]
      by_cases h2 : t - args.length < fn.ntmps - args.length
      · simp [h2]
      · simp [h2]
  have hres : ∀ (ρ : Nat → Value) (a : Act) (w : World) (vs : List Value), At N ρ a → RvsAre P ρ w rs vs → (results fn a.tmps).run P w = .ok (tup vs) w := by
    intro ρ a w vs hat hvs
    have e : ∀ t, a.tmps.getD t undef = ρ t := hat.get
    have key : ∀ (f : ResultVar → Sem Value), (∀ r v, RvIs P ρ w r v → (f r).run P w = .ok v w) → ∀ (l : List ResultVar) (vs : List Value), RvsAre P ρ w l vs → (List.mapM (m := Sem) f l).run P w = .ok vs w := by
      intro f hf l
      induction l with
      | nil => intro vs hvs; cases vs with
        | nil => rfl
        | cons v vs => exact hvs.elim
      | cons r l ih => intro vs hvs; cases vs with
        | nil => exact hvs.elim
        | cons v vs =>
          simp only [List.mapM_cons, Sem.run_bind, hf r v hvs.1, ih vs hvs.2, Sem.run_pure, Result.andThen]
    unfold results
    rw [hr]
    simp only [Array.mapM_eq_mapM_toList]
    rw [Sem.run_bind, Sem.run_map]
    rw [key _ ?_ rs vs hvs]
    · simp only [Result.andThen, Sem.run_pure]
      unfold tup
      rcases vs with _ | ⟨r, _ | ⟨s, vs⟩⟩ <;> simp
    · intro r v hrv
      cases r with
      | tmp t => simp only [e, Sem.run_pure]; rw [show ρ t = v from hrv]
      | cell t T =>
        obtain ⟨A, h1, h2⟩ := hrv
        simp only [e, h1, Sem.run_bind, asAddr, Sem.run_pure, Result.andThen]
        exact h2
  refine wp_mono (h _ hAt) ?_
  rintro e a' w' ⟨ρ', h1, h2⟩
  cases e with
  | normal => obtain ⟨vs, h2, h3⟩ := h2; exact ⟨h1.defers, _, hres ρ' a' w' vs h1 h2, _, rfl, h3⟩
  | ret => obtain ⟨vs, h2, h3⟩ := h2; exact ⟨h1.defers, _, hres ρ' a' w' vs h1 h2, _, rfl, h3⟩
  | exit id => exact h2.elim
  | goto id => exact h2.elim
  | panic ch => exact h2.elim
  | outgrown => exact h2.elim

/-! ## 2. One operation -/
/-- One operation, what follows behind K. -/
def WO (P : Program) (N : Nat) (ops : Array Oper) (Q : Post) (o : Oper) (K : (Nat → Value) → World → Prop) (ρ : Nat → Value) (w : World) : Prop :=
  ∀ a, At N ρ a → if wantedZ ops o ρ = true then o.wp P a w (fun a' w' => ∃ ρ', At N ρ' a' ∧ K ρ' w') (lift N Q) else ∃ ρ', At N ρ' (a.put o.dst undef) ∧ K ρ' w

theorem WL_nil (h : Q .normal ρ w) : WL P N ops Q [] ρ w := fun _ ha => wpList_nil ⟨ρ, ha, h⟩

theorem Oper.wp_mono' {o : Oper} {a : Act} {K K' : Act → World → Prop} {Q' : Exit → Act → World → Prop} (hk : ∀ a w, K a w → K' a w) (h : o.wp P a w K Q') : o.wp P a w K' Q' := by
  unfold Oper.wp at *
  generalize (execOp a.eval o).run P w = r at *
  cases r with
  | ok n w' =>
    cases n <;> simp only [Oper.upon] at h ⊢ <;> first | exact hk _ _ h | exact h | skip
    case enter f args => exact Calls.mono h fun e w'' he => by cases e <;> first | exact hk _ _ he | exact he
    case row row args => exact Rows.mono h fun v w'' he => hk _ _ he
  | halt x w' => cases x <;> exact h

theorem WL_of (h : WO P N ops Q o (fun ρ w => WL P N ops Q rest ρ w) ρ w) : WL P N ops Q (o :: rest) ρ w := by
  intro a ha
  have hh := h a ha
  unfold wpList
  rw [wanted_eq ha]
  cases hw : wantedZ ops o ρ with
  | true =>
    rw [hw, if_pos rfl] at hh
    rw [if_pos rfl]
    exact .inl (Oper.wp_mono' (fun a' w' ⟨ρ', h1, h2⟩ => h2 a' h1) hh)
  | false =>
    rw [hw, if_neg (by simp)] at hh
    rw [if_neg (by simp)]
    obtain ⟨ρ', h1, h2⟩ := hh
    exact h2 _ h1

section
variable {K : (Nat → Value) → World → Prop}
theorem WO_val {v : Value} {w' : World} (hg : wantedZ ops o ρ = true) (hd : o.dst.all (· < N) = true) (hrun : (execOp (ev ρ) o).run P w = .ok (.value v) w')
    (h : K (putZ ρ o.dst v) w') : WO P N ops Q o K ρ w := by
  intro a ha
  rw [hg, if_pos rfl]
  unfold Oper.wp
  rw [ha.eval, hrun]
  exact ⟨_, ha.put o.dst hd v, h⟩

theorem WO_skip {w' : World} (hg : wantedZ ops o ρ = true) (hd : o.dst = none) (hrun : (execOp (ev ρ) o).run P w = .ok .skip w')
    (h : K ρ w') : WO P N ops Q o K ρ w := by
  intro a ha
  rw [hg, if_pos rfl]
  unfold Oper.wp
  rw [ha.eval, hrun]
  simp only [Oper.upon, hd, Act.put]
  exact ⟨_, ha, h⟩

/-- The guard says no. -/
theorem WO_off (hg : wantedZ ops o ρ = false) (hd : o.dst.all (· < N) = true) (h : K (putZ ρ o.dst undef) w) : WO P N ops Q o K ρ w := by
  intro a ha
  rw [hg, if_neg (by simp)]
  exact ⟨_, ha.put o.dst hd undef, h⟩

theorem WO_enter {f : FuncId} {args : Array Value} {w' : World} {R : Value → World → Prop} (hg : wantedZ ops o ρ = true) (hd : o.dst.all (· < N) = true) (hrun : (execOp (ev ρ) o).run P w = .ok (.enter f args) w')
    (hc : CallsR P f args w' R) (h : ∀ v w'', R v w'' → K (putZ ρ o.dst v) w'') : WO P N ops Q o K ρ w := by
  intro a ha
  rw [hg, if_pos rfl]
  unfold Oper.wp
  rw [ha.eval, hrun]
  refine Calls.mono hc ?_
  rintro e w'' ⟨v, rfl, hR⟩
  exact ⟨_, ha.put o.dst hd v, h v w'' hR⟩
end

/-- A test's outcome is known from here on. -/
theorem WL_known (t : Nat) (b : Bool) (hv : ρ t = .bool b) (h : WL P N ops Q rest (upd ρ t (.bool b)) w) : WL P N ops Q rest ρ w := by
  rw [upd_same ρ t _ hv] at h; exact h
theorem WL_same {ρ' : Nat → Value} (e : ρ = ρ') (h : WL P N ops Q rest ρ' w) : WL P N ops Q rest ρ w := e ▸ h
/-- A frame of which these places are known. -/
def updL (ρ : Nat → Value) : List (Nat × Value) → (Nat → Value)
  | [] => ρ
  | (t, v) :: l => upd (updL ρ l) t v
def Holds (ρ : Nat → Value) : List (Nat × Value) → Prop
  | [] => True
  | (t, v) :: l => ρ t = v ∧ Holds ρ l
theorem updL_same (ρ : Nat → Value) : ∀ l : List (Nat × Value), Holds ρ l → ρ = updL ρ l
  | [], _ => rfl
  | (t, v) :: l, h => by
    unfold updL
    rw [← updL_same ρ l h.2, upd_same ρ t v h.1]
theorem bfalse {b : Bool} (h : ¬ b = true) : b = false := by cases b <;> simp_all
theorem vtrue {p : Prop} [Decidable p] (h : p) : Value.bool (decide p) = .bool true := congrArg Value.bool (decide_eq_true h)
theorem vfalse {p : Prop} [Decidable p] (h : ¬ p) : Value.bool (decide p) = .bool false := congrArg Value.bool (decide_eq_false h)
theorem wtrue {b : Bool} (h : b = true) : Value.bool b = .bool true := congrArg Value.bool h
theorem wfalse {b : Bool} (h : ¬ b = true) : Value.bool b = .bool false := congrArg Value.bool (bfalse h)
end
end Go.Z
