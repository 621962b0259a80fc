/- A part of an own library for walks over a Go program's form: no statement of the claim's own, no conditions. -/
import Derived.Test.YtlmdkofcombcmaaDoorZ4
namespace Go.Z
open Go
open Go.RowKit (wrap32 wrap64)

/-! ## 5. Calls -/
section
variable {P : Program} {N : Nat} {Q : Post} {ρ : Nat → Value} {w : World} {ops : Array Oper} {K : (Nat → Value) → World → Prop} {dst : Option Nat} {ty : TypeId} {pos : String} {af : Array Edge} {g : Option (Nat × Bool)}

theorem R_call {f : FuncId} {fn : Func} (hf : P.funcs[f]? = some fn) (hn : (fn.name == "runtime.NumGoroutine") = false) (hb : fn.body.isNone = false) (args : Array Value) (w : World) : (callFunc f args).run P w = .ok (.enter f args) w := by
  have e : (program).run P w = .ok P w := rfl
  simp only [callFunc, Sem.run_bind, e, Result.andThen, hf, hn, hb]
  rfl
theorem L_call {f : FuncId} {xs : Array Operand} {ats : Array TypeId} (hg : wantedZ ops ⟨dst, .call ⟨.value (.func f), xs, ats⟩, ty, pos, af, g⟩ ρ = true) (hd : dst.all (· < N) = true)
    (hcf : ∀ (args : Array Value) (w : World), (callFunc f args).run P w = .ok (.enter f args) w) (args : List Value) (hx : xs.map (ev ρ) = args.toArray) {R : Value → World → Prop} (hc : CallsR P f args.toArray w R)
    (h : ∀ v w', R v w' → K (putZ ρ dst v) w') : WO P N ops Q ⟨dst, .call ⟨.value (.func f), xs, ats⟩, ty, pos, af, g⟩ K ρ w :=
  WO_enter hg hd (by
    have : #[] ++ (xs.map (ev ρ)) ++ #[] = args.toArray := by rw [hx]; simp
    simp only [execOp, resolve, ev, Deferred.ofValue, Sem.run_bind, Sem.run_pure, Result.andThen, invoke]
    rw [this]
    exact hcf _ _) hc h
/-- A call through a function value. -/
theorem L_callv {x : Operand} {f : FuncId} {fi : Array Value} {cap : Array Value} {xs : Array Operand} {ats : Array TypeId} (hg : wantedZ ops ⟨dst, .call ⟨.value x, xs, ats⟩, ty, pos, af, g⟩ ρ = true) (hd : dst.all (· < N) = true)
    (hcf : ∀ (args : Array Value) (w : World), (callFunc f args).run P w = .ok (.enter f args) w) (hv : ev ρ x = .func (.func f) fi cap) (args : List Value) (hx : fi ++ xs.map (ev ρ) ++ cap = args.toArray) {R : Value → World → Prop} (hc : CallsR P f args.toArray w R)
    (h : ∀ v w', R v w' → K (putZ ρ dst v) w') : WO P N ops Q ⟨dst, .call ⟨.value x, xs, ats⟩, ty, pos, af, g⟩ K ρ w :=
  WO_enter hg hd (by
    simp only [execOp, resolve, hv, Deferred.ofValue, Sem.run_bind, Sem.run_pure, Result.andThen, invoke]
    rw [hx]
    exact hcf _ _) hc h
end

/-! ## 6. Regions that draw their order -/
section
variable {P : Program} {ops : Array Oper} {Q : Exit → Act → World → Prop} {S : World → Prop} {T : List Nat}

def clear (T : List Nat) (listed : Array Bool) : Prop := ∀ t ∈ T, listed.getD t true = false
/-- Whatever order is picked from here on; S holds behind each operation till one of T has come up. -/
def AnyT (P : Program) (ops : Array Oper) (Q : Exit → Act → World → Prop) (S : World → Prop) (T : List Nat) : Nat → Array Bool → Act → World → Prop
  | 0, listed, a, w => Region.ready .any ops listed = [] ∧ Q .normal a w
  | n + 1, listed, a, w => (Region.ready .any ops listed = [] → Q .normal a w) ∧
      ∀ i ∈ Region.ready .any ops listed, wpOp P ops Q i (fun a' w' => (clear T (listed.setIfInBounds i true) → S w') ∧ AnyT P ops Q S T n (listed.setIfInBounds i true) a' w') a w

theorem AnyT.any : ∀ (n : Nat) (listed : Array Bool) (a : Act) (w : World), AnyT P ops Q S T n listed a w → wpAny P .any ops Q n listed a w
  | 0, _, _, _, h => h
  | n + 1, _, _, _, h => ⟨h.1, fun i hi => wpOp_mono (fun a' w' hh => AnyT.any n _ a' w' hh.2) (h.2 i hi)⟩

/-- i, which may come up, is no one of T and is waited for by all of T, and yields v wherever S holds, may be taken first. -/
theorem AnyT.first {i : Nat} {oi : Oper} {v : Value} (hi : ops[i]? = some oi) (hsel : ∀ (j : Nat) (o : Oper) cs b, ops[j]? = some o → o.op ≠ .select cs b)
    (hQ : ∀ c a w, Q (.panic c) (a.put oi.dst v) w → Q (.panic c) a w) (hT : ∀ t ∈ T, t ≠ i ∧ ∃ o, ops[t]? = some o ∧ ∃ e ∈ o.after, Region.binds .any e = true ∧ e.on = i) :
    ∀ (n : Nat) (listed : Array Bool) (a : Act) (w : World),
      (∀ j oj, ops[j]? = some oj → j ≠ i → listed.getD j true = false → (∀ e ∈ oj.after, Region.binds .any e = true → e.on ≠ i) → oi.apart ops oj = true) →
      clear T listed → i ∈ Region.ready .any ops listed → YieldsIf P ops S oi v a → S w →
      AnyT P ops Q S T n (listed.setIfInBounds i true) (a.put oi.dst v) w → AnyT P ops Q S T (n + 1) listed a w := by
  intro n
  induction n with
  | zero =>
    intro listed a w _ _ hr hy hS H
    refine ⟨fun h => absurd hr (by rw [h]; simp), fun j hj => ?_⟩
    by_cases hji : j = i
    · subst hji; exact hy.wpOp hi hS ⟨fun _ => hS, H⟩
    · have := ready_mono hj hji
      rw [H.1] at this
      simp at this
  | succ n ih =>
    intro listed a w hfree hcl hr hy hS H
    refine ⟨fun h => absurd hr (by rw [h]; simp), fun j hj => ?_⟩
    by_cases hji : j = i
    · subst hji; exact hy.wpOp hi hS ⟨fun _ => hS, H⟩
    · have h1 := H.2 j (ready_mono hj hji)
      obtain ⟨hjun, oj, hoj, hall⟩ := mem_ready.1 hj
      have hiun := (mem_ready.1 hr).1
      have hsz : i < listed.size := by
        rcases Nat.lt_or_ge i listed.size with h' | h'
        · exact h'
        · rw [Array.getD_eq_getD_getElem?, Array.getElem?_eq_none h'] at hiun; simp at hiun
      have hwait : ∀ (o : Oper), (∃ e ∈ o.after, Region.binds .any e = true ∧ e.on = i) → ¬ (∀ e ∈ o.after, Region.binds .any e = true → listed.getD e.on false = true) := fun o ⟨e, he, hb, hei⟩ hh => by
        have h2 := hh e he hb
        rw [hei] at h2
        rw [Array.getD_eq_getD_getElem?, Array.getElem?_eq_getElem hsz] at hiun h2
        simp at hiun h2
        rw [hiun] at h2; cases h2
      have hnot : ∀ e ∈ oj.after, Region.binds .any e = true → e.on ≠ i := fun e he hb heq => hwait oj ⟨e, he, hb, heq⟩ hall
      have hjT : ∀ t ∈ T, t ≠ j := fun t ht e => by
        subst e
        obtain ⟨_, o, ho, hw⟩ := hT _ ht
        rw [hoj] at ho
        cases ho
        exact hwait oj hw hall
      have hcl' : clear T (listed.setIfInBounds j true) := fun t ht => by rw [getD_set_ne true (Ne.symm (hjT t ht))]; exact hcl t ht
      have h2 := wpOp_putIf hoj (hfree j oj hoj hji hjun hnot) (fun cs b => hsel i oi cs b hi) (fun cs b => hsel j oj cs b hoj) hQ hy h1
      refine wpOp_mono (fun a' w' h3 => ?_) h2
      have hcl2 : clear T ((listed.setIfInBounds i true).setIfInBounds j true) := fun t ht => by
        rw [getD_set_ne true (Ne.symm (hjT t ht)), getD_set_ne true (Ne.symm (hT t ht).1)]; exact hcl t ht
      have hS' := h3.2.1 hcl2
      refine ⟨fun _ => hS', ih (listed.setIfInBounds j true) a' w' (fun k ok hk hki hun hno => hfree k ok hk hki ?_ hno) hcl' (ready_mono hr (Ne.symm hji)) h3.1 hS' ?_⟩
      · by_cases hjk : j = k
        · subst hjk; exact hjun
        · rw [getD_set_ne true hjk] at hun; exact hun
      · rw [Array.setIfInBounds_comm _ _ hji]
        exact h3.2.2
end

/-- The same over frames as functions. -/
def WD (P : Program) (N : Nat) (ops : Array Oper) (Q : Post) (S : World → Prop) (T : List Nat) (n : Nat) (listed : Array Bool) (ρ : Nat → Value) (w : World) : Prop :=
  ∀ a, At N ρ a → AnyT P ops (lift N Q) S T n listed a w
def waitsFor (ops : Array Oper) (T : List Nat) (i : Nat) : Bool :=
  T.all fun t => t != i && match ops[t]? with
    | some o => o.after.any fun e => Region.binds .any e && e.on == i
    | none => false
def clearB (T : List Nat) (listed : Array Bool) : Bool := T.all fun t => !(listed.getD t true)
def drawnZ (w : World) : World := { w with drawn := w.drawn + 1 }
theorem Mem.drawn {w : World} {L : List Ent} (h : Mem w L) : Mem (drawnZ w) L := h.same (w' := drawnZ w) ⟨Nat.le_refl _, rfl, rfl, rfl⟩ (fun _ _ => rfl)

section
variable {P : Program} {N : Nat} {ops : Array Oper} {Q : Post} {ρ : Nat → Value} {w : World} {S : World → Prop} {T : List Nat} {n : Nat} {listed : Array Bool}

theorem WD_start (S : World → Prop) (T : List Nat) {id : Nat} {l : List Oper} (hm : P.follows .mixedOrders = true) (hs : Nat.beq l.length n = true) (h : WD P N l.toArray Q S T n (Array.replicate n false) ρ (drawnZ w)) : WC P N (.region id l.toArray true) Q ρ w := by
  intro a ha
  have e : l.toArray.size = n := by simpa using Nat.eq_of_beq_eq_true hs
  refine wp_region_any hm ?_
  rw [e]
  exact AnyT.any _ _ _ _ (h a ha)

theorem WD_done (hr : Region.ready .any ops listed = []) (h : Q .normal ρ w) : WD P N ops Q S T n listed ρ w := by
  intro a ha
  cases n with
  | zero => exact ⟨hr, ρ, ha, h⟩
  | succ n => exact ⟨fun _ => ⟨ρ, ha, h⟩, by rw [hr]; simp⟩

theorem waits_spec {i : Nat} (h : waitsFor ops T i = true) : ∀ t ∈ T, t ≠ i ∧ ∃ o, ops[t]? = some o ∧ ∃ e ∈ o.after, Region.binds .any e = true ∧ e.on = i := by
  intro t ht
  have := List.all_eq_true.1 h t ht
  simp only [Bool.and_eq_true, bne_iff_ne] at this
  refine ⟨this.1, ?_⟩
  cases ho : ops[t]? with
  | none => rw [ho] at this; simp at this
  | some o =>
    rw [ho] at this
    obtain ⟨e, he, hh⟩ := Array.any_eq_true'.1 this.2
    simp only [Bool.and_eq_true, beq_iff_eq] at hh
    exact ⟨o, rfl, e, he, hh⟩
theorem clear_spec (h : clearB T listed = true) : clear T listed := fun t ht => by
  have := List.all_eq_true.1 h t ht
  simpa using this

theorem WD_take (i : Nat) {oi : Oper} (hi : ops[i]? = some oi) (hs : Region.noSelect ops = true) (hf : Region.free .any ops listed i = true) (hr : (Region.ready .any ops listed).contains i = true) (hT : waitsFor ops T i = true) (hc : clearB T listed = true)
    (hQ : ∀ c ρ w, ¬ Q (.panic c) ρ w) (hd : oi.dst.all (· < N) = true) (v : Value) (hS : S w) (hy : wantedZ ops oi ρ = true ∧ (∀ w', S w' → (execOp (ev ρ) oi).run P w' = .ok (.value v) w') ∨ wantedZ ops oi ρ = false ∧ v = undef)
    (h : WD P N ops Q S T n (listed.setIfInBounds i true) (putZ ρ oi.dst v) w) : WD P N ops Q S T (n + 1) listed ρ w := by
  intro a ha
  refine AnyT.first (v := v) hi (Region.noSelect_spec hs) (fun c a' w' ⟨ρ', _, hh⟩ => (hQ c ρ' w' hh).elim) (waits_spec hT) n listed a w (Region.free_spec hi hf) (clear_spec hc) (by simpa using hr) ?_ hS (h _ (ha.put oi.dst hd v))
  unfold YieldsIf
  rw [wanted_eq ha, ha.eval]
  exact hy

theorem WD_one (i : Nat) {oi : Oper} (hi : ops[i]? = some oi) (hr : Region.ready .any ops listed = [i])
    (h : WO P N ops Q oi (fun ρ w => (clearB T (listed.setIfInBounds i true) = true → S w) ∧ WD P N ops Q S T n (listed.setIfInBounds i true) ρ w) ρ w) : WD P N ops Q S T (n + 1) listed ρ w := by
  intro a ha
  refine ⟨fun h0 => by rw [hr] at h0; simp at h0, fun j hj => ?_⟩
  rw [hr] at hj
  obtain rfl := List.mem_singleton.1 hj
  have hh := h a ha
  unfold wpOp
  rw [hi]
  simp only
  rw [wanted_eq ha]
  have hcl : clear T (listed.setIfInBounds j true) → clearB T (listed.setIfInBounds j true) = true := fun hc => List.all_eq_true.2 fun t ht => by rw [hc t ht]; rfl
  cases hw : wantedZ ops oi ρ with
  | true =>
    rw [hw, if_pos rfl] at hh
    rw [if_pos rfl]
    exact .inl (Oper.wp_mono' (fun a' w' ⟨ρ', h1, h2, h3⟩ => ⟨fun hc => h2 (hcl hc), h3 a' h1⟩) hh)
  | false =>
    rw [hw, if_neg (by simp)] at hh
    rw [if_neg (by simp)]
    obtain ⟨ρ', h1, h2, h3⟩ := hh
    exact ⟨fun hc => h2 (hcl hc), h3 _ h1⟩
/-- Two may come up. -/
theorem WD_two (i j : Nat) {oi oj : Oper} (hi : ops[i]? = some oi) (hj : ops[j]? = some oj) (hr : Region.ready .any ops listed = [i, j])
    (h : WO P N ops Q oi (fun ρ w => (clearB T (listed.setIfInBounds i true) = true → S w) ∧ WD P N ops Q S T n (listed.setIfInBounds i true) ρ w) ρ w)
    (h2 : WO P N ops Q oj (fun ρ w => (clearB T (listed.setIfInBounds j true) = true → S w) ∧ WD P N ops Q S T n (listed.setIfInBounds j true) ρ w) ρ w) : WD P N ops Q S T (n + 1) listed ρ w := by
  intro a ha
  refine ⟨fun h0 => by rw [hr] at h0; simp at h0, fun k hk => ?_⟩
  rw [hr] at hk
  have key : ∀ (k : Nat) (ok : Oper), ops[k]? = some ok → WO P N ops Q ok (fun ρ w => (clearB T (listed.setIfInBounds k true) = true → S w) ∧ WD P N ops Q S T n (listed.setIfInBounds k true) ρ w) ρ w →
      wpOp P ops (lift N Q) k (fun a' w' => (clear T (listed.setIfInBounds k true) → S w') ∧ AnyT P ops (lift N Q) S T n (listed.setIfInBounds k true) a' w') a w := by
    intro k ok hk h
    have hh := h a ha
    unfold wpOp
    rw [hk]
    simp only
    rw [wanted_eq ha]
    have hcl : clear T (listed.setIfInBounds k true) → clearB T (listed.setIfInBounds k true) = true := fun hc => List.all_eq_true.2 fun t ht => by rw [hc t ht]; rfl
    cases hw : wantedZ ops ok ρ with
    | true =>
      rw [hw, if_pos rfl] at hh
      rw [if_pos rfl]
      exact .inl (Oper.wp_mono' (fun a' w' ⟨ρ', h1, h2, h3⟩ => ⟨fun hc => h2 (hcl hc), h3 a' h1⟩) hh)
    | false =>
      rw [hw, if_neg (by simp)] at hh
      rw [if_neg (by simp)]
      obtain ⟨ρ', h1, h2, h3⟩ := hh
      exact ⟨fun hc => h2 (hcl hc), h3 _ h1⟩
  simp only [List.mem_cons, List.not_mem_nil, or_false] at hk
  rcases hk with rfl | rfl
  · exact key _ _ hi h
  · exact key _ _ hj h2
theorem WD_known (t : Nat) (b : Bool) (hv : ρ t = .bool b) (h : WD P N ops Q S T n listed (upd ρ t (.bool b)) w) : WD P N ops Q S T n listed ρ w := by
  rw [upd_same ρ t _ hv] at h; exact h
end
end Go.Z
