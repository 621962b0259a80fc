/- A part of an own library for walks over a Go program's form: no statement of the claim's own, no conditions. -/
import Derived.Test.YtlmdkofcombcmaaDoorZ11
namespace Go.Z
open Go
open Go.RowKit (wrap32 wrap64)
/-! ## 14. Maps -/
class Enc (α : Type) where
  enc : α → Value
instance : Enc Int := ⟨fun x => .int .i64 x⟩
instance : Enc Str := ⟨fun x => .string (sv x)⟩
instance : Enc Bool := ⟨fun x => .bool x⟩
class Key (α : Type) [DecidableEq α] extends Enc α where
  kind : TypeDesc
  now : ∀ a b : α, Instr.sameNow kind (enc a) (enc b) = some (decide (a = b))
  stays : ∀ a : α, Instr.sameBits 10000 (enc a) (enc a) = true
  flat : ∀ (P : Program) (w : World) (t : TypeId) (e : Bool) (a : α), P.underlying t = some kind → (Instr.checkKey e 10000 t (enc a)).run P w = .ok () w
theorem beq_sv (a b : Str) : (sv a == sv b) = decide (a = b) := by
  have e : (sv a == sv b) = (List.toArray (α := UInt8) a == List.toArray (α := UInt8) b) := rfl
  rw [e]
  by_cases h : a = b
  · subst h; rw [decide_eq_true rfl]; simp
  · rw [decide_eq_false h]; exact beq_false_of_ne fun h2 => h (congrArg Array.toList h2)
instance : Key Str where
  kind := .string
  now := fun a b => by show some (sv a == sv b) = _; rw [beq_sv]
  stays := fun a => by
    unfold Instr.sameBits
    show (sv a == sv a) = true
    rw [beq_sv]; simp
  flat := fun P w t e a h => by
    unfold Instr.checkKey
    simp only [Sem.run_bind, run_underlying h, Result.andThen]
    rfl
instance : Key Int where
  kind := .int .i64
  now := fun a b => by simp only [Instr.sameNow, Enc.enc, if_true]; rfl
  stays := fun a => by
    unfold Instr.sameBits
    simp [Enc.enc]
  flat := fun P w t e a h => by
    unfold Instr.checkKey
    simp only [Sem.run_bind, run_underlying h, Result.andThen]
    rfl

section
variable {K V : Type} [DecidableEq K] [Key K] [Enc V]
def mget : List (K × V) → K → Option V
  | [], _ => none
  | (a, v) :: m, k => if k = a then some v else mget m k
def mput : List (K × V) → K → V → List (K × V)
  | [], k, v => [(k, v)]
  | (a, x) :: m, k, v => if k = a then (k, v) :: m else (a, x) :: mput m k v
def ments (m : List (K × V)) : List (Value × Value) := m.map fun p => (Enc.enc p.1, Enc.enc p.2)
/-- A map's block. -/
def MPR (u : World) (b : Nat) (m : List (K × V)) : Prop := ∃ es clock, u.heap[b]? = some (.map es clock) ∧ es.toList.map (fun e => (e.key, e.val)) = ments m
theorem MPR.fr {u w : World} {b : Nat} {m : List (K × V)} (h : MPR u b m) (e : w.heap[b]? = u.heap[b]?) : MPR w b m :=
  let ⟨es, c, h1, h2⟩ := h
  ⟨es, c, e.trans h1, h2⟩
theorem MPR.now {u w : World} {b : Nat} {m : List (K × V)} (h : MPR u b m) (ag : Agree (one b) u w) : MPR w b m := h.fr (ag b rfl)
end
theorem Bx.fr {u w : World} {g : Nat} {cs : List Value} {T : TypeId} (h : Bx u g cs T) (e : w.heap[g]? = u.heap[g]?) : Bx w g cs T := e.trans h

section
variable {K V : Type} [DecidableEq K] [Key K] [Enc V]
theorem findNow_spec (k : K) : ∀ (m : List (K × V)) (es : List MapEntry) (i : Nat), es.map (fun e => (e.key, e.val)) = ments m →
    (mget m k = none ∧ Instr.findNow (Key.kind K) (Enc.enc k) es i = some none) ∨
    (∃ j v, mget m k = some v ∧ Instr.findNow (Key.kind K) (Enc.enc k) es i = some (some (i + j, Enc.enc v)) ∧ (es[j]?).map (·.key) = some (Enc.enc k) ∧
      ∀ x : V, (es.set j { (es[j]?).getD default with key := Enc.enc k, val := Enc.enc x }).map (fun e => (e.key, e.val)) = ments (mput m k x))
  | [], [], i, _ => .inl ⟨rfl, rfl⟩
  | [], e :: es, i, h => by simp [ments] at h
  | (a, v) :: m, [], i, h => by simp [ments] at h
  | (a, v) :: m, e :: es, i, h => by
    simp only [ments, List.map_cons, List.cons.injEq, Prod.mk.injEq] at h
    obtain ⟨⟨h1, h2⟩, h3⟩ := h
    unfold Instr.findNow mget
    rw [h1, Key.now]
    by_cases hk : k = a
    · subst hk
      rw [decide_eq_true rfl, if_pos rfl]
      refine .inr ⟨0, v, rfl, by simp only [Nat.add_zero]; rw [← h2], by simp [h1], fun x => ?_⟩
      simp [mput, ments, h3]
    · rw [decide_eq_false hk, if_neg hk]
      rcases findNow_spec k m es (i + 1) h3 with ⟨h4, h5⟩ | ⟨j, u, h4, h5, h6, h7⟩
      · exact .inl ⟨h4, h5⟩
      · refine .inr ⟨j + 1, u, h4, by rw [h5, show i + 1 + j = i + (j + 1) by omega], by simpa using h6, fun x => ?_⟩
        have := h7 x
        simp only [List.getElem?_cons_succ, List.set_cons_succ, List.map_cons, mput, if_neg hk, ments, this, h1, h2]
theorem put_new (k : K) (x : V) : ∀ (m : List (K × V)), mget m k = none → ments (mput m k x) = ments m ++ [(Enc.enc k, Enc.enc x)]
  | [], _ => rfl
  | (a, v) :: m, h => by
    unfold mget at h
    by_cases hk : k = a
    · rw [if_pos hk] at h; cases h
    · rw [if_neg hk] at h
      simp only [mput, if_neg hk, ments, List.map_cons, List.cons_append]
      congr 1
      exact put_new k x m h
end
section
variable {P : Program} {N : Nat} {Q : Post} {ρ : Nat → Value} {w : World} {ops : Array Oper} {C : (Nat → Value) → World → Prop} {d : Nat} {ty : TypeId} {pos : String} {af : Array Edge} {g : Option (Nat × Bool)} {L : List Ent} {K V : Type} [DecidableEq K] [Key K] [Enc V]
theorem L_makeMap {t : TypeId} (m : List (K × V)) (hm : m = []) (M : Mem w L) (hg : wantedZ ops ⟨some d, .makeMap t none, ty, pos, af, g⟩ ρ = true) (hd : Nat.ble (d + 1) N = true)
    (h : ∀ b w', MPR w' b m → Mem w' ((one b, w') :: L) → C (upd ρ d (.map (some b))) w') : WO P N ops Q ⟨some d, .makeMap t none, ty, pos, af, g⟩ C ρ w := by
  subst hm
  exact WO_val hg (dst_ok hd) (v := .map (some w.heap.size)) (w' := w.alloc (.map #[] 0)) (by rfl) (h _ _ ⟨#[], 0, alloc_new _, rfl⟩ (M.alloc _))
theorem R_findKey {kt : TypeId} (hk : P.underlying kt = some (Key.kind K)) (k : K) (es : List MapEntry) (r : Option (Nat × Value)) (h : Instr.findNow (Key.kind K) (Enc.enc k) es 0 = some r) : (Instr.findKey kt (Enc.enc k) es).run P w = .ok r w := by
  unfold Instr.findKey
  simp only [Sem.run_bind, run_underlying hk, Result.andThen, h]
  rfl
theorem L_lookup {t kt vt : TypeId} {x y : Operand} {b : Nat} {u : World} {m : List (K × V)} (hM : MPR u b m) (e : w.heap[b]? = u.heap[b]?) (hg : wantedZ ops ⟨some d, .lookup t x y false, ty, pos, af, g⟩ ρ = true) (hd : Nat.ble (d + 1) N = true)
    (hu : P.underlying t = some (.map kt vt)) (hk : P.underlying kt = some (Key.kind K)) (z0 : V) (hz : (P.info? vt).bind (·.zero) = some (Enc.enc z0)) (hx : ev ρ x = .map (some b)) (k : K) (hy : ev ρ y = Enc.enc k)
    (h : C (upd ρ d (Enc.enc ((mget m k).getD z0))) w) : WO P N ops Q ⟨some d, .lookup t x y false, ty, pos, af, g⟩ C ρ w :=
  WO_val hg (dst_ok hd) (by
    obtain ⟨es, clock, h1, h2⟩ := hM.fr e
    have e1 : (getObj b).run P w = .ok (.map es clock) w := by simp [getObj, Sem.run, h1]
    simp only [execOp, Instr.lookup, Sem.run_bind, hx, hy, run_underlying hu, e1, Sem.run_pure, Result.andThen, Key.flat P w kt _ k hk]
    rcases findNow_spec k m es.toList 0 h2 with ⟨h4, h5⟩ | ⟨j, v, h4, h5, _⟩
    · simp [R_findKey hk k _ _ h5, h4, R_zero hz]
    · simp [R_findKey hk k _ _ h5, h4]) h
theorem L_lookup2 {t kt vt : TypeId} {x y : Operand} {b : Nat} {u : World} {m : List (K × V)} (hM : MPR u b m) (e : w.heap[b]? = u.heap[b]?) (hg : wantedZ ops ⟨some d, .lookup t x y true, ty, pos, af, g⟩ ρ = true) (hd : Nat.ble (d + 1) N = true)
    (hu : P.underlying t = some (.map kt vt)) (hk : P.underlying kt = some (Key.kind K)) (z0 : V) (hz : (P.info? vt).bind (·.zero) = some (Enc.enc z0)) (hx : ev ρ x = .map (some b)) (k : K) (hy : ev ρ y = Enc.enc k)
    (h : C (upd ρ d (.tuple #[Enc.enc ((mget m k).getD z0), .bool (mget m k).isSome])) w) : WO P N ops Q ⟨some d, .lookup t x y true, ty, pos, af, g⟩ C ρ w :=
  WO_val hg (dst_ok hd) (by
    obtain ⟨es, clock, h1, h2⟩ := hM.fr e
    have e1 : (getObj b).run P w = .ok (.map es clock) w := by simp [getObj, Sem.run, h1]
    simp only [execOp, Instr.lookup, Sem.run_bind, hx, hy, run_underlying hu, e1, Sem.run_pure, Result.andThen, Key.flat P w kt _ k hk]
    rcases findNow_spec k m es.toList 0 h2 with ⟨h4, h5⟩ | ⟨j, v, h4, h5, _⟩
    · simp [R_findKey hk k _ _ h5, h4, R_zero hz]
    · simp [R_findKey hk k _ _ h5, h4]) h
theorem L_mapUpdate {t kt vt : TypeId} {x y v : Operand} {b : Nat} {u : World} {m : List (K × V)} (M : Mem w ((one b, u) :: L)) (hM : MPR u b m) (hg : wantedZ ops ⟨none, .mapUpdate t x y v, ty, pos, af, g⟩ ρ = true)
    (hu : P.underlying t = some (.map kt vt)) (hk : P.underlying kt = some (Key.kind K)) (hx : ev ρ x = .map (some b)) (k : K) (hy : ev ρ y = Enc.enc k) (a : V) (hv : ev ρ v = Enc.enc a)
    (h : ∀ w', MPR w' b (mput m k a) → Mem w' ((one b, w') :: L) → C ρ w') : WO P N ops Q ⟨none, .mapUpdate t x y v, ty, pos, af, g⟩ C ρ w := by
  obtain ⟨es, clock, h1, h2⟩ := hM.now (M.agree 0 rfl)
  have hlt : b < w.heap.size := (Array.getElem?_eq_some_iff.1 h1).1
  have e1 : (getObj b).run P w = .ok (.map es clock) w := by simp [getObj, Sem.run, h1]
  have e2 : ∀ o, (setObj b o).run P w = .ok () { w with heap := w.heap.setIfInBounds b o } := fun o => by simp [setObj, Sem.run, h1]
  have key : ∀ es' clock', es'.toList.map (fun e => (e.key, e.val)) = ments (mput m k a) → (Instr.mapUpdate t (.map (some b)) (Enc.enc k) (Enc.enc a)).run P w = .ok () { w with heap := w.heap.setIfInBounds b (.map es' clock') } →
      WO P N ops Q ⟨none, .mapUpdate t x y v, ty, pos, af, g⟩ C ρ w := fun es' clock' h3 hr =>
    WO_skip hg rfl (w' := { w with heap := w.heap.setIfInBounds b (.map es' clock') }) (by simp only [execOp, Sem.run_bind, hx, hy, hv, hr]; rfl)
      (h _ ⟨es', clock', by simp [hlt], h3⟩ (putObj_mem M))
  rcases findNow_spec k m es.toList 0 h2 with ⟨h4, h5⟩ | ⟨j, v', h4, h5, h6, h7⟩
  · refine key (es.push { key := Enc.enc k, val := Enc.enc a, born := clock }) (clock + 1) ?_ ?_
    · rw [put_new k a m h4, ← h2]; simp
    · simp only [Instr.mapUpdate, Sem.run_bind, run_underlying hu, Result.andThen, e1, Key.flat P w kt _ k hk]
      simp [R_findKey hk k _ _ h5, e2]
  · have hj : j < es.size := by
      cases hh : es.toList[j]? with
      | none => rw [hh] at h6; cases h6
      | some z => have := (List.getElem?_eq_some_iff.1 hh).1; simpa using this
    refine key (es.modify j fun e => { e with key := Enc.enc k, val := Enc.enc a }) clock ?_ ?_
    · rw [← h7 a]
      congr 1
      apply List.ext_getElem?
      intro i
      simp only [Array.getElem?_toList, Array.getElem?_modify, List.getElem?_set]
      by_cases hi : j = i
      · subst hi; simp [hj]
      · simp [hi]
    · simp only [Instr.mapUpdate, Sem.run_bind, run_underlying hu, Result.andThen, e1, Key.flat P w kt _ k hk]
      have h8 : ((es[j]?).map (·.key)).getD (Enc.enc k) = Enc.enc k := by
        have : (es[j]?).map (·.key) = some (Enc.enc k) := by simpa using h6
        rw [this]; rfl
      have e3 : (Instr.keyThatStays (((es[j]?).map (·.key)).getD (Enc.enc k)) (Enc.enc k)).run P w = .ok (Enc.enc k) w := by
        rw [h8]; unfold Instr.keyThatStays; rw [if_pos (Key.stays k)]; rfl
      rw [R_findKey hk k _ _ h5]
      simp only [Result.andThen, Nat.zero_add, Sem.run_bind]
      rw [e3]
      exact e2 _
end
end Go.Z
