/- A part of an own library for walks over a Go program's form: no statement of the claim's own, no conditions. -/
import Derived.Test.YtlmdkofcombcmaaDoorZ8
namespace Go.Z
open Go
open Go.RowKit (wrap32 wrap64)
/-! ## 11. Pointers, structs that are compared -/
section
variable {P : Program} {N : Nat} {ops : Array Oper} {Q : Post} {ρ : Nat → Value} {w : World} {S : World → Prop} {T : List Nat} {n : Nat} {listed : Array Bool}
theorem WD_nil (i : Nat) {d : Nat} {x : Operand} {ty : TypeId} {pos : String} {af : Array Edge} {g : Option (Nat × Bool)} (hi : ops[i]? = some ⟨some d, .nilCheck x, ty, pos, af, g⟩) (hs : Region.noSelect ops = true) (hf : Region.free .any ops listed i = true) (hr : (Region.ready .any ops listed).contains i = true) (hT : waitsFor ops T i = true) (hc : clearB T listed = true)
    (hQ : ∀ c ρ w, ¬ Q (.panic c) ρ w) (hd : Nat.ble (d + 1) N = true) (A : Addr) (hx : ev ρ x = .pointer (some A)) (hg : wantedZ ops ⟨some d, .nilCheck x, ty, pos, af, g⟩ ρ = true) (hS : S w)
    (h : WD P N ops Q S T n (listed.setIfInBounds i true) (upd ρ d (.pointer (some A))) w) : WD P N ops Q S T (n + 1) listed ρ w :=
  WD_take i hi hs hf hr hT hc hQ (dst_ok hd) (.pointer (some A)) hS (.inl ⟨hg, fun w' _ => by simp [execOp, hx]⟩) h
end
section
variable {P : Program} {w : World}
theorem R_part {t : TypeId} {dd : TypeDesc} (hu : P.underlying t = some dd) (ha : aggB dd = false) (l : List Value) (i : Nat) (v : Value) (hv : l[i]? = some v) (w : World) : (part t l.toArray i).run P w = .ok v w := by
  simp only [part, Sem.run_bind, R_agg hu, ha, Result.andThen]
  simp [hv]
theorem eqi_string (d : Nat) (t : TypeId) (hu : P.underlying t = some .string) (a b : Str) : (Op.equalIn (d + 1) t (.string (sv a)) (.string (sv b))).run P w = .ok (decide (a = b)) w := by
  unfold Op.equalIn
  simp only [Sem.run_bind, run_underlying hu, Result.andThen]
  show Result.ok _ w = _
  congr 1
  have e : (sv a == sv b) = (List.toArray (α := UInt8) a == List.toArray (α := UInt8) b) := rfl
  rw [e]
  by_cases h : a = b
  · subst h; rw [decide_eq_true rfl]; simp
  · rw [decide_eq_false h]; exact beq_false_of_ne fun h2 => h (congrArg Array.toList h2)
theorem eqi_int (d : Nat) (t : TypeId) (k : IntKind) (hu : P.underlying t = some (.int k)) (a b : Int) : (Op.equalIn (d + 1) t (.int k a) (.int k b)).run P w = .ok (decide (a = b)) w := by
  unfold Op.equalIn
  simp only [Sem.run_bind, run_underlying hu, Result.andThen]
  simp only [if_true]
  show Result.ok _ w = _
  congr 1
theorem eqi_bool (d : Nat) (t : TypeId) (hu : P.underlying t = some .bool) (a b : Bool) : (Op.equalIn (d + 1) t (.bool a) (.bool b)).run P w = .ok (decide (a = b)) w := by
  unfold Op.equalIn
  simp only [Sem.run_bind, run_underlying hu, Result.andThen]
  show Result.ok _ w = _
  cases a <;> cases b <;> rfl
end
end Go.Z
