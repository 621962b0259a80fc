/- A part of an own library for walks over a Go program's form: no statement of the claim's own, no conditions. -/
import Derived.Test.YtlmdkofcombcmaaDoorZ3
namespace Go.Z
open Go
open Go.RowKit (wrap32 wrap64)

/-! ## 4. Memory -/
abbrev BS := Nat → Prop
def one (g : Nat) : BS := fun b => b = g
def Agree (S : BS) (u w : World) : Prop := ∀ b, S b → w.heap[b]? = u.heap[b]?
structure Later (u w : World) : Prop where
  size : u.heap.size ≤ w.heap.size
  os : w.os = u.os
  tape : w.tape = u.tape
  output : w.output = u.output
theorem Later.refl (u : World) : Later u u := ⟨Nat.le_refl _, rfl, rfl, rfl⟩
theorem Later.trans {u v w : World} (h : Later u v) (k : Later v w) : Later u w := ⟨Nat.le_trans h.size k.size, k.os.trans h.os, k.tape.trans h.tape, k.output.trans h.output⟩
theorem Agree.refl (S : BS) (u : World) : Agree S u u := fun _ _ => rfl
theorem Agree.trans {S : BS} {u v w : World} (h : Agree S u v) (k : Agree S v w) : Agree S u w := fun b hb => (k b hb).trans (h b hb)
theorem Agree.sub {S S' : BS} {u w : World} (h : Agree S u w) (hs : ∀ b, S' b → S b) : Agree S' u w := fun b hb => h b (hs b hb)

abbrev Ent := BS × World
/-- The world holds these parts, each as it was learned, none with a block of another. -/
structure Mem (w : World) (L : List Ent) : Prop where
  each : ∀ e ∈ L, Later e.2 w ∧ Agree e.1 e.2 w ∧ ∀ b, e.1 b → b < e.2.heap.size
  apart : L.Pairwise fun e f => ∀ b, e.1 b → ¬ f.1 b

theorem Mem.agree {w : World} {L : List Ent} (h : Mem w L) (i : Nat) {S : BS} {u : World} (hi : L[i]? = some (S, u)) : Agree S u w := (h.each _ (List.mem_of_getElem? hi)).2.1
theorem Mem.later {w : World} {L : List Ent} (h : Mem w L) (i : Nat) {S : BS} {u : World} (hi : L[i]? = some (S, u)) : Later u w := (h.each _ (List.mem_of_getElem? hi)).1
theorem Mem.below {w : World} {L : List Ent} (h : Mem w L) (i : Nat) {S : BS} {u : World} (hi : L[i]? = some (S, u)) : ∀ b, S b → b < w.heap.size := fun b hb =>
  Nat.lt_of_lt_of_le ((h.each _ (List.mem_of_getElem? hi)).2.2 b hb) (h.later i hi).size
theorem Mem.perm {w : World} {L L' : List Ent} (h : Mem w L) (p : L.Perm L') : Mem w L' :=
  ⟨fun e he => h.each e (p.mem_iff.2 he), (p.pairwise_iff (fun {_ _} h b hy hx => h b hx hy)).1 h.apart⟩
theorem Mem.sub {w : World} {L L' : List Ent} (h : Mem w L) (p : L'.Sublist L) : Mem w L' :=
  ⟨fun e he => h.each e (p.subset he), h.apart.sublist p⟩
theorem Mem.front {w : World} {L : List Ent} (h : Mem w L) (A : List Ent) {e : Ent} {B : List Ent} (hL : L = A ++ e :: B) : Mem w (e :: (A ++ B)) :=
  h.perm (by rw [hL]; exact List.perm_middle)
theorem Mem.drop {w : World} {e : Ent} {L : List Ent} (h : Mem w (e :: L)) : Mem w L := h.sub (List.sublist_cons_self e L)
theorem Mem.start (w : World) (S : BS) (h : ∀ b, S b → b < w.heap.size) : Mem w [(S, w)] :=
  ⟨fun e he => by
    obtain rfl := List.mem_singleton.1 he
    exact ⟨Later.refl _, Agree.refl _ _, h⟩, List.pairwise_singleton _ _⟩

/-- The first part is changed, or grows by what is new; all else is as it was. -/
theorem Mem.change {w w' : World} {S S' : BS} {u : World} {L : List Ent} (h : Mem w ((S, u) :: L)) (hl : Later w w')
    (hag : ∀ b, b < w.heap.size → ¬ S b → w'.heap[b]? = w.heap[b]?) (hS : ∀ b, S' b → (S b ∨ w.heap.size ≤ b) ∧ b < w'.heap.size) : Mem w' ((S', w') :: L) := by
  have ha := List.pairwise_cons.1 h.apart
  have hlt : ∀ e ∈ L, ∀ b, e.1 b → b < w.heap.size := fun e he b hb =>
    have h1 := h.each e (List.mem_cons_of_mem _ he)
    Nat.lt_of_lt_of_le (h1.2.2 b hb) h1.1.size
  refine ⟨fun e he => ?_, List.pairwise_cons.2 ⟨fun e he b hb hb2 => ?_, ha.2⟩⟩
  · rcases List.mem_cons.1 he with rfl | he
    · exact ⟨Later.refl _, Agree.refl _ _, fun b hb => (hS b hb).2⟩
    · have h1 := h.each e (List.mem_cons_of_mem _ he)
      exact ⟨h1.1.trans hl, h1.2.1.trans fun b hb => hag b (hlt e he b hb) (fun hs => ha.1 e he b hs hb), h1.2.2⟩
  · rcases (hS b hb).1 with h1 | h1
    · exact ha.1 e he b h1 hb2
    · exact absurd (hlt e he b hb2) (by omega)
/-- Something new. -/
theorem Mem.new {w w' : World} {S' : BS} {L : List Ent} (h : Mem w L) (hl : Later w w') (hag : ∀ b, b < w.heap.size → w'.heap[b]? = w.heap[b]?) (hS : ∀ b, S' b → w.heap.size ≤ b ∧ b < w'.heap.size) : Mem w' ((S', w') :: L) := by
  have h0 : Mem w (((fun _ => False : BS), w) :: L) := by
    refine ⟨fun e he => ?_, List.pairwise_cons.2 ⟨fun _ _ _ hb => hb.elim, h.apart⟩⟩
    rcases List.mem_cons.1 he with rfl | he
    · exact ⟨Later.refl _, Agree.refl _ _, fun _ hb => hb.elim⟩
    · exact h.each e he
  exact h0.change hl (fun b hb _ => hag b hb) (fun b hb => ⟨.inr (hS b hb).1, (hS b hb).2⟩)
/-- Nothing is changed. -/
theorem Mem.same {w w' : World} {L : List Ent} (h : Mem w L) (hl : Later w w') (hag : ∀ b, b < w.heap.size → w'.heap[b]? = w.heap[b]?) : Mem w' L :=
  (h.new (S' := fun _ => False) hl hag (fun _ hb => hb.elim)).drop

def none0 : BS := fun _ => False
theorem Mem.empty {w : World} {L : List Ent} (h : Mem w L) : Mem w ((none0, w) :: L) := by
  refine ⟨fun e he => ?_, List.pairwise_cons.2 ⟨fun _ _ _ hb => hb.elim, h.apart⟩⟩
  rcases List.mem_cons.1 he with rfl | he
  · exact ⟨Later.refl _, Agree.refl _ _, fun _ hb => hb.elim⟩
  · exact h.each e he
theorem Mem.rebase {w : World} {S : BS} {u : World} {L : List Ent} (h : Mem w ((S, u) :: L)) : Mem w ((S, w) :: L) :=
  h.change (Later.refl _) (fun _ _ _ => rfl) (fun b hb => ⟨.inl hb, h.below 0 rfl b hb⟩)

/-- What a called function must leave alone: all these parts. -/
def Un (L : List Ent) : BS := fun b => ∃ e ∈ L, e.1 b
theorem Un.at {L : List Ent} (i : Nat) {S : BS} {u : World} (hi : L[i]? = some (S, u)) : ∀ b, S b → Un L b := fun _ hb => ⟨_, List.mem_of_getElem? hi, hb⟩
theorem Mem.frame {w : World} {L : List Ent} (h : Mem w L) : ∀ b, Un L b → b < w.heap.size := fun b ⟨e, he, hb⟩ =>
  have h1 := h.each e he
  Nat.lt_of_lt_of_le (h1.2.2 b hb) h1.1.size
/-- Behind a call that leaves 'Un L' alone and hands over new parts. -/
theorem Mem.back {w w' : World} {L New : List Ent} (h : Mem w L) (k : Mem w' (New ++ [(Un L, w)])) : Mem w' (New ++ L) := by
  have hU : Later w w' ∧ Agree (Un L) w w' := by
    have := k.each (Un L, w) (by simp)
    exact ⟨this.1, this.2.1⟩
  have hp := List.pairwise_append.1 k.apart
  refine ⟨fun e he => ?_, List.pairwise_append.2 ⟨hp.1, h.apart, fun e he f hf b h1 h2 => hp.2.2 e he (Un L, w) (by simp) b h1 ⟨f, hf, h2⟩⟩⟩
  rcases List.mem_append.1 he with he | he
  · exact k.each e (List.mem_append_left _ he)
  · have h1 := h.each e he
    exact ⟨h1.1.trans hU.1, h1.2.1.trans (hU.2.sub fun b hb => ⟨e, he, hb⟩), h1.2.2⟩
/-- Ahead of a call that takes the first part over: as it is now. -/
theorem Mem.lend {w : World} {S : BS} {u : World} {L : List Ent} (h : Mem w ((S, u) :: L)) : Mem w [(S, w), (Un L, w)] := by
  have ha := List.pairwise_cons.1 h.apart
  refine ⟨fun e he => ?_, List.pairwise_cons.2 ⟨fun e he b hb hb2 => ?_, List.pairwise_singleton _ _⟩⟩
  · rcases List.mem_cons.1 he with rfl | he
    · exact ⟨Later.refl _, Agree.refl _ _, h.below 0 rfl⟩
    · obtain rfl := List.mem_singleton.1 he
      exact ⟨Later.refl _, Agree.refl _ _, h.drop.frame⟩
  · obtain rfl := List.mem_singleton.1 he
    obtain ⟨f, hf, hb3⟩ := hb2
    exact ha.1 f hf b hb hb3
theorem Mem.lend2 {w : World} {S S2 : BS} {u u2 : World} {L : List Ent} (h : Mem w ((S, u) :: (S2, u2) :: L)) : Mem w [(S, w), (S2, w), (Un L, w)] := by
  have ha := List.pairwise_cons.1 h.apart
  have hb := h.drop.lend
  refine ⟨fun e he => ?_, List.pairwise_cons.2 ⟨fun e he b hb hb2 => ?_, hb.apart⟩⟩
  · rcases List.mem_cons.1 he with rfl | he
    · exact ⟨Later.refl _, Agree.refl _ _, h.below 0 rfl⟩
    · exact hb.each e he
  · simp only [List.mem_cons, List.not_mem_nil, or_false] at he
    rcases he with rfl | rfl
    · exact ha.1 (S2, u2) (by simp) b hb hb2
    · obtain ⟨f, hf, hb3⟩ := hb2
      exact ha.1 f (by simp [hf]) b hb hb3
theorem Mem.lend3 {w : World} {S S2 S3 : BS} {u u2 u3 : World} {L : List Ent} (h : Mem w ((S, u) :: (S2, u2) :: (S3, u3) :: L)) : Mem w [(S, w), (S2, w), (S3, w), (Un L, w)] := by
  have ha := List.pairwise_cons.1 h.apart
  have hb := h.drop.lend2
  refine ⟨fun e he => ?_, List.pairwise_cons.2 ⟨fun e he b hb hb2 => ?_, hb.apart⟩⟩
  · rcases List.mem_cons.1 he with rfl | he
    · exact ⟨Later.refl _, Agree.refl _ _, h.below 0 rfl⟩
    · exact hb.each e he
  · simp only [List.mem_cons, List.not_mem_nil, or_false] at he
    rcases he with rfl | rfl | rfl
    · exact ha.1 (S2, u2) (by simp) b hb hb2
    · exact ha.1 (S3, u3) (by simp) b hb hb2
    · obtain ⟨f, hf, hb3⟩ := hb2
      exact ha.1 f (by simp [hf]) b hb hb3

/-! ### cells -/
theorem add_zero (a : Addr) : a.add 0 = a := by simp [Addr.add]
theorem add_add (a : Addr) (x y : Nat) : (a.add x).add y = a.add (x + y) := by
  unfold Addr.add
  by_cases hx : x = 0 <;> by_cases hy : y = 0 <;> simp [hx, hy, Nat.add_assoc]
theorem add_block (a : Addr) (x : Nat) : (a.add x).block = a.block := by unfold Addr.add; split <;> rfl
theorem add_plain (g j : Nat) : (⟨g, 0, none⟩ : Addr).add j = ⟨g, j, none⟩ := by unfold Addr.add; split <;> simp_all
theorem cell_agree {S : BS} {u w : World} (h : Agree S u w) {A : Addr} (hA : S A.block) : w.cell? A = u.cell? A := by unfold World.cell?; rw [h _ hA]

/-- These cells stand at an address, in blocks of S. -/
structure El (u : World) (S : BS) (A : Addr) (cs : List Value) : Prop where
  blk : S A.block
  cells : ∀ j v, cs[j]? = some v → u.cell? (A.add j) = some v
theorem El.cell {u w : World} {S : BS} {A : Addr} {cs : List Value} (h : El u S A cs) (ag : Agree S u w) (j : Nat) {v : Value} (hv : cs[j]? = some v) : w.cell? (A.add j) = some v := by
  rw [cell_agree ag (by rw [add_block]; exact h.blk)]; exact h.cells j v hv
theorem El.part {u : World} {S : BS} {A : Addr} {cs : List Value} (h : El u S A cs) (o n : Nat) : El u S (A.add o) ((cs.drop o).take n) :=
  ⟨by rw [add_block]; exact h.blk, fun j _ hv => by
    rw [add_add]
    refine h.cells _ _ ?_
    rw [List.getElem?_take] at hv
    split at hv
    · rwa [List.getElem?_drop] at hv
    · cases hv⟩
theorem El.agree {u w : World} {S : BS} {A : Addr} {cs : List Value} (h : El u S A cs) (ag : Agree S u w) : El w S A cs := ⟨h.blk, fun j _ hv => h.cell ag j hv⟩
theorem El.sub {u : World} {S S' : BS} {A : Addr} {cs : List Value} (h : El u S A cs) (hs : ∀ b, S b → S' b) : El u S' A cs := ⟨hs _ h.blk, h.cells⟩

/-- A variable in memory: a block known whole. -/
def Bx (u : World) (g : Nat) (cs : List Value) (T : TypeId) : Prop := u.heap[g]? = some (.cells cs.toArray T (0, 0))
theorem Bx.el {u : World} {g : Nat} {cs : List Value} {T : TypeId} (h : Bx u g cs T) : El u (one g) ⟨g, 0, none⟩ cs :=
  ⟨rfl, fun j v hv => by rw [add_plain]; simp [World.cell?, show u.heap[g]? = _ from h, hv]⟩
theorem Bx.now {u w : World} {g : Nat} {cs : List Value} {T : TypeId} (h : Bx u g cs T) (ag : Agree (one g) u w) : Bx w g cs T := (ag g rfl).trans h

/-! ### values in memory, by their Go types' shapes -/
class Rep (α : Type) where
  n : Nat
  rep : World → BS → α → List Value → Prop
  len : ∀ {u S x cs}, rep u S x cs → cs.length = n
  agree : ∀ {u w S x cs}, Agree S u w → rep u S x cs → rep w S x cs
  sub : ∀ {u S S' x cs}, (∀ b, S b → S' b) → rep u S x cs → rep u S' x cs
  one : ∀ {u S x cs}, rep u S x cs → (cs.all fun v => v.oneCell') = true

instance : Rep Int := ⟨1, fun _ _ x cs => cs = [.int .i64 x], fun h => by rw [h]; rfl, fun _ h => h, fun _ h => h, fun h => by rw [h]; rfl⟩
instance : Rep UInt8 := ⟨1, fun _ _ x cs => cs = [.int .u8 x.toNat], fun h => by rw [h]; rfl, fun _ h => h, fun _ h => h, fun h => by rw [h]; rfl⟩
instance : Rep Bool := ⟨1, fun _ _ x cs => cs = [.bool x], fun h => by rw [h]; rfl, fun _ h => h, fun _ h => h, fun h => by rw [h]; rfl⟩
/-- A string's bytes. -/
def Str := List UInt8
instance : DecidableEq Str := inferInstanceAs (DecidableEq (List UInt8))
instance : Inhabited Str := ⟨([] : List UInt8)⟩
instance : Rep Str := ⟨1, fun _ _ x cs => cs = [.string (sv x)], fun h => by rw [h]; rfl, fun _ h => h, fun _ h => h, fun h => by rw [h]; rfl⟩

/-- A slice reads as a list: where its cells lie (u, S), and what they lead to (v, E). -/
structure SR {α : Type} [Rep α] (u : World) (S : BS) (v : World) (E : BS) (A : Option Addr) (c : Nat) (xs : List α) : Prop where
  cap : xs.length ≤ c
  els : ∀ i x, xs[i]? = some x → ∃ ad cs, A = some ad ∧ El u S (ad.add (i * Rep.n α)) cs ∧ Rep.rep v E x cs
theorem SR.agree {α : Type} [Rep α] {u u' v v' : World} {S E : BS} {A : Option Addr} {c : Nat} {xs : List α} (h : SR u S v E A c xs) (ag : Agree S u u') (ag2 : Agree E v v') : SR u' S v' E A c xs :=
  ⟨h.cap, fun i x hx => let ⟨ad, cs, h1, h2, h3⟩ := h.els i x hx; ⟨ad, cs, h1, h2.agree ag, Rep.agree ag2 h3⟩⟩
theorem SR.sub {α : Type} [Rep α] {u v : World} {S S' E E' : BS} {A : Option Addr} {c : Nat} {xs : List α} (h : SR u S v E A c xs) (hs : ∀ b, S b → S' b) (he : ∀ b, E b → E' b) : SR u S' v E' A c xs :=
  ⟨h.cap, fun i x hx => let ⟨ad, cs, h1, h2, h3⟩ := h.els i x hx; ⟨ad, cs, h1, h2.sub hs, Rep.sub he h3⟩⟩
theorem SR.nil {α : Type} [Rep α] (u : World) (S : BS) (v : World) (E : BS) (A : Option Addr) (c : Nat) : SR u S v E A c ([] : List α) := ⟨Nat.zero_le _, fun i x h => by simp at h⟩
theorem SR.at {α : Type} [Rep α] {u v : World} {S E : BS} {A : Option Addr} {c : Nat} {xs : List α} (h : SR u S v E A c xs) {i : Int} {x : α} (hx : atL xs i = some x) :
    ∃ ad cs, A = some ad ∧ El u S (ad.add (i.toNat * Rep.n α)) cs ∧ Rep.rep v E x cs := h.els _ _ (atL_spec hx).2.2
theorem SR.cut {α : Type} [Rep α] {u v : World} {S E : BS} {A : Option Addr} {c : Nat} {xs ys : List α} (h : SR u S v E A c xs) {lo hi : Int} (hy : subL xs lo hi = some ys) :
    SR u S v E (if c = lo.toNat then A else A.map (·.add (lo.toNat * Rep.n α))) (c - lo.toNat) ys ∧ (hi.toNat - lo.toNat = ys.length) := by
  obtain ⟨h0, h1, h2, rfl⟩ := subL_spec hy
  have hc := h.cap
  have hl : ((xs.take hi.toNat).drop lo.toNat).length = hi.toNat - lo.toNat := by
    rw [List.length_drop, List.length_take, Nat.min_eq_left (by omega)]
  refine ⟨⟨by rw [hl]; omega, fun i x hx => ?_⟩, hl.symm⟩
  rw [List.getElem?_drop, List.getElem?_take] at hx
  split at hx
  · obtain ⟨ad, cs, rfl, h3, h4⟩ := h.els _ _ hx
    have hlt := (List.getElem?_eq_some_iff.1 hx).1
    rw [if_neg (by omega)]
    refine ⟨ad.add (lo.toNat * Rep.n α), cs, rfl, ?_, h4⟩
    rw [add_add, ← Nat.add_mul]
    exact h3
  · cases hx

instance {α : Type} [Rep α] : Rep (List α) :=
  ⟨1, fun u S xs cs => ∃ A c, cs = [.slice A xs.length c] ∧ SR u S u S A c xs, fun ⟨_, _, h, _⟩ => by rw [h]; rfl,
    fun ag ⟨A, c, h, k⟩ => ⟨A, c, h, k.agree ag ag⟩, fun hs ⟨A, c, h, k⟩ => ⟨A, c, h, k.sub hs hs⟩, fun ⟨_, _, h, _⟩ => by rw [h]; rfl⟩

/-! ### operations on memory -/
def aggB : TypeDesc → Bool
  | .struct _ | .array _ _ => true
  | _ => false
def szIs (P : Program) (t : TypeId) (n : Nat) : Prop := (P.info? t).map (·.size) = some n
section
variable {P : Program} {N : Nat} {Q : Post} {ρ : Nat → Value} {w : World} {ops : Array Oper} {K : (Nat → Value) → World → Prop} {d : Nat} {ty : TypeId} {pos : String} {af : Array Edge} {g : Option (Nat × Bool)} {L : List Ent}

theorem R_size {t : TypeId} {n : Nat} (h : szIs P t n) : (sizeOf t).run P w = .ok n w := by
  obtain ⟨i, hi, rfl⟩ := Option.map_eq_some_iff.1 h
  simp [sizeOf, typeInfo, hi]
theorem R_agg {t : TypeId} {dd : TypeDesc} (h : P.underlying t = some dd) : (isAgg t).run P w = .ok (aggB dd) w := by
  simp only [isAgg, Sem.run_bind, run_underlying h, Result.andThen]
  cases dd <;> rfl
theorem R_loadCells (A : Addr) (cs : List Value) (h : ∀ j v, cs[j]? = some v → w.cell? (A.add j) = some v) : (loadCells A cs.length).run P w = .ok cs.toArray w := run_loadCells_list (P := P) (w := w) A cs h

theorem L_load1 {t : TypeId} {x : Operand} (hg : wantedZ ops ⟨some d, .load t x, ty, pos, af, g⟩ ρ = true) (hd : Nat.ble (d + 1) N = true) {dd : TypeDesc} (hu : P.underlying t = some dd) (ha : aggB dd = false)
    {u : World} {S : BS} {A : Addr} {cs : List Value} (E : El u S A cs) (ag : Agree S u w) (j : Nat) (hx : ev ρ x = .pointer (some (A.add j))) (v : Value) (hv : cs[j]? = some v)
    (h : K (upd ρ d v) w) : WO P N ops Q ⟨some d, .load t x, ty, pos, af, g⟩ K ρ w :=
  WO_val hg (dst_ok hd) (by
    have e := E.cell ag j hv
    simp only [execOp, Instr.loadAt, Instr.sureAddr, hx, loadVar, Sem.run_bind, Sem.run_pure, R_agg hu, ha, Result.andThen]
    simp [e]) h
theorem L_loadN {t : TypeId} {x : Operand} (hg : wantedZ ops ⟨some d, .load t x, ty, pos, af, g⟩ ρ = true) (hd : Nat.ble (d + 1) N = true) {dd : TypeDesc} (hu : P.underlying t = some dd) (ha : aggB dd = true)
    {u : World} {S : BS} {A : Addr} {cs : List Value} (E : El u S A cs) (ag : Agree S u w) (j : Nat) (hx : ev ρ x = .pointer (some (A.add j))) (n : Nat) (hs : szIs P t n) (vs : List Value) (hv : (cs.drop j).take n = vs) (hn : vs.length = n)
    (h : K (upd ρ d (.agg vs.toArray)) w) : WO P N ops Q ⟨some d, .load t x, ty, pos, af, g⟩ K ρ w :=
  WO_val hg (dst_ok hd) (by
    have e := ((E.part j n).agree ag).cells
    rw [hv] at e
    have e2 := R_loadCells (P := P) (w := w) (A.add j) vs e
    rw [hn] at e2
    simp only [execOp, Instr.loadAt, Instr.sureAddr, hx, loadVar, Sem.run_bind, Sem.run_pure, R_agg hu, ha, Result.andThen]
    simp [R_size hs, e2]) h

theorem R_loadVarN {t : TypeId} {dd : TypeDesc} (hu : P.underlying t = some dd) (ha : aggB dd = true) {u : World} {S : BS} {A : Addr} {cs : List Value} (E : El u S A cs) (ag : Agree S u w) {n : Nat} (hs : szIs P t n) (hn : cs.length = n) :
    (loadVar t A).run P w = .ok (.agg cs.toArray) w := by
  have e2 := R_loadCells (P := P) (w := w) A cs (E.agree ag).cells
  rw [hn] at e2
  simp only [loadVar, Sem.run_bind, R_agg hu, ha, Result.andThen]
  simp [R_size hs, e2]
theorem R_loadVar1 {t : TypeId} {dd : TypeDesc} (hu : P.underlying t = some dd) (ha : aggB dd = false) {u : World} {S : BS} {A : Addr} {v : Value} (E : El u S A [v]) (ag : Agree S u w) : (loadVar t A).run P w = .ok v w := by
  have e := E.cell ag 0 (v := v) rfl
  rw [add_zero] at e
  simp only [loadVar, Sem.run_bind, R_agg hu, ha, Result.andThen]
  simp [e]

theorem R_field {s : TypeId} {fs : Array Field} {f : Nat} {fd : Field} {n : Nat} (hu : P.underlying s = some (.struct fs)) (hf : fs[f]? = some fd) (hs : szIs P fd.type (n + 1)) (A : Addr) :
    (Instr.fieldAt s (.pointer (some A)) f).run P w = .ok (.pointer (some (A.add fd.offset))) w := by
  simp [Instr.fieldAt, run_underlying hu, hf, Instr.sureAddr, fieldPlace, R_size hs]
theorem L_field {s : TypeId} {x : Operand} {f : Nat} (hg : wantedZ ops ⟨some d, .fieldAddr s x f, ty, pos, af, g⟩ ρ = true) (hd : Nat.ble (d + 1) N = true) {o : Nat} (hF : ∀ (A : Addr) (w : World), (Instr.fieldAt s (.pointer (some A)) f).run P w = .ok (.pointer (some (A.add o))) w)
    (A : Addr) (hx : ev ρ x = .pointer (some A)) (h : K (upd ρ d (.pointer (some (A.add o)))) w) : WO P N ops Q ⟨some d, .fieldAddr s x f, ty, pos, af, g⟩ K ρ w :=
  WO_val hg (dst_ok hd) (by simp only [execOp, Sem.run_bind, hx, hF]; rfl) h
theorem L_index {t e : TypeId} {x y : Operand} (hg : wantedZ ops ⟨some d, .indexAddr t x y, ty, pos, af, g⟩ ρ = true) (hd : Nat.ble (d + 1) N = true) (hu : P.underlying t = some (.slice e)) {n : Nat} (hs : szIs P e n) {A : Option Addr} {len c : Nat} {k : IntKind} {i : Int} {ad : Addr}
    (hx : ev ρ x = .slice A len c) (hy : ev ρ y = .int k i) (hA : A = some ad) (h0 : 0 ≤ i) (h1 : i < len) (h : K (upd ρ d (.pointer (some (ad.add (i.toNat * n))))) w) : WO P N ops Q ⟨some d, .indexAddr t x y, ty, pos, af, g⟩ K ρ w :=
  WO_val hg (dst_ok hd) (by
    subst hA
    simp [execOp, hx, hy, Instr.indexAt, asIntOf, run_underlying hu, h0, h1, R_size hs]) h

theorem alloc_get {b : Nat} (o : Obj) (hb : b < w.heap.size) : (w.alloc o).heap[b]? = w.heap[b]? := by
  show (w.heap.push o)[b]? = _
  rw [Array.getElem?_push, if_neg (Nat.ne_of_lt hb)]
theorem alloc_new (o : Obj) : (w.alloc o).heap[w.heap.size]? = some o := by
  show (w.heap.push o)[_]? = _
  simp
theorem alloc_size (o : Obj) : (w.alloc o).heap.size = w.heap.size + 1 := by
  show (w.heap.push o).size = _
  simp
theorem alloc_later (o : Obj) : Later w (w.alloc o) := ⟨by rw [alloc_size]; omega, rfl, rfl, rfl⟩
theorem Mem.alloc (h : Mem w L) (o : Obj) : Mem (w.alloc o) ((one w.heap.size, w.alloc o) :: L) :=
  h.new (alloc_later o) (fun b hb => alloc_get o hb) (fun b hb => by rw [show b = w.heap.size from hb, alloc_size]; omega)

/-- A variable is made: it holds v. -/
theorem L_box {e : TypeId} {x : Operand} (M : Mem w L) (hg : wantedZ ops ⟨some d, .box e x, ty, pos, af, g⟩ ρ = true) (hd : Nat.ble (d + 1) N = true) (v : Value) (hx : ev ρ x = v) (cs : List Value) (hc : v.cells = cs.toArray)
    (h : ∀ b w', Bx w' b cs e → Mem w' ((one b, w') :: L) → K (upd ρ d (.pointer (some ⟨b, 0, none⟩))) w') : WO P N ops Q ⟨some d, .box e x, ty, pos, af, g⟩ K ρ w :=
  WO_val hg (dst_ok hd) (v := .pointer (some ⟨w.heap.size, 0, none⟩)) (w' := w.alloc (.cells cs.toArray e)) (by
    simp only [execOp, hx, Instr.box, newVar, newRow, hc]
    rfl) (h _ _ (alloc_new _) (M.alloc _))
theorem R_zero {t : TypeId} {z : Value} (h : (P.info? t).bind (·.zero) = some z) : (zeroValue t).run P w = .ok z w := by
  obtain ⟨i, hi, hz⟩ := Option.bind_eq_some_iff.1 h
  simp [zeroValue, typeInfo, hi, hz]
theorem L_alloc {e : TypeId} (M : Mem w L) (hg : wantedZ ops ⟨some d, .alloc e, ty, pos, af, g⟩ ρ = true) (hd : Nat.ble (d + 1) N = true) {z : Value} (hz : (P.info? e).bind (·.zero) = some z) (cs : List Value) (hc : z.cells = cs.toArray)
    (h : ∀ b w', Bx w' b cs e → Mem w' ((one b, w') :: L) → K (upd ρ d (.pointer (some ⟨b, 0, none⟩))) w') : WO P N ops Q ⟨some d, .alloc e, ty, pos, af, g⟩ K ρ w :=
  WO_val hg (dst_ok hd) (v := .pointer (some ⟨w.heap.size, 0, none⟩)) (w' := w.alloc (.cells cs.toArray e)) (by
    simp only [execOp, Instr.alloc, newVar, newRow, Sem.run_bind, R_zero hz, Result.andThen, hc]
    rfl) (h _ _ (alloc_new _) (M.alloc _))

def splice (cs : List Value) (o : Nat) (vs : List Value) : List Value := cs.take o ++ (vs ++ cs.drop (o + vs.length))
def putB (w : World) (g : Nat) (cs : List Value) (T : TypeId) : World := { w with heap := w.heap.setIfInBounds g (.cells cs.toArray T (0, 0)) }
theorem putB_get {b g : Nat} {cs : List Value} {T : TypeId} (h : b ≠ g) : (putB w g cs T).heap[b]? = w.heap[b]? := by simp [putB, Ne.symm h]
theorem putB_bx {g : Nat} {cs : List Value} {T : TypeId} (h : g < w.heap.size) : Bx (putB w g cs T) g cs T := by simp [Bx, putB, h]
theorem putB_later {g : Nat} {cs : List Value} {T : TypeId} : Later w (putB w g cs T) := ⟨by simp [putB], rfl, rfl, rfl⟩
theorem Bx.lt {u : World} {g : Nat} {cs : List Value} {T : TypeId} (h : Bx u g cs T) : g < u.heap.size := (Array.getElem?_eq_some_iff.1 h).1

theorem R_store1 {gg o : Nat} {v : Value} {cs : List Value} {T : TypeId} (hv : v.oneCell' = true) (hb : Bx w gg cs T) (ho : o < cs.length) :
    (store ⟨gg, o, none⟩ v).run P w = .ok () (putB w gg (cs.set o v) T) := by
  have hc : w.cell? ⟨gg, o, none⟩ = some cs[o] := by simp [World.cell?, show w.heap[gg]? = _ from hb, ho]
  have hf : w.frozen? ⟨gg, o, none⟩ = false := by simp [World.frozen?, show w.heap[gg]? = _ from hb]
  have hs : w.setCell ⟨gg, o, none⟩ v = putB w gg (cs.set o v) T := by
    have hlt := hb.lt
    simp only [World.setCell, putB]
    congr 1
    apply Array.ext_getElem?
    intro i
    simp only [Array.getElem?_modify, Array.getElem?_setIfInBounds]
    by_cases hi : gg = i
    · subst hi
      have e : w.heap[gg] = .cells cs.toArray T (0, 0) := by
        have := show w.heap[gg]? = _ from hb
        rw [Array.getElem?_eq_getElem hlt] at this
        exact Option.some.inj this
      simp [hlt, e]
    · simp [hi]
  rw [run_store P w _ v _ hv]
  simp [hc, hf, hs]
theorem R_storeCells {gg : Nat} {T : TypeId} : ∀ (vs cs : List Value) (o i : Nat) (w : World), (vs.all fun v => v.oneCell') = true → Bx w gg cs T → o + i + vs.length ≤ cs.length →
    ∃ w', (storeCells ⟨gg, o, none⟩ vs i).run P w = .ok () w' ∧ Bx w' gg (splice cs (o + i) vs) T ∧ Later w w' ∧ (∀ b, b ≠ gg → w'.heap[b]? = w.heap[b]?) ∧ w'.heap.size = w.heap.size
  | [], cs, o, i, w, _, hb, _ => ⟨w, rfl, by simpa [splice] using hb, Later.refl _, fun _ _ => rfl, rfl⟩
  | v :: vs, cs, o, i, w, hv, hb, ho => by
    simp only [List.all_cons, Bool.and_eq_true, List.length_cons] at hv ho
    have h1 := R_store1 (P := P) (o := o + i) hv.1 hb (by omega)
    obtain ⟨w', h2, h3, h4, h5, h6⟩ := R_storeCells vs (cs.set (o + i) v) o (i + 1) (putB w gg (cs.set (o + i) v) T) hv.2 (putB_bx hb.lt) (by simp; omega)
    have ea : (⟨gg, o, none⟩ : Addr).add i = ⟨gg, o + i, none⟩ := by unfold Addr.add; split <;> simp_all
    refine ⟨w', ?_, ?_, putB_later.trans h4, fun b hb => (h5 b hb).trans (putB_get hb), h6.trans (by simp [putB])⟩
    · simp only [storeCells, Sem.run_bind, ea, h1, Result.andThen]
      exact h2
    · have e : splice (cs.set (o + i) v) (o + (i + 1)) vs = splice cs (o + i) (v :: vs) := by
        unfold splice
        have hlt : o + i < cs.length := by omega
        rw [show o + (i + 1) = (o + i) + 1 by omega, List.take_add_one, List.getElem?_set_self hlt, List.take_set_of_le (Nat.le_refl _), List.drop_set_of_lt (by omega)]
        simp [Nat.add_assoc, Nat.add_comm 1]
      rw [← e]; exact h3
theorem L_store {t : TypeId} {ad x : Operand} (M : Mem w L) (hg : wantedZ ops ⟨none, .store t ad x, ty, pos, af, g⟩ ρ = true) (v : Value) (hx : ev ρ x = v) (vs : List Value) (hc : v.cells = vs.toArray) (n : Nat) (hs : szIs P t n) (hn : vs.length = n) (hone : (vs.all fun v => v.oneCell') = true)
    {u : World} {gg o : Nat} {cs : List Value} {T : TypeId} {L' : List Ent} (hL : L = (one gg, u) :: L') (hb : Bx u gg cs T) (hA : ev ρ ad = .pointer (some ⟨gg, o, none⟩)) (ho : Nat.ble (o + vs.length) cs.length = true) (cs' : List Value) (hcs : splice cs o vs = cs')
    (h : ∀ w', Bx w' gg cs' T → Mem w' ((one gg, w') :: L') → K ρ w') : WO P N ops Q ⟨none, .store t ad x, ty, pos, af, g⟩ K ρ w := by
  subst hL
  have hb' := hb.now (M.agree 0 rfl)
  obtain ⟨w', h1, h2, h3, h4, h5⟩ := R_storeCells (P := P) vs cs o 0 w hone hb' (by have := Nat.le_of_ble_eq_true ho; omega)
  refine WO_skip hg rfl (w' := w') ?_ (h w' (by rw [← hcs]; exact h2) (M.change h3 (fun b hb hb2 => h4 b hb2) (fun b hb => ?_)))
  · simp only [execOp, Sem.run_bind, Instr.storeAt, Instr.sureAddr, hA, hx, storeVar, R_size hs, Result.andThen, Sem.run_pure]
    simp [hc, hn, h1]
  · rw [show b = gg from hb]
    exact ⟨.inl rfl, h2.lt⟩
end
end Go.Z
