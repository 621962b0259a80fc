/- A part of the pure law: facts of the functions that the walks compute, no program in sight. -/
import Derived.Test.YtlmdkofcombcmaaDoorN2
set_option linter.unusedVariables false
namespace Go.Z
open Go
open Go.RowKit (wrap32 wrap64)
/-! ## A line in pieces: its words -/
def Wl (s : List UInt8) (i : Nat) (out : List api_Word) (r : List api_Word × Int × Int) : Prop := Ev (fun k => text_Words.l1 k s ([] : List api_Word) 0 0 out (i : Int)) r
theorem Wl_end (s : List UInt8) (out : List api_Word) : Wl s s.length out (out, 0, 0) :=
  Ev.step (fun k => text_Words.l1.eq_2 ..) (Ev.no (fun h => Int.lt_irrefl _ h) (Ev.step (fun k => text_Words.j0.eq_2 ..) (Ev.some _)))
theorem len_mid (pre tok rest : List UInt8) : (pre ++ (tok ++ rest)).length = pre.length + (tok.length + rest.length) := by rw [List.length_append, List.length_append]
theorem Wl_blank (pre rest : List UInt8) (out : List api_Word) (r : List api_Word × Int × Int) (hl : (pre ++ 32 :: rest).length ≤ 65536) (h : Wl (pre ++ 32 :: rest) (pre.length + 1) out r) : Wl (pre ++ 32 :: rest) pre.length out r := by
  have e := len_mid pre [32] rest
  have e2 : (pre ++ 32 :: rest).length = pre.length + (1 + rest.length) := e
  refine Ev.step (fun k => text_Words.l1.eq_2 ..) (Ev.yes (by show (pre.length : Int) < ((pre ++ 32 :: rest).length : Int); omega) (Ev.bindO (x := (32 : UInt8)) (atL_pre pre (32 :: rest) 0) (Ev.no (by decide) (Ev.bindO (x := true) rfl (Ev.yes rfl ?_)))))
  rw [wrap64_id (by omega) (by omega)]
  exact h
theorem drop_pre (pre l : List UInt8) : subS (pre ++ l : List UInt8) (pre.length : Int) ((pre ++ l).length : Int) = some l := by
  have hl : (pre ++ l).length = pre.length + l.length := List.length_append
  obtain ⟨q, hq, hqe, _⟩ := subS_at (pre ++ l : List UInt8) (lo := (pre.length : Int)) (hi := ((pre ++ l).length : Int)) (by omega) (by omega) (Int.le_refl _)
  rw [hq, hqe, drop_take_all (pre ++ l) pre.length, List.drop_left]
  rfl
theorem after_stop (pre tok rest : List UInt8) (hr : Stop rest) (n : Int) (hn : n = ((pre.length + tok.length : Nat) : Int)) :
    (if (n : Int) < ((pre ++ (tok ++ rest)).length : Int) then (atL (pre ++ (tok ++ rest)) n).bind (fun b128 => (text_blank b128).bind (fun (r131 : Bool) => (if (!r131) = true then (atL (pre ++ (tok ++ rest)) n).bind (fun b137 => (if b137 ≠ (35 : UInt8) then (atL (pre ++ (tok ++ rest)) n).bind (fun b140 => (strings_IndexByte (lit [58, 44, 59, 126, 33, 61, 47, 64, 42, 43, 40, 41]) b140).bind (fun (r143 : Int) => (some (decide ((r143 : Int) < 0))))) else (some false))) else (some false)))) else (some false)) = some false := by
  subst hn
  have e := len_mid pre tok rest
  rcases hr with rfl | ⟨x, t, rfl, hx⟩
  · rw [if_neg (by rw [e, List.length_nil]; omega)]
  · have ha : atL (pre ++ (tok ++ x :: t)) ((pre.length + tok.length : Nat) : Int) = some x := by
      have := atL_pre (pre ++ tok) (x :: t) 0
      rw [List.append_assoc, List.length_append, Nat.add_zero] at this
      exact this
    rw [if_pos (by rw [e, List.length_cons]; omega), ha, Option.bind_some]
    rcases stops_after x hx with h | ⟨h, h35, hi⟩
    · rw [h]; rfl
    · rw [h, Option.bind_some, if_pos (show (!false) = true from rfl), Option.bind_some, if_pos h35, Option.bind_some]
      show some (decide (Lib.indexByte signs x < 0)) = _
      rw [decide_eq_false (by omega)]
theorem Wl_word (pre tok rest : List UInt8) (w : api_Word) (out : List api_Word) (r : List api_Word × Int × Int) (hl : (pre ++ (tok ++ rest)).length ≤ 65536) (ho : out.length ≤ 65536) (x : UInt8) (t : List UInt8) (htok : tok = x :: t) (h35 : x ≠ 35) (hbl : text_blank x = some false)
    (hw : Ev (fun k => text_word k (tok ++ rest : List UInt8)) (w, (tok.length : Int), 0, 0)) (haft : w.Kind = 4 ∨ Stop rest)
    (h : Wl (pre ++ (tok ++ rest)) (pre.length + tok.length) (out ++ [(⟨w.Kind, pre.length, w.Text, w.Num⟩ : api_Word)]) r) : Wl (pre ++ (tok ++ rest)) pre.length out r := by
  have e := len_mid pre tok rest
  have hlt : 0 < tok.length := by rw [htok, List.length_cons]; omega
  have ha : atL (pre ++ (tok ++ rest)) (pre.length : Int) = some x := by
    have := atL_pre pre (tok ++ rest) 0
    rw [htok] at this ⊢
    exact this
  refine Ev.step (fun k => text_Words.l1.eq_2 ..) (Ev.yes (by show (pre.length : Int) < ((pre ++ (tok ++ rest)).length : Int); omega) (Ev.bindO ha (Ev.no h35 (Ev.bindO hbl (Ev.no (by decide) (Ev.bindO (drop_pre pre (tok ++ rest)) (hw.bind (Ev.no (fun h => h rfl) (Ev.yes (by show out.length + 1 ≤ _; omega) ?_)))))))))
  have ew : wrap64 ((pre.length : Int) + (tok.length : Int)) = ((pre.length + tok.length : Nat) : Int) := by rw [wrap64_id (by omega) (by omega)]; omega
  refine Ev.bindO (x := false) ?_ (Ev.no (by decide) ?_)
  · show (if (w.Kind : Int) ≠ 4 then (if (wrap64 ((pre.length : Int) + (tok.length : Int))) < ((pre ++ (tok ++ rest)).length : Int) then _ else _) else _) = _
    by_cases h4 : w.Kind = 4
    · rw [if_neg (fun h => h h4)]
    · rw [if_pos h4]
      exact after_stop pre tok rest (haft.resolve_left h4) _ ew
  · show Ev (fun k => text_Words.l1 k (pre ++ (tok ++ rest)) ([] : List api_Word) 0 0 (out ++ [(⟨w.Kind, pre.length, w.Text, w.Num⟩ : api_Word)]) (wrap64 ((pre.length : Int) + (tok.length : Int)))) r
    rw [ew]
    exact h
/-- A piece of a line. -/
inductive Pc where
  | bl : Pc
  | nm : List UInt8 → Pc
  | sg : UInt8 → Pc
  | nb : Nat → Pc
abbrev Tok := Int × List UInt8 × Int
def Pc.bytes : Pc → List UInt8
  | .bl => [32]
  | .nm s => s
  | .sg b => [b]
  | .nb n => d4 n
def Pc.toks : Pc → List Tok
  | .bl => []
  | .nm s => [(1, s, 0)]
  | .sg b => [(4, [b], 0)]
  | .nb n => [(2, d4 n, n)]
def Pc.ok : Pc → Prop
  | .bl => True
  | .nm s => IsName s
  | .sg b => b ∈ ([58, 44, 42, 126, 33] : List UInt8)
  | .nb n => 0 < n ∧ n ≤ 1000
def Pc.wide : Pc → Prop
  | .nm _ => True
  | .nb _ => True
  | _ => False
def pcText (l : List Pc) : List UInt8 := l.flatMap Pc.bytes
def pcToks (l : List Pc) : List Tok := l.flatMap Pc.toks
def Good : List Pc → Prop
  | [] => True
  | p :: l => p.ok ∧ (p.wide → Stop (pcText l)) ∧ Good l
def strip (w : api_Word) : Tok := (w.Kind, w.Text, w.Num)
theorem pcText_cons (p : Pc) (l : List Pc) : pcText (p :: l) = p.bytes ++ pcText l := List.flatMap_cons
theorem sg_signs : ∀ b ∈ ([58, 44, 42, 126, 33] : List UInt8), b ∈ signs ∧ b ≠ 35 ∧ text_blank b = some false := by decide +kernel
theorem name_byte (s : List UInt8) (h : IsName s) : ∃ x t, s = x :: t ∧ x ≠ 35 ∧ text_blank x = some false := by
  obtain ⟨h0, _⟩ := IsName.first h
  obtain ⟨h1, _⟩ := IsName.byte h
  cases s with
  | nil => exact absurd h0 (by decide)
  | cons x t =>
    have hx : 65 ≤ x.toNat := h1
    have hne : ∀ c : UInt8, c.toNat < 65 → x ≠ c := fun c hc e => by rw [e] at hx; omega
    exact ⟨x, t, rfl, hne 35 (by decide), blank_no x (hne 32 (by decide)) (hne 9 (by decide))⟩
theorem d4_byte (n : Nat) (h : n ≤ 1000) : ∃ x t, d4 n = x :: t ∧ x ≠ 35 ∧ text_blank x = some false := by
  obtain ⟨hd, hl1, _⟩ := d4_digits n h
  cases hdn : d4 n with
  | nil => rw [hdn] at hl1; exact absurd hl1 (by decide)
  | cons x t =>
    have hx := hd x (by rw [hdn]; exact List.mem_cons_self)
    refine ⟨x, t, rfl, fun e => ?_, blank_no x (fun e => ?_) (fun e => ?_)⟩ <;> (rw [e] at hx; revert hx; decide)
/-- A line that is put together of pieces has just their words. -/
theorem words_pcs : ∀ (l : List Pc) (pre : List UInt8) (out : List api_Word), Good l → (pre ++ pcText l).length ≤ 65536 → out.length ≤ pre.length → ∃ W, Wl (pre ++ pcText l) pre.length out (out ++ W, 0, 0) ∧ W.map strip = pcToks l
  | [], pre, out, _, _, _ => by
    refine ⟨[], ?_, rfl⟩
    have := Wl_end pre out
    rw [List.append_nil]
    show Wl (pre ++ []) pre.length out (out, 0, 0)
    rwa [List.append_nil]
  | p :: l, pre, out, hg, hl, ho => by
    obtain ⟨hok, hwide, hrest⟩ := hg
    rw [pcText_cons] at hl ⊢
    have hb : (pre ++ (p.bytes ++ pcText l)).length = pre.length + (p.bytes.length + (pcText l).length) := len_mid _ _ _
    have key : ∀ (w : api_Word) (ws : List api_Word), p.toks = ws.map strip → ws.length ≤ p.bytes.length →
        (∀ r, Wl (pre ++ (p.bytes ++ pcText l)) (pre.length + p.bytes.length) (out ++ ws) r → Wl (pre ++ (p.bytes ++ pcText l)) pre.length out r) →
        ∃ W, Wl (pre ++ (p.bytes ++ pcText l)) pre.length out (out ++ W, 0, 0) ∧ W.map strip = pcToks (p :: l) := fun w ws e1 e2 e3 => by
      obtain ⟨W, h1, h2⟩ := words_pcs l (pre ++ p.bytes) (out ++ ws) hrest (by rw [List.append_assoc]; exact hl) (by rw [List.length_append, List.length_append]; omega)
      rw [List.append_assoc, List.length_append, List.append_assoc] at h1
      exact ⟨ws ++ W, e3 _ h1, by rw [List.map_append, h2, ← e1]; rfl⟩
    cases p with
    | bl => exact key ⟨0, 0, lit [], 0⟩ [] rfl (Nat.zero_le _) (fun r h => Wl_blank pre (pcText l) out r hl (by rw [List.append_nil] at h; exact h))
    | nm s =>
      obtain ⟨x, t, hx, h35, hbl⟩ := name_byte s hok
      exact key ⟨1, 0, s, 0⟩ [⟨1, pre.length, s, 0⟩] rfl (by show 1 ≤ s.length; rw [hx, List.length_cons]; omega) (fun r h => Wl_word pre s (pcText l) ⟨1, 0, s, 0⟩ out r hl (by omega) x t hx h35 hbl (word_name s _ hok (hwide trivial)) (.inr (hwide trivial)) h)
    | sg b =>
      obtain ⟨hs, h35, hbl⟩ := sg_signs b hok
      exact key ⟨4, 0, [b], 0⟩ [⟨4, pre.length, [b], 0⟩] rfl (Nat.le_refl 1) (fun r h => Wl_word pre [b] (pcText l) ⟨4, 0, [b], 0⟩ out r hl (by omega) b [] rfl h35 hbl (word_sign b _ hs) (.inl rfl) h)
    | nb n =>
      obtain ⟨h0, h1⟩ := hok
      obtain ⟨x, t, hx, h35, hbl⟩ := d4_byte n h1
      exact key ⟨2, 0, d4 n, n⟩ [⟨2, pre.length, d4 n, n⟩] rfl (by show 1 ≤ (d4 n).length; rw [hx, List.length_cons]; omega) (fun r h => Wl_word pre (d4 n) (pcText l) ⟨2, 0, d4 n, n⟩ out r hl (by omega) x t hx h35 hbl (word_number n h0 h1 _ (hwide trivial)) (.inr (hwide trivial)) h)
theorem words_text (l : List Pc) (hg : Good l) (hl : (pcText l).length ≤ 65536) : ∃ W, Ev (fun k => text_Words k (pcText l : List UInt8)) (W, 0, 0) ∧ W.map strip = pcToks l := by
  obtain ⟨W, h1, h2⟩ := words_pcs l [] [] hg hl (Nat.le_refl _)
  refine ⟨W, ?_, h2⟩
  unfold text_Words
  exact Ev.no (by show ¬ (65536 : Int) < ((pcText l).length : Int); omega) h1
end Go.Z
