/- A slice of tokens that came in, opened. -/
import Derived.Test.YtoknigfjgoaoaaaRows
import Derived.Test.YtoknigfjgoaoaaaLexO
import Derived.ProofKit
import Derived.Deep.Slices
import Derived.Deep.Strs
import Derived.SizedLaws
namespace Go.Proofs.Ytoknigfjgoaoaaa
open Go.RowKit Lx Go.ChangeShapes Go.WideShapes Go.Deep
set_option linter.unusedSimpArgs false
set_option linter.unusedVariables false

instance : Inhabited Tok := ⟨⟨0, [], []⟩⟩
def tokDatum (H : Type) (t : Tok) : DataW H := .agg [.lit (.int .i64 t.kind), .lit (.string t.lead), .lit (.string t.text)]
theorem cellsTok : Try.prog.cellsOf 34 = 3 := by kernel_rfl
theorem cellsInt : Try.prog.cellsOf 3 = 1 := by kernel_rfl
theorem cellsStr : Try.prog.cellsOf 9 = 1 := by kernel_rfl

section
variable {H : Type} {enc : TypeId × Value → H} {W : World}

theorem list_three {α : Type} {l : List α} (h : l.length = 3) : ∃ a b c, l = [a, b, c] := by
  match l, h with
  | [a, b, c], _ => exact ⟨a, b, c, rfl⟩

theorem tok_of {n : Nat} {base : Nat} {spare : Nat → Bool} {held : Bool} {cs : List Value} {x : DataW H × List MemPlace} (h : DataW.trod enc Try.prog W base spare held n 34 cs = some x) :
    ∃ t : Tok, cs = [.int .i64 t.kind, .string ⟨t.lead.toArray⟩, .string ⟨t.text.toArray⟩] ∧ x.1 = tokDatum H t := by
  obtain ⟨y0, y1, y2, n', hx, hl, h0, h1, h2⟩ := trod_struct3 Try.underlying34 h
  rw [cellsTok] at hl
  obtain ⟨a, b, c, rfl⟩ := list_three hl
  simp only [cellsInt, cellsStr, List.drop_zero, List.drop_succ_cons, List.take_succ_cons, List.take_zero] at h0 h1 h2
  obtain ⟨k, e0, f0, _⟩ := DataW.trod_int Try.underlying3 h0
  obtain ⟨s1, e1, f1, _⟩ := DataW.trod_string Try.underlying9 h1
  obtain ⟨s2, e2, f2, _⟩ := DataW.trod_string Try.underlying9 h2
  simp only [List.cons.injEq, and_true] at e0 e1 e2
  subst e0 e1 e2 f0 f1 f2
  exact ⟨⟨k, s1.data.toList, s2.data.toList⟩, by simp, by rw [hx]; rfl⟩

theorem open_toks {a0 : Option Addr} {len cap : Nat} {d : DataW H} {p : List MemPlace} (h : DataW.Trod enc Try.prog W 0 (fun _ => true) true 23 (.slice a0 len cap) d p) :
    ∃ l : List Tok, TokRow W (.slice a0 len cap) l ∧ ((d = .nil ∧ l = []) ∨ ∃ spare, d = .slice (l.map (tokDatum H)) spare) := by
  obtain ⟨fuel, hf⟩ := h
  rcases open_slice Try.underlying23 hf with ⟨hcs, hx⟩ | ⟨a, len', cap', m, n, D, Pl, hcs, hb, hl, hm, hmm, hx, hi⟩
  · simp [Value.cells] at hcs
    obtain ⟨rfl, rfl, rfl⟩ := hcs
    simp only [Prod.mk.injEq] at hx
    exact ⟨[], tokRow_nil W, .inl ⟨hx.1, rfl⟩⟩
  · simp [Value.cells] at hcs
    obtain ⟨rfl, rfl, rfl⟩ := hcs
    simp only [if_true] at hmm
    subst hmm
    rw [cellsTok] at hi
    obtain ⟨T, hT⟩ := choose_lt (α := Tok) (p := fun i t => (∃ cs', W.cells? 0 (a.add (i * 3)) 3 = some cs' ∧ cs' = [.int .i64 t.kind, .string ⟨t.lead.toArray⟩, .string ⟨t.text.toArray⟩]) ∧ D i = tokDatum H t) (n := m) (fun i him => by
      obtain ⟨cs', hc, ht⟩ := hi i him
      obtain ⟨t, h1, h2⟩ := tok_of ht
      exact ⟨t, ⟨cs', hc, h1⟩, h2⟩)
    refine ⟨(List.range len).map T, ⟨some a, m, by simp, by simpa using hl, hm, by
      have : (tokCells ((List.range len).map T)).length = len * 3 := by
        have : ∀ l : List Tok, (tokCells l).length = l.length * 3 := fun l => by induction l with | nil => rfl | cons t r ih => simp [tokCells] at ih ⊢; omega
        rw [this]; simp
      simpa using this, fun h0 => ?_⟩, .inr ⟨(List.range (m - len)).map fun j => D (len + j), ?_⟩⟩
    · simp only [List.length_map, List.length_range] at h0 ⊢
      have hcell : ∀ i, i < len → W.cell? (a.add (i * 3)) = some (.int .i64 (T i).kind) ∧ W.cell? ((a.add (i * 3)).add 1) = some (.string ⟨(T i).lead.toArray⟩) ∧ W.cell? ((a.add (i * 3)).add 2) = some (.string ⟨(T i).text.toArray⟩) := fun i hi' => by
        obtain ⟨⟨cs', hc, hcs'⟩, _⟩ := hT i (by omega)
        obtain ⟨_, _, hat⟩ := World.cells?_some hc
        subst hcs'
        refine ⟨?_, hat 1 (by omega), hat 2 (by omega)⟩
        have := hat 0 (by omega)
        simpa [Addr.add] using this
      have hs : a.spot = none := World.cell?_spot (a := a) (by have := (hcell 0 h0).1; simpa [Addr.add] using this)
      obtain ⟨b, off, spot⟩ := a
      simp only at hs
      subst hs
      refine ⟨b, off, rfl, ?_, fun j hj => ?_⟩
      · have := (hcell 0 h0).1
        exact World.block_lt_of_cell? W ⟨b, off, none⟩ (by simpa [Addr.add] using this)
      · have hj3 : j / 3 < len := by omega
        have ht := tokCells_at ((List.range len).map T) (j / 3) (by simpa using hj3)
        have hc := hcell (j / 3) hj3
        have hadd : ∀ k, (⟨b, off, none⟩ : Addr).add k = ⟨b, off + k, none⟩ := fun k => by unfold Addr.add; split <;> simp_all
        have hadd2 : ∀ x k, (⟨b, x, none⟩ : Addr).add k = ⟨b, x + k, none⟩ := fun x k => by unfold Addr.add; split <;> simp_all
        simp only [hadd, hadd2, List.getElem_map, List.getElem_range] at hc ht
        rcases (by omega : j = j / 3 * 3 ∨ j = j / 3 * 3 + 1 ∨ j = j / 3 * 3 + 2) with e | e | e
        · rw [e, hc.1, ht.1]
        · rw [e, ht.2.1, ← Nat.add_assoc, hc.2.1]
        · rw [e, ht.2.2, ← Nat.add_assoc, hc.2.2]
    · simp only [Prod.mk.injEq] at hx
      rw [hx.1, List.map_map]
      congr 1
      apply List.map_congr_left
      intro i hi'
      exact (hT i (by have := List.mem_range.1 hi'; omega)).2

theorem bulk_toks : ∀ (l : List Tok), totalT l ≤ Rows.uptoBulkAll (l.map (tokDatum H))
  | [] => by simp [totalT, Rows.uptoBulkAll]
  | t :: r => by
    have ih := bulk_toks r
    simp only [totalT, List.map_cons, Rows.uptoBulkAll, tokDatum, Rows.uptoBulk]
    omega

theorem reach_toks : ∀ (l : List Tok), (DataW.weightsAll Try.prog 34 (l.map (tokDatum H))).all (· ≤ reachBytes) = true → totalT l ≤ l.length * (2 * 140737488351232)
  | [], _ => by simp [totalT]
  | t :: r, h => by
    simp only [List.map_cons, DataW.weightsAll, List.all_append, Bool.and_eq_true] at h
    have ih := reach_toks r h.2
    have h1 := h.1
    simp only [tokDatum, DataW.weights, Try.underlying34, List.map_cons, List.map_nil, DataW.weightsEach, List.nil_append, List.append_nil, List.all_cons, List.all_nil, Bool.and_true, List.cons_append, Bool.and_eq_true, decide_eq_true_eq] at h1
    have e : reachBytes = 140737488351232 := rfl
    simp only [totalT, List.length_cons]
    omega
end
end Go.Proofs.Ytoknigfjgoaoaaa
