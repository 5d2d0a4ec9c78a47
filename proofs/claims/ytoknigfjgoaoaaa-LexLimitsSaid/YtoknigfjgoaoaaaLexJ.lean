/- Contract of the reference's Same. -/
import Derived.Test.YtoknigfjgoaoaaaLexD
import Derived.Laws.StructEq
namespace Go.Proofs.Ytoknigfjgoaoaaa
open Go.RowKit Lx
set_option linter.unusedSimpArgs false
set_option linter.unusedVariables false

def tokEq (a b : Tok) : Bool := a.kind == b.kind && a.lead == b.lead && a.text == b.text
def sameT : List Tok → List Tok → Bool
  | [], [] => true
  | a :: r, b :: s => tokEq a b && sameT r s
  | _, _ => false
theorem tokEq_iff (a b : Tok) : tokEq a b = true ↔ a = b := by
  cases a; cases b; simp [tokEq, and_assoc]
theorem sameT_iff : ∀ (a b : List Tok), sameT a b = true ↔ a = b
  | [], [] => by simp [sameT]
  | [], b :: s => by simp [sameT]
  | a :: r, [] => by simp [sameT]
  | a :: r, b :: s => by simp [sameT, tokEq_iff, sameT_iff r s]
theorem sameT_len {a b : List Tok} (h : a.length ≠ b.length) : sameT a b = false := by
  cases hs : sameT a b with
  | false => rfl
  | true => exact absurd (by rw [(sameT_iff a b).1 hs]) h
theorem sameT_step {a b : List Tok} {k : Nat} (ha : k < a.length) (hb : k < b.length) : sameT (a.drop k) (b.drop k) = (tokEq a[k] b[k] && sameT (a.drop (k + 1)) (b.drop (k + 1))) := by
  rw [List.drop_eq_getElem_cons ha, List.drop_eq_getElem_cons hb]; rfl
theorem sameT_end {a b : List Tok} {k : Nat} (ha : a.length ≤ k) (hb : b.length ≤ k) : sameT (a.drop k) (b.drop k) = true := by
  rw [List.drop_of_length_le ha, List.drop_of_length_le hb]; rfl

/-- The three cells of token number k of a row. -/
theorem tokCells_at : ∀ (l : List Tok) (k : Nat) (h : k < l.length), (tokCells l)[k * 3]? = some (.int .i64 l[k].kind) ∧ (tokCells l)[k * 3 + 1]? = some (.string ⟨l[k].lead.toArray⟩) ∧ (tokCells l)[k * 3 + 2]? = some (.string ⟨l[k].text.toArray⟩)
  | t :: l, 0, _ => ⟨rfl, rfl, rfl⟩
  | t :: l, k + 1, h => by
    have ih := tokCells_at l k (by simpa using h)
    have e : tokCells (t :: l) = [.int .i64 t.kind, .string ⟨t.lead.toArray⟩, .string ⟨t.text.toArray⟩] ++ tokCells l := rfl
    rw [e]
    refine ⟨?_, ?_, ?_⟩
    · rw [List.getElem?_append_right (by simp; omega)]; simpa [Nat.succ_mul] using ih.1
    · rw [List.getElem?_append_right (by simp; omega)]
      have : (k + 1) * 3 + 1 - 3 = k * 3 + 1 := by omega
      simpa [this] using ih.2.1
    · rw [List.getElem?_append_right (by simp; omega)]
      have : (k + 1) * 3 + 2 - 3 = k * 3 + 2 := by omega
      simpa [this] using ih.2.2
theorem tokRow_at {w : World} {A : Option Addr} {l : List Tok} (h : Row w 3 A l.length (tokCells l)) {k : Nat} (hk : k < l.length) :
    ∃ b off, A = some ⟨b, off, none⟩ ∧ b < w.heap.size ∧ w.cell? ⟨b, off + k * 3, none⟩ = some (.int .i64 l[k].kind) ∧ w.cell? ⟨b, off + k * 3 + 1, none⟩ = some (.string ⟨l[k].lead.toArray⟩) ∧ w.cell? ⟨b, off + k * 3 + 2, none⟩ = some (.string ⟨l[k].text.toArray⟩) := by
  obtain ⟨b, off, rfl, hb, hc⟩ := h.2 (by omega)
  obtain ⟨h0, h1, h2⟩ := tokCells_at l k hk
  refine ⟨b, off, rfl, hb, ?_, ?_, ?_⟩
  · rw [hc _ (by omega), h0]
  · rw [Nat.add_assoc, hc _ (by omega), h1]
  · rw [Nat.add_assoc, hc _ (by omega), h2]

theorem tok_fields : Try.prog.underlying 34 = some (.struct (Try.prog.fieldsOf 34)) := by simp [Program.fieldsOf, Try.underlying34]
theorem tok_stood : Try.prog.stoodInHeld 34 = false := by kernel_rfl
theorem tok_guard : Try.prog.eqGuardType Try.prog.depth 34 = false := by kernel_rfl
theorem run_tok_eq (a b : Tok) (w : World) : (Op.equalIn 10000 34 (.agg #[.int .i64 a.kind, .string ⟨a.lead.toArray⟩, .string ⟨a.text.toArray⟩]) (.agg #[.int .i64 b.kind, .string ⟨b.lead.toArray⟩, .string ⟨b.text.toArray⟩])).run Try.prog w = .ok (tokEq a b) w := by
  rw [run_equalIn_agg w 9999 34 _ _ tok_fields tok_stood]
  simp only [Program.fieldsOf, Try.underlying34]
  simp [go_sem, tokEq]
  by_cases h1 : a.kind = b.kind <;> by_cases h2 : a.lead = b.lead <;> by_cases h3 : a.text = b.text <;> simp [h1, h2, h3]
theorem run_tok_neq (a b : Tok) (w : World) : (binOp .neq 34 (.agg #[.int .i64 a.kind, .string ⟨a.lead.toArray⟩, .string ⟨a.text.toArray⟩]) (.agg #[.int .i64 b.kind, .string ⟨b.lead.toArray⟩, .string ⟨b.text.toArray⟩])).run Try.prog w = .ok (.bool (!tokEq a b)) w := by
  rw [run_neq_struct, run_tok_eq]; rfl
theorem run_tok_eql (a b : Tok) (w : World) : (binOp .eql 34 (.agg #[.int .i64 a.kind, .string ⟨a.lead.toArray⟩, .string ⟨a.text.toArray⟩]) (.agg #[.int .i64 b.kind, .string ⟨b.lead.toArray⟩, .string ⟨b.text.toArray⟩])).run Try.prog w = .ok (.bool (tokEq a b)) w := by
  rw [run_eql_struct, run_tok_eq]; rfl

set_option maxHeartbeats 2000000 in
theorem sameR (va vb : Value) (la lb : List Tok) (w : World) (ha : TokRow w va la) (hb : TokRow w vb lb) : Calls Try.prog 14 #[va, vb] w fun e w' => e = .returned (.bool (sameT la lb)) ∧ Ext w w' := by
  obtain ⟨A, ca, rfl, hca, hma, hra⟩ := ha
  obtain ⟨A2, cb, rfl, hcb, hmb, hrb⟩ := hb
  unfold maxLen at hma hmb
  by_cases hne : la.length = lb.length
  rotate_left
  · have hneb : ((la.length : Int) != (lb.length : Int)) = true := by simp; omega
    have HR := Lib.hid (sameT_len hne); clear hne
    go_enter Try.func14, Try.ntmps14
    go_wp2
    go_ret
    exact ⟨ret_bool HR.out.symm, Ext.refl _⟩
  · obtain ⟨n, hn⟩ : ∃ n, la.length = n := ⟨_, rfl⟩
    have hn2 : lb.length = n := by omega
    have HNa := Lib.hid hn
    have HNb := Lib.hid hn2
    rw [hn] at hca hne
    rw [hn2] at hcb hne
    rw [hn, hn2]
    have HRA := Lib.hid hra
    have HRB := Lib.hid hrb
    obtain ⟨r, hr⟩ : ∃ r, sameT la lb = r := ⟨_, rfl⟩
    have HR := Lib.hid hr
    rw [hr]
    clear hra hrb hn hn2 hr hne
    have hneb : ((n : Int) != (n : Int)) = false := by simp
    go_enter Try.func14, Try.ntmps14
    go_wp2
    go_loopg [5] n (fun g s5 wx => ∃ i : Nat, g = n - i ∧ i ≤ n ∧ s5 = .int .i64 i ∧ Hid (sameT (la.drop i) (lb.drop i) = r) ∧ Hid (Ext w wx))
    case atStart => exact ⟨0, rfl, Nat.zero_le _, rfl, Lib.hid (by simpa using HR.out), Lib.hid (Ext.refl _)⟩
    case round =>
      obtain ⟨i, rfl, hin, rfl, HS, HX⟩ := hrel
      by_cases hit : i < n
      · have hia : i < la.length := by have := HNa.out; omega
        have hib : i < lb.length := by have := HNb.out; omega
        obtain ⟨b1, o1, rfl, hb1, p0, p1, p2⟩ := tokRow_at (HRA.out.ext HX.out) hia
        obtain ⟨b2, o2, rfl, hb2, q0, q1, q2⟩ := tokRow_at (HRB.out.ext HX.out) hib
        have HST := Lib.hid (sameT_step hia hib)
        have h0 : (0 : Int) ≤ (i : Int) := by omega
        have h1 : (i : Int) < (n : Int) := by omega
        generalize la[i] = ta at p0 p1 p2 HST
        generalize lb[i] = tb at q0 q1 q2 HST
        have hneq := run_tok_neq ta tb
        have htg := tok_guard
        cases hte : tokEq ta tb
        · go_wp2
          go_quiet (fail)
          go_wp2
          go_ret
          exact ⟨ret_bool (by rw [← HS.out, HST.out, hte]; rfl), Ext.drewN HX.out _⟩
        · go_wp2
          go_quiet (fail)
          go_wp2
          go_roundg (n - (i + 1))
          case measure => omega
          case rel => exact ⟨i + 1, rfl, by omega, by go_num, Lib.hid (by rw [← HS.out, HST.out, hte]; rfl), Lib.hid (Ext.drewN HX.out _)⟩
      · go_wp2
        go_ret
        exact ⟨ret_bool (by rw [← HS.out, sameT_end (by have := HNa.out; omega) (by have := HNb.out; omega)]), HX.out⟩
end Go.Proofs.Ytoknigfjgoaoaaa
