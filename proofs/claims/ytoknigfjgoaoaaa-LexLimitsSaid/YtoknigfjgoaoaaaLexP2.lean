/- The reference's lexer, in plain functions. -/
import Derived.Test.YtoknigfjgoaoaaaLexP
namespace Go.Proofs.Ytoknigfjgoaoaaa.Lx

/-! ### the reference's functions -/

def wordLen (l : List UInt8) : Nat := if letterB (l.getD 0 0) = true then spanN wordB l else 0
def signLen (l : List UInt8) : Nat :=
  if (l.getD 0 0).toNat = 61 then (if 1 < l.length ∧ (l.getD 1 0).toNat = 61 then 2 else 1)
  else if ([40, 41, 91, 93, 58, 44, 43, 45, 42, 60, 63] : List Nat).contains (l.getD 0 0).toNat = true then 1 else 0
theorem getD_drop (l : List UInt8) (k : Nat) : (l.drop k).getD 0 0 = l.getD k 0 := by simp [List.getD]
theorem getD_drop1 (l : List UInt8) (k : Nat) : (l.drop k).getD 1 0 = l.getD (k + 1) 0 := by simp [List.getD]
theorem signLen_eq {l : List UInt8} {k : Nat} {c : UInt8} (h : k < l.length) (hc : l[k] = c) :
    signLen (l.drop k) = if c.toNat = 61 then (if k + 1 < l.length ∧ (l.getD (k + 1) 0).toNat = 61 then 2 else 1)
      else if ([40, 41, 91, 93, 58, 44, 43, 45, 42, 60, 63] : List Nat).contains c.toNat = true then 1 else 0 := by
  unfold signLen
  rw [getD_drop, getD_drop1, getD_of_lt h hc, List.length_drop]
  by_cases h2 : k + 1 < l.length
  · have h1 : 1 < l.length - k := by omega
    simp only [h1, h2]
  · have h1 : ¬ 1 < l.length - k := by omega
    simp only [h1, h2]

theorem lower_of {c : UInt8} (h : letterB c = true) (hu : upperB c = false) : lowerB c = true := by simpa [letterB, hu] using h
theorem not_lower {c : UInt8} (hu : upperB c = true) : lowerB c = false := by simp [upperB, lowerB] at *; omega

theorem quotedT_at {l : List UInt8} {k j : Nat} {c : UInt8} (h : k < l.length) (hc : l[k] = c) :
    quotedT (l.drop k) j = if allowedB c = false then (j, 1) else if c.toNat = 34 then (j + 1, 0) else if c.toNat = 92 ∨ c.toNat < 32 then (0, 2) else quotedT (l.drop (k + 1)) (j + 1) := by
  rw [List.drop_eq_getElem_cons h, hc]; rfl
theorem quotedT_at_end {l : List UInt8} {k j : Nat} (h : l.length ≤ k) : quotedT (l.drop k) j = (0, 2) := by
  rw [List.drop_of_length_le h]; rfl
theorem printed_lt {c : UInt8} (ha : allowedB c = true) (hp : printedB c = false) : c.toNat < 32 := by
  simp [allowedB, hp, whiteB] at ha
  simp [printedB] at hp
  omega
theorem printed_ge {c : UInt8} (hp : printedB c = true) : ¬ c.toNat < 32 := by
  simp [printedB] at hp; omega
theorem allowed_quote {c : UInt8} (h : c.toNat = 34) : allowedB c = true := by simp [allowedB, printedB, h]
/-- The signs, as the program and as the reference tell them. -/
theorem sign_same (l : List UInt8) : (if (l.getD 0 0).toNat = 61 ∧ 1 < l.length ∧ (l.getD 1 0).toNat = 61 then ((8, 2, 0) : Nat × Nat × Nat) else if signs.contains (l.getD 0 0) = true then (8, 1, 0) else (0, 0, 2)) =
    if signLen l = 0 then (0, 0, 2) else (8, signLen l, 0) := by
  unfold signLen
  generalize l.getD 0 0 = c
  generalize l.getD 1 0 = d
  by_cases h61 : c.toNat = 61
  · have hc : c = 61 := by apply UInt8.toNat_inj.1; simpa using h61
    subst hc
    by_cases h2 : 1 < l.length ∧ d.toNat = 61
    · simp [h2]
    · simp [h2, signs]
  · have : signs.contains c = ([40, 41, 91, 93, 58, 44, 43, 45, 42, 60, 63] : List Nat).contains c.toNat := by
      simp only [signs, List.contains_cons, List.contains_nil, Bool.or_false]
      have h : ∀ n : UInt8, (c == n) = (c.toNat == n.toNat) := fun n => by rw [Bool.eq_iff_iff]; simp [UInt8.toNat_inj]
      simp only [h]
      have : (c.toNat == (61 : UInt8).toNat) = false := by simpa using h61
      rw [this]
      rfl
    rw [this]
    simp only [h61, false_and, if_false]
    split <;> simp_all

end Go.Proofs.Ytoknigfjgoaoaaa.Lx
