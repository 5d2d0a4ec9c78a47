/- The plain functions of the lexer: what lex.Scan, Class, Trivia, Fuses, Join compute, on lists of bytes. No program in sight. -/
import Derived.Lib.Hide
namespace Go.Proofs.Ytoknigfjgoaoaaa.Lx

def lowerB (c : UInt8) : Bool := decide (97 ≤ c.toNat) && decide (c.toNat ≤ 122)
def upperB (c : UInt8) : Bool := decide (65 ≤ c.toNat) && decide (c.toNat ≤ 90)
def digitB (c : UInt8) : Bool := decide (48 ≤ c.toNat) && decide (c.toNat ≤ 57)
def letterB (c : UInt8) : Bool := lowerB c || upperB c
def wordB (c : UInt8) : Bool := letterB c || digitB c || c.toNat == 95
def whiteB (c : UInt8) : Bool := c.toNat == 9 || c.toNat == 10 || c.toNat == 13 || c.toNat == 32
def printedB (c : UInt8) : Bool := decide (32 ≤ c.toNat) && decide (c.toNat ≤ 126)
def allowedB (c : UInt8) : Bool := whiteB c || printedB c

/-- The reserved words, as bytes. -/
def words : List (List UInt8) := [[109, 111, 100, 117, 108, 101], [100, 101, 102], [116, 121, 112, 101], [108, 101, 116], [105, 110], [105, 102], [116, 104, 101, 110], [101, 108, 115, 101], [116, 114, 117, 101], [102, 97, 108, 115, 101], [73, 110, 116], [84, 101, 120, 116], [66, 111, 111, 108]]
def resvB (l : List UInt8) : Bool := words.contains l

/-- How many bytes with p a list begins with. -/
def spanN (p : UInt8 → Bool) (l : List UInt8) : Nat := (l.takeWhile p).length

/-- Is the word with which l begins the first half of a qualified one? -/
def wordCond (l : List UInt8) : Bool :=
  upperB (l.getD 0 0) && !resvB (l.take (spanN wordB l)) && decide (spanN wordB l + 1 < l.length) && ((l.getD (spanN wordB l) 0).toNat == 46) && letterB (l.getD (spanN wordB l + 1) 0)

def wordNoT (l : List UInt8) (n : Nat) : Nat × Nat × Nat :=
  if 24 < n then (0, 0, 3) else if resvB (l.take n) = true then (7, n, 0) else if lowerB (l.getD 0 0) = true then (1, n, 0) else (2, n, 0)

def wordYesT (l : List UInt8) (n m : Nat) : Nat × Nat × Nat :=
  if 24 < n ∨ 24 < m then (0, 0, 3)
  else if resvB ((l.drop (n + 1)).take m) = true then (0, 0, 2)
  else if lowerB (l.getD (n + 1) 0) = true then (3, n + 1 + m, 0)
  else (4, n + 1 + m, 0)

/-- kind, length, error of the word with which l begins. -/
def wordT (l : List UInt8) : Nat × Nat × Nat :=
  if wordCond l = true then wordYesT l (spanN wordB l) (spanN wordB (l.drop (spanN wordB l + 1))) else wordNoT l (spanN wordB l)

/-- length, error of the number with which l begins. -/
def numberT (l : List UInt8) : Nat × Nat :=
  let n := spanN digitB l
  if 1 < n ∧ (l.getD 0 0).toNat = 48 then (0, 2) else if 15 < n then (0, 3) else (n, 0)

/-- length or offset, error of the string whose bytes from number i on are l. -/
def quotedT : List UInt8 → Nat → Nat × Nat
  | [], _ => (0, 2)
  | c :: r, i =>
    if allowedB c = false then (i, 1)
    else if c.toNat = 34 then (i + 1, 0)
    else if c.toNat = 92 ∨ c.toNat < 32 then (0, 2)
    else quotedT r (i + 1)

def signs : List UInt8 := [40, 41, 91, 93, 58, 44, 61, 43, 45, 42, 60, 63]

/-- kind, length or offset, error of the token with which l begins; l is not empty. -/
def tokenT (l : List UInt8) : Nat × Nat × Nat :=
  let c := l.getD 0 0
  if allowedB c = false then (0, 0, 1)
  else if letterB c = true then wordT l
  else if digitB c = true then (5, numberT l)
  else if c.toNat = 34 then (6, quotedT l.tail 1)
  else if c.toNat = 61 ∧ 1 < l.length ∧ (l.getD 1 0).toNat = 61 then (8, 2, 0)
  else if signs.contains c = true then (8, 1, 0)
  else (0, 0, 2)

/-- The trivia with which l begins, behind n bytes, inside a comment or not: how many bytes in all, and the place of a byte that may not occur. -/
def leadT : Bool → List UInt8 → Nat → Nat × Option Nat
  | _, [], n => (n, none)
  | false, c :: r, n => if whiteB c = true then leadT false r (n + 1) else if c.toNat = 35 then leadT true r (n + 1) else (n, none)
  | true, c :: r, n => if c.toNat = 10 then leadT false r (n + 1) else if allowedB c = false then (n, some n) else leadT true r (n + 1)

/-- A token: kind, lead, text. -/
structure Tok where
  kind : Int
  lead : List UInt8
  text : List UInt8

/-- What Scan returns: tokens, tail, place, error. -/
structure Scanned where
  toks : List Tok
  tail : List UInt8
  place : Nat
  err : Nat

def scanT : Nat → List UInt8 → Nat → List Tok → Scanned
  | 0, _, _, _ => ⟨[], [], 0, 0⟩
  | f + 1, l, pos, acc =>
    match (leadT false l 0).2 with
    | some b => ⟨[], [], pos + b, 1⟩
    | none =>
      if (leadT false l 0).1 = l.length then ⟨acc, l, 0, 0⟩
      else if (tokenT (l.drop (leadT false l 0).1)).2.2 = 0 then
        scanT f (l.drop ((leadT false l 0).1 + (tokenT (l.drop (leadT false l 0).1)).2.1)) (pos + (leadT false l 0).1 + (tokenT (l.drop (leadT false l 0).1)).2.1)
          (acc ++ [⟨(tokenT (l.drop (leadT false l 0).1)).1, l.take (leadT false l 0).1, (l.drop (leadT false l 0).1).take (tokenT (l.drop (leadT false l 0).1)).2.1⟩])
      else ⟨[], [], pos + (leadT false l 0).1 + (tokenT (l.drop (leadT false l 0).1)).2.1, (tokenT (l.drop (leadT false l 0).1)).2.2⟩

def scan (l : List UInt8) : Scanned := if 4096 < l.length then ⟨[], [], 4096, 3⟩ else scanT (l.length + 1) l 0 []

def classT (l : List UInt8) : Nat := if l = [] then 0 else if (tokenT l).2.2 = 0 ∧ (tokenT l).2.1 = l.length then (tokenT l).1 else 0

/-- Trivia, byte by byte; c: inside a comment. -/
def triviaT : Bool → List UInt8 → Bool → Bool
  | c, [], fin => !c || fin
  | c, x :: r, fin =>
    if allowedB x = false then false
    else if c = true then triviaT (!(x.toNat == 10)) r fin
    else if x.toNat = 35 then triviaT true r fin
    else if whiteB x = false then false
    else triviaT c r fin

def joinT : List Tok → List UInt8 → List UInt8
  | [], tail => tail
  | t :: r, tail => t.lead ++ t.text ++ joinT r tail

def fusesT (a b : List UInt8) : Bool :=
  if classT a = 0 ∨ classT b = 0 then false
  else
    let r := scan (a ++ b)
    if r.err = 0 ∧ r.toks.length = 2 ∧ r.tail = [] then
      !((r.toks.getD 0 ⟨0, [], []⟩).lead == [] && (r.toks.getD 0 ⟨0, [], []⟩).text == a && (r.toks.getD 1 ⟨0, [], []⟩).lead == [] && (r.toks.getD 1 ⟨0, [], []⟩).text == b)
    else true

/-! ### small facts -/

theorem spanN_step {p : UInt8 → Bool} {l : List UInt8} {k : Nat} {c : UInt8} (h : k < l.length) (hc : l[k] = c) (hp : p c = true) :
    spanN p (l.drop k) = spanN p (l.drop (k + 1)) + 1 := by
  rw [List.drop_eq_getElem_cons h, hc]; simp [spanN, hp]

theorem spanN_stop {p : UInt8 → Bool} {l : List UInt8} {k : Nat} {c : UInt8} (h : k < l.length) (hc : l[k] = c) (hp : p c = false) :
    spanN p (l.drop k) = 0 := by
  rw [List.drop_eq_getElem_cons h, hc]; simp [spanN, hp]

theorem spanN_end {p : UInt8 → Bool} {l : List UInt8} {k : Nat} (h : l.length ≤ k) : spanN p (l.drop k) = 0 := by
  rw [List.drop_of_length_le h]; rfl

theorem spanN_le (p : UInt8 → Bool) : ∀ (l : List UInt8), spanN p l ≤ l.length
  | [] => Nat.le_refl _
  | c :: r => by
    have := spanN_le p r
    unfold spanN at *
    rw [List.takeWhile_cons]
    split <;> simp <;> omega

theorem spanN_pos {p : UInt8 → Bool} {l : List UInt8} (h : 0 < l.length) (hp : p (l.getD 0 0) = true) : 0 < spanN p l := by
  cases l with
  | nil => simp at h
  | cons c r => simp [spanN] at *; simp [hp]

theorem wordB_true {c : UInt8} (h : letterB c = true ∨ digitB c = true ∨ ((c.toNat : Int) == 95) = true) : wordB c = true := by
  rcases h with h | h | h <;> simp_all [wordB] <;> omega

theorem wordB_false {c : UInt8} (h1 : ¬ letterB c = true) (h2 : ¬ digitB c = true) (h3 : ((c.toNat : Int) == 95) = false) : wordB c = false := by
  simp_all [wordB]; omega

theorem getD_of_lt {l : List UInt8} {k : Nat} {c : UInt8} (h : k < l.length) (hc : l[k] = c) : l.getD k 0 = c := by
  simp [List.getD, List.getElem?_eq_getElem h, hc]

theorem beqI {n m : Nat} (h : ((n : Int) == (m : Int)) = true) : n = m := by simp at h; omega
theorem bneI {n m : Nat} (h : ((n : Int) == (m : Int)) = false) : ¬ n = m := by simp at h; omega

theorem numberT_zero {l : List UInt8} {k : Nat} {c : UInt8} (h : spanN digitB l = k) (h1 : 1 < k) (h0 : 0 < l.length) (hc : l[0] = c) (h48 : ((c.toNat : Int) == 48) = true) : numberT l = (0, 2) := by
  unfold numberT; rw [h, getD_of_lt h0 hc]; have := beqI (m := 48) h48; simp [h1, this]
theorem numberT_long {l : List UInt8} {k : Nat} (h : spanN digitB l = k) (h1 : 1 < k → ¬ (l.getD 0 0).toNat = 48) (h15 : 15 < k) : numberT l = (0, 3) := by
  unfold numberT; rw [h]; simp only; rw [if_neg (fun x => h1 x.1 x.2), if_pos h15]
theorem numberT_ok {l : List UInt8} {k : Nat} (h : spanN digitB l = k) (h1 : 1 < k → ¬ (l.getD 0 0).toNat = 48) (h15 : ¬ 15 < k) : numberT l = (k, 0) := by
  unfold numberT; rw [h]; simp only; rw [if_neg (fun x => h1 x.1 x.2), if_neg h15]

theorem quotedT_step {l : List UInt8} {k : Nat} {c : UInt8} (h : k < l.length) (hc : l[k] = c) :
    quotedT (l.drop k) k = if allowedB c = false then (k, 1) else if c.toNat = 34 then (k + 1, 0) else if c.toNat = 92 ∨ c.toNat < 32 then (0, 2) else quotedT (l.drop (k + 1)) (k + 1) := by
  rw [List.drop_eq_getElem_cons h, hc]; rfl
theorem quotedT_end {l : List UInt8} {k : Nat} (h : l.length ≤ k) : quotedT (l.drop k) k = (0, 2) := by
  rw [List.drop_of_length_le h]; rfl

/-- A slice of a string, as lists. -/
theorem ext_list (l : List UInt8) (a b : Nat) : (ByteArray.mk l.toArray).extract a b = ⟨((l.drop a).take (b - a)).toArray⟩ := by
  apply ByteArray.ext
  rw [ByteArray.data_extract]
  simp [List.extract_eq_take_drop]
theorem take_drop_all (l : List UInt8) (a : Nat) : (l.drop a).take (l.length - a) = l.drop a := by
  apply List.take_of_length_le; simp

theorem wordT_no {l : List UInt8} {n : Nat} (hn : spanN wordB l = n) (h : wordCond l = false) : wordT l = wordNoT l n := by simp [wordT, h, hn]
theorem wordT_yes {l : List UInt8} {n m : Nat} (hn : spanN wordB l = n) (hm : spanN wordB (l.drop (n + 1)) = m) (h : wordCond l = true) : wordT l = wordYesT l n m := by simp [wordT, h, hn, hm]
theorem cond_u {l : List UInt8} {c : UInt8} (h0 : 0 < l.length) (hc : l[0] = c) (h : upperB c = false) : wordCond l = false := by
  simp [wordCond, getD_of_lt h0 hc, h, -List.getD_eq_getElem?_getD]
theorem cond_r {l : List UInt8} {n : Nat} (hn : spanN wordB l = n) (h : resvB (l.take n) = true) : wordCond l = false := by
  simp [wordCond, hn, h]
theorem cond_l {l : List UInt8} {n : Nat} (hn : spanN wordB l = n) (h : ¬ n + 1 < l.length) : wordCond l = false := by
  simp [wordCond, hn, h]
theorem cond_d {l : List UInt8} {n : Nat} {c : UInt8} (hn : spanN wordB l = n) (hl : n < l.length) (hc : l[n] = c) (h : ((c.toNat : Int) == 46) = false) : wordCond l = false := by
  have := bneI (m := 46) h
  simp [wordCond, hn, getD_of_lt hl hc, this, -List.getD_eq_getElem?_getD]
theorem cond_t {l : List UInt8} {n : Nat} {c : UInt8} (hn : spanN wordB l = n) (hl : n + 1 < l.length) (hc : l[n + 1] = c) (h : letterB c = false) : wordCond l = false := by
  simp [wordCond, hn, getD_of_lt hl hc, h, -List.getD_eq_getElem?_getD]
theorem cond_yes {l : List UInt8} {n : Nat} {c0 c1 c2 : UInt8} (hn : spanN wordB l = n) (h0 : 0 < l.length) (hc0 : l[0] = c0) (hu : upperB c0 = true) (hr : resvB (l.take n) = false)
    (hl : n + 1 < l.length) (hl' : n < l.length) (hc1 : l[n] = c1) (h46 : ((c1.toNat : Int) == 46) = true) (hc2 : l[n + 1] = c2) (h3 : letterB c2 = true) : wordCond l = true := by
  have := beqI (m := 46) h46
  simp [wordCond, hn, getD_of_lt h0 hc0, getD_of_lt hl' hc1, getD_of_lt hl hc2, hu, hr, hl, h3, this, -List.getD_eq_getElem?_getD]

theorem tokenT_eq {l : List UInt8} {c : UInt8} (h0 : 0 < l.length) (hc : l[0] = c) :
    tokenT l = if allowedB c = false then (0, 0, 1) else if letterB c = true then wordT l else if digitB c = true then (5, numberT l) else if c.toNat = 34 then (6, quotedT l.tail 1)
      else if c.toNat = 61 ∧ 1 < l.length ∧ (l.getD 1 0).toNat = 61 then (8, 2, 0) else if signs.contains c = true then (8, 1, 0) else (0, 0, 2) := by
  unfold tokenT; rw [getD_of_lt h0 hc]

/-! ### lengths of tokens -/

theorem quotedT_len : ∀ (r : List UInt8) (i : Nat), (quotedT r i).1 ≤ i + r.length ∧ ((quotedT r i).2 = 0 → i < (quotedT r i).1)
  | [], i => by simp [quotedT]
  | c :: r, i => by
    have ih := quotedT_len r (i + 1)
    unfold quotedT
    split
    · simp
    · split
      · simp <;> omega
      · split
        · simp
        · simp only [List.length_cons]; exact ⟨by omega, fun h => by have := ih.2 h; omega⟩

theorem wordT_len {l : List UInt8} (h0 : 0 < l.length) (hc : letterB (l.getD 0 0) = true) : (wordT l).2.1 ≤ l.length ∧ ((wordT l).2.2 = 0 → 0 < (wordT l).2.1) := by
  have h1 := spanN_le wordB l
  have h2 : 0 < spanN wordB l := spanN_pos h0 (by simp [wordB, hc, -List.getD_eq_getElem?_getD])
  have h3 := spanN_le wordB (l.drop (spanN wordB l + 1))
  simp only [List.length_drop] at h3
  unfold wordT
  split
  · rename_i hcond
    have h4 : spanN wordB l + 1 < l.length := by
      unfold wordCond at hcond
      simp only [Bool.and_eq_true, decide_eq_true_eq] at hcond
      exact hcond.1.1.2
    unfold wordYesT
    split
    · simp
    · split
      · simp
      · split <;> simp <;> omega
  · unfold wordNoT
    split
    · simp
    · split
      · simp; omega
      · split <;> simp <;> omega

theorem numberT_len {l : List UInt8} (h0 : 0 < l.length) (hc : digitB (l.getD 0 0) = true) : (numberT l).1 ≤ l.length ∧ ((numberT l).2 = 0 → 0 < (numberT l).1) := by
  have h1 := spanN_le digitB l
  have h2 : 0 < spanN digitB l := spanN_pos h0 hc
  unfold numberT
  simp only
  split
  · simp
  · split
    · simp
    · simp; omega

theorem tokenT_len {l : List UInt8} (h0 : 0 < l.length) : (tokenT l).2.1 ≤ l.length ∧ ((tokenT l).2.2 = 0 → 0 < (tokenT l).2.1) := by
  unfold tokenT
  simp only
  split
  · simp
  split
  · exact wordT_len h0 ‹_›
  split
  · exact numberT_len h0 ‹_›
  split
  · have := quotedT_len l.tail 1
    simp only [List.length_tail] at this
    exact ⟨by simp only; omega, fun h => by have := this.2 h; simp only; omega⟩
  split
  · simp; omega
  split
  · simp; omega
  · simp

/-! ### leads and scans, step by step -/

theorem leadT_white {l : List UInt8} {k n : Nat} {c : UInt8} (h : k < l.length) (hc : l[k] = c) (hw : whiteB c = true) : leadT false (l.drop k) n = leadT false (l.drop (k + 1)) (n + 1) := by
  rw [List.drop_eq_getElem_cons h, hc]; simp [leadT, hw]
theorem leadT_hash {l : List UInt8} {k n : Nat} {c : UInt8} (h : k < l.length) (hc : l[k] = c) (hh : c.toNat = 35) : leadT false (l.drop k) n = leadT true (l.drop k) n := by
  rw [List.drop_eq_getElem_cons h, hc]
  have h1 : whiteB c = false := by simp [whiteB, hh]
  have h2 : allowedB c = true := by simp [allowedB, printedB, hh]
  simp [leadT, h1, h2, hh]
theorem leadT_other {l : List UInt8} {k n : Nat} {c : UInt8} (h : k < l.length) (hc : l[k] = c) (hw : whiteB c = false) (hh : ¬ c.toNat = 35) : leadT false (l.drop k) n = (n, none) := by
  rw [List.drop_eq_getElem_cons h, hc]; simp [leadT, hw, hh]
theorem leadT_line {l : List UInt8} {k n : Nat} {c : UInt8} (h : k < l.length) (hc : l[k] = c) (hh : c.toNat = 10) : leadT true (l.drop k) n = leadT false (l.drop k) n := by
  rw [List.drop_eq_getElem_cons h, hc]
  have h1 : whiteB c = true := by simp [whiteB, hh]
  simp [leadT, h1, hh]
theorem leadT_bad {l : List UInt8} {k n : Nat} {c : UInt8} (h : k < l.length) (hc : l[k] = c) (h10 : ¬ c.toNat = 10) (ha : allowedB c = false) : leadT true (l.drop k) n = (n, some n) := by
  rw [List.drop_eq_getElem_cons h, hc]; simp [leadT, h10, ha]
theorem leadT_in {l : List UInt8} {k n : Nat} {c : UInt8} (h : k < l.length) (hc : l[k] = c) (h10 : ¬ c.toNat = 10) (ha : allowedB c = true) : leadT true (l.drop k) n = leadT true (l.drop (k + 1)) (n + 1) := by
  rw [List.drop_eq_getElem_cons h, hc]; simp [leadT, h10, ha]
theorem leadT_end {l : List UInt8} {k n : Nat} (b : Bool) (h : l.length ≤ k) : leadT b (l.drop k) n = (n, none) := by
  rw [List.drop_of_length_le h]; cases b <;> rfl

theorem scanT_bad {f : Nat} {l : List UInt8} {pos n b : Nat} {acc : List Tok} (h : leadT false l 0 = (n, some b)) : scanT (f + 1) l pos acc = ⟨[], [], pos + b, 1⟩ := by
  simp [scanT, h]
theorem scanT_end {f : Nat} {l : List UInt8} {pos n : Nat} {acc : List Tok} (h : leadT false l 0 = (n, none)) (hn : n = l.length) : scanT (f + 1) l pos acc = ⟨acc, l, 0, 0⟩ := by
  simp [scanT, h, hn]
theorem scanT_err {f : Nat} {l : List UInt8} {pos n k m e : Nat} {acc : List Tok} (h : leadT false l 0 = (n, none)) (hn : ¬ n = l.length) (ht : tokenT (l.drop n) = (k, m, e)) (he : ¬ e = 0) :
    scanT (f + 1) l pos acc = ⟨[], [], pos + n + m, e⟩ := by
  simp [scanT, h, hn, ht, he]
theorem scanT_tok {f : Nat} {l : List UInt8} {pos n k m : Nat} {acc : List Tok} (h : leadT false l 0 = (n, none)) (hn : ¬ n = l.length) (ht : tokenT (l.drop n) = (k, m, 0)) :
    scanT (f + 1) l pos acc = scanT f (l.drop (n + m)) (pos + n + m) (acc ++ [⟨k, l.take n, (l.drop n).take m⟩]) := by
  simp [scanT, h, hn, ht]

end Go.Proofs.Ytoknigfjgoaoaaa.Lx
