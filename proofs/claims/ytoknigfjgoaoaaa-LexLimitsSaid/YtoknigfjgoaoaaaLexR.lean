/- Plain laws of the lexer: no byte is lost (LexKeeps). -/
import Derived.Test.YtoknigfjgoaoaaaLexN
namespace Go.Proofs.Ytoknigfjgoaoaaa
open Lx
set_option linter.unusedSimpArgs false
set_option linter.unusedVariables false

/-- How far a span goes in a shorter list. -/
theorem spanN_take (p : UInt8 → Bool) : ∀ (l : List UInt8) (m : Nat), spanN p l ≤ m → spanN p (l.take m) = spanN p l
  | [], m, _ => by simp [spanN]
  | c :: r, 0, h => by
    have : spanN p (c :: r) = 0 := by omega
    rw [this]; simp [spanN]
  | c :: r, m + 1, h => by
    unfold spanN at *
    simp only [List.take_succ_cons, List.takeWhile_cons] at *
    split at h
    · rename_i hp
      simp only [hp, if_true, List.length_cons] at *
      have := spanN_take p r m (by unfold spanN; omega)
      unfold spanN at this
      omega
    · rename_i hp; simp [hp]

theorem getD_take (l : List UInt8) (m k : Nat) (h : k < m) : (l.take m).getD k 0 = l.getD k 0 := by
  simp only [List.getD]
  rw [List.getElem?_take_of_lt h]

theorem wordB_letter {c : UInt8} (h : letterB c = true) : wordB c = true := by simp [wordB, h]
theorem wordB_dot {c : UInt8} (h : c.toNat = 46) : wordB c = false := by simp [wordB, letterB, lowerB, upperB, digitB, h]

theorem wordCond_parts {l : List UInt8} (h : wordCond l = true) : upperB (l.getD 0 0) = true ∧ resvB (l.take (spanN wordB l)) = false ∧ spanN wordB l + 1 < l.length ∧ (l.getD (spanN wordB l) 0).toNat = 46 ∧ letterB (l.getD (spanN wordB l + 1) 0) = true := by
  unfold wordCond at h
  simp only [Bool.and_eq_true, decide_eq_true_eq, beq_iff_eq, Bool.not_eq_true'] at h
  obtain ⟨⟨⟨⟨h1, h2⟩, h3⟩, h4⟩, h5⟩ := h
  exact ⟨h1, h2, h3, h4, h5⟩
theorem wordCond_mk {l : List UInt8} {n : Nat} (hn : spanN wordB l = n) (h1 : upperB (l.getD 0 0) = true) (h2 : resvB (l.take n) = false) (h3 : n + 1 < l.length) (h4 : (l.getD n 0).toNat = 46) (h5 : letterB (l.getD (n + 1) 0) = true) : wordCond l = true := by
  subst hn
  unfold wordCond
  rw [h1, h2, h5]
  simp [h3, h4, -List.getD_eq_getElem?_getD]

theorem wordT_take {l : List UInt8} {k m : Nat} (h0 : 0 < l.length) (hc : letterB (l.getD 0 0) = true) (h : wordT l = (k, m, 0)) : wordT (l.take m) = (k, m, 0) := by
  have hpos : 0 < spanN wordB l := spanN_pos h0 (wordB_letter hc)
  have hle := spanN_le wordB l
  unfold wordT at h
  by_cases hcond : wordCond l = true
  · rw [if_pos hcond] at h
    obtain ⟨c1, c2, c3, c4, c5⟩ := wordCond_parts hcond
    generalize hn : spanN wordB l = n at *
    generalize hm' : spanN wordB (l.drop (n + 1)) = m' at *
    have hm0 : 0 < m' := by rw [← hm']; exact spanN_pos (by simp; omega) (by rw [getD_drop]; exact wordB_letter c5)
    have hm : m = n + 1 + m' := by
      unfold wordYesT at h
      split at h
      · simp at h
      · split at h
        · simp at h
        · split at h <;> (simp at h; omega)
    have hml : n + 1 + m' ≤ l.length := by have := spanN_le wordB (l.drop (n + 1)); rw [hm'] at this; simp at this; omega
    have e1 : spanN wordB (l.take m) = n := by rw [spanN_take _ _ _ (by omega), hn]
    have e2 : (l.take m).take n = l.take n := by rw [List.take_take]; congr 1; omega
    have hc' : wordCond (l.take m) = true := wordCond_mk e1 (by rw [getD_take _ _ _ (by omega)]; exact c1) (by rw [e2]; exact c2) (by simp; omega) (by rw [getD_take _ _ _ (by omega)]; exact c4) (by rw [getD_take _ _ _ (by omega)]; exact c5)
    have e3 : spanN wordB ((l.take m).drop (n + 1)) = m' := by rw [List.drop_take, spanN_take _ _ _ (by omega), hm']
    rw [wordT_yes e1 e3 hc', ← h]
    unfold wordYesT
    rw [List.drop_take, List.take_take, getD_take _ _ _ (by omega)]
    have : min m' (m - (n + 1)) = m' := by omega
    rw [this]
  · rw [if_neg hcond] at h
    generalize hn : spanN wordB l = n at *
    have hm : m = n := by
      unfold wordNoT at h
      split at h
      · simp at h
      · split at h
        · simp at h; omega
        · split at h <;> (simp at h; omega)
    subst hm
    have e1 : spanN wordB (l.take m) = m := by rw [spanN_take _ _ _ (by omega), hn]
    have hc' : wordCond (l.take m) = false := cond_l e1 (by simp; omega)
    rw [wordT_no e1 hc', ← h]
    unfold wordNoT
    rw [List.take_take, getD_take _ _ _ (by omega), Nat.min_self]

theorem quotedT_take : ∀ (r : List UInt8) (i m : Nat), quotedT r i = (i + m, 0) → quotedT (r.take m) i = (i + m, 0)
  | [], i, m, h => by simp [quotedT] at h
  | c :: r, i, 0, h => by
    have := (quotedT_len (c :: r) i).2 (by rw [h])
    rw [h] at this
    simp at this
  | c :: r, i, m + 1, h => by
    simp only [List.take_succ_cons]
    unfold quotedT at h ⊢
    split
    · rename_i ha; rw [if_pos ha] at h; simp at h
    · rename_i ha; rw [if_neg ha] at h
      split
      · rename_i hq; rw [if_pos hq] at h; simpa using h
      · rename_i hq; rw [if_neg hq] at h
        split
        · rename_i hb; rw [if_pos hb] at h; simp at h
        · rename_i hb; rw [if_neg hb] at h
          have := quotedT_take r (i + 1) m (by rw [h]; congr 1; omega)
          rw [this]; congr 1; omega

theorem numberT_take {l : List UInt8} {m : Nat} (h0 : 0 < spanN digitB l) (h : numberT l = (m, 0)) : numberT (l.take m) = (m, 0) := by
  have hn : m = spanN digitB l := by
    unfold numberT at h
    simp only at h
    split at h
    · simp at h
    · split at h
      · simp at h
      · simpa using h.symm
  subst hn
  have e1 : spanN digitB (l.take (spanN digitB l)) = spanN digitB l := spanN_take _ _ _ (Nat.le_refl _)
  unfold numberT at h ⊢
  rw [e1, getD_take _ _ _ h0]
  exact h

/-- A token, alone, is the token. -/
theorem tokenT_take {l : List UInt8} {k m : Nat} (h0 : 0 < l.length) (h : tokenT l = (k, m, 0)) : tokenT (l.take m) = (k, m, 0) := by
  have hlen := tokenT_len h0
  rw [h] at hlen
  simp only at hlen
  have hm0 : 0 < m := hlen.2 trivial
  have hg : (l.take m).getD 0 0 = l.getD 0 0 := getD_take _ _ _ hm0
  have ht0 : 0 < (l.take m).length := by simp; omega
  have hpos : 0 < l.length := h0
  unfold tokenT at h ⊢
  simp only at h ⊢
  rw [hg]
  by_cases ha : allowedB (l.getD 0 0) = false
  · rw [if_pos ha] at h; simp at h
  rw [if_neg ha] at h ⊢
  by_cases hl : letterB (l.getD 0 0) = true
  · rw [if_pos hl] at h ⊢; exact wordT_take h0 hl h
  rw [if_neg hl] at h ⊢
  by_cases hd : digitB (l.getD 0 0) = true
  · rw [if_pos hd] at h ⊢
    simp only [Prod.mk.injEq] at h
    rw [numberT_take (m := m) (spanN_pos h0 hd) h.2, h.1]
  rw [if_neg hd] at h ⊢
  by_cases hq : (l.getD 0 0).toNat = 34
  · rw [if_pos hq] at h ⊢
    simp only [Prod.mk.injEq] at h
    have hr : quotedT l.tail 1 = (m, 0) := h.2
    have e : (l.take m).tail = l.tail.take (m - 1) := by
      cases l with
      | nil => simp
      | cons c r => obtain ⟨m', rfl⟩ : ∃ m', m = m' + 1 := ⟨m - 1, by omega⟩; simp
    rw [e, quotedT_take l.tail 1 (m - 1) (by rw [hr]; congr 1; omega), h.1]
    congr 2; omega
  rw [if_neg hq] at h ⊢
  by_cases he : (l.getD 0 0).toNat = 61 ∧ 1 < l.length ∧ (l.getD 1 0).toNat = 61
  · rw [if_pos he] at h
    simp only [Prod.mk.injEq] at h
    obtain ⟨rfl, rfl, _⟩ := h
    rw [if_pos ⟨he.1, by simp; omega, by rw [getD_take _ _ _ (by omega)]; exact he.2.2⟩]
  · rw [if_neg he] at h
    by_cases hs : signs.contains (l.getD 0 0) = true
    · rw [if_pos hs] at h
      simp only [Prod.mk.injEq] at h
      obtain ⟨rfl, rfl, _⟩ := h
      rw [if_neg (by intro hh; have := hh.2.1; simp at this; omega), if_pos hs]
    · rw [if_neg hs] at h; simp at h

theorem wordT_kind {l : List UInt8} {k m : Nat} (h : wordT l = (k, m, 0)) : k ≠ 0 := by
  unfold wordT at h
  split at h
  · unfold wordYesT at h
    split at h
    · simp at h
    · split at h
      · simp at h
      · split at h <;> (simp at h; omega)
  · unfold wordNoT at h
    split at h
    · simp at h
    · split at h
      · simp at h; omega
      · split at h <;> (simp at h; omega)
theorem tokenT_kind {l : List UInt8} {k m : Nat} (h : tokenT l = (k, m, 0)) : k ≠ 0 := by
  unfold tokenT at h
  simp only at h
  split at h
  · simp at h
  split at h
  · exact wordT_kind h
  split at h
  · simp at h; omega
  split at h
  · simp at h; omega
  split at h
  · simp at h; omega
  split at h
  · simp at h; omega
  · simp at h

theorem class_of_token {l : List UInt8} {k m : Nat} (h0 : 0 < l.length) (h : tokenT l = (k, m, 0)) : classT (l.take m) = k := by
  have hlen := tokenT_len h0
  rw [h] at hlen
  simp only at hlen
  have hm0 : 0 < m := hlen.2 trivial
  have ht := tokenT_take h0 h
  have hne : l.take m ≠ [] := by intro e; have := congrArg List.length e; simp only [List.length_take, List.length_nil] at this; omega
  unfold classT
  rw [if_neg hne, ht, if_pos ⟨rfl, by simp; omega⟩]

/-- A lead that ends before a token is complete trivia. -/
theorem lead_take : ∀ (l : List UInt8) (c : Bool) (n : Nat), leadT c l 0 = (n, none) → n < l.length → triviaT c (l.take n) false = true
  | [], c, n, h, hn => by simp at hn
  | x :: r, c, n, h, hn => by
    have ih := lead_take r
    have step : ∀ d : Bool, leadT c (x :: r) 0 = leadT d r 1 → ∃ n', n = n' + 1 ∧ leadT d r 0 = (n', none) ∧ n' < r.length := fun d hd => by
      rw [hd, show (1 : Nat) = 0 + 1 from rfl, leadT_mono] at h
      simp only [Prod.mk.injEq, Option.map_eq_none_iff] at h
      refine ⟨(leadT d r 0).1, h.1.symm, ?_, ?_⟩
      · rw [← h.2]
      · simp only [List.length_cons] at hn; omega
    cases c with
    | false =>
      by_cases hw : whiteB x = true
      · obtain ⟨n', rfl, h1, h2⟩ := step false (by simp [leadT, hw])
        have ha : allowedB x = true := by simp [allowedB, hw]
        have h35 : ¬ x.toNat = 35 := fun e => by simp [whiteB, e] at hw
        simp only [List.take_succ_cons, triviaT]
        rw [if_neg (by simp [ha]), if_neg (by simp), if_neg h35, if_neg (by simp [hw])]
        exact ih false n' h1 h2
      · by_cases h35 : x.toNat = 35
        · obtain ⟨n', rfl, h1, h2⟩ := step true (by simp [leadT, hw, h35])
          have ha : allowedB x = true := by simp [allowedB, printedB, h35]
          simp only [List.take_succ_cons, triviaT]
          rw [if_neg (by simp [ha]), if_neg (by simp), if_pos h35]
          exact ih true n' h1 h2
        · have : leadT false (x :: r) 0 = (0, none) := by simp [leadT, hw, h35]
          rw [this] at h
          simp only [Prod.mk.injEq] at h
          rw [← h.1]; rfl
    | true =>
      by_cases h10 : x.toNat = 10
      · obtain ⟨n', rfl, h1, h2⟩ := step false (by simp [leadT, h10])
        have ha : allowedB x = true := by simp [allowedB, whiteB, h10]
        simp only [List.take_succ_cons, triviaT]
        rw [if_neg (by simp [ha]), if_pos trivial]
        simp only [h10, beq_self_eq_true, Bool.not_true]
        exact ih false n' h1 h2
      · by_cases ha : allowedB x = true
        · obtain ⟨n', rfl, h1, h2⟩ := step true (by simp [leadT, h10, ha])
          simp only [List.take_succ_cons, triviaT]
          rw [if_neg (by simp [ha]), if_pos trivial]
          have : (!(x.toNat == 10)) = true := by simp [h10]
          rw [this]
          exact ih true n' h1 h2
        · have : leadT true (x :: r) 0 = (0, some 0) := by simp [leadT, h10, ha]
          rw [this] at h
          simp at h

/-- What LexKeeps says of a token. -/
def GoodTok (t : Tok) : Prop := (classT t.text : Int) = t.kind ∧ t.kind ≠ 0 ∧ triviaT false t.lead false = true

theorem scanT_keeps : ∀ (f : Nat) (l : List UInt8) (pos : Nat) (acc : List Tok), l.length < f → (scanT f l pos acc).err = 0 →
    ∃ ts, (scanT f l pos acc).toks = acc ++ ts ∧ joinT ts (scanT f l pos acc).tail = l ∧ (∀ t ∈ ts, GoodTok t) ∧ triviaT false (scanT f l pos acc).tail true = true ∧ ts.length ≤ l.length
  | 0, l, pos, acc, hf, _ => by omega
  | f + 1, l, pos, acc, hf, he => by
    obtain ⟨n, b, hLd⟩ : ∃ n b, leadT false l 0 = (n, b) := ⟨_, _, rfl⟩
    cases b with
    | some q => rw [scanT_bad hLd] at he; simp at he
    | none =>
      by_cases hn : n = l.length
      · rw [scanT_end hLd hn] at he ⊢
        refine ⟨[], by simp, rfl, by simp, ?_, by simp⟩
        rw [triviaT_eq]
        simp [wholeB, hLd, hn]
      · have hnl : n < l.length := by have h := leadT_le false l 0; rw [hLd] at h; simp at h; omega
        have hd0 : 0 < (l.drop n).length := by simp; omega
        obtain ⟨k, m, e, hT⟩ : ∃ k m e, tokenT (l.drop n) = (k, m, e) := ⟨_, _, _, rfl⟩
        by_cases he0 : e = 0
        · subst he0
          have hlen := tokenT_len hd0
          rw [hT] at hlen
          simp only [List.length_drop] at hlen
          have hm0 := hlen.2 trivial
          rw [scanT_tok hLd hn hT] at he ⊢
          obtain ⟨ts, h1, h2, h3, h4, h5⟩ := scanT_keeps f (l.drop (n + m)) (pos + n + m) (acc ++ [⟨k, l.take n, (l.drop n).take m⟩]) (by simp; omega) he
          refine ⟨⟨k, l.take n, (l.drop n).take m⟩ :: ts, by rw [h1]; simp, ?_, ?_, h4, by simp at h5 ⊢; omega⟩
          · simp only [joinT]
            rw [h2, ← List.drop_drop, List.append_assoc, List.take_append_drop, List.take_append_drop]
          · intro t ht
            rcases List.mem_cons.1 ht with rfl | ht
            · refine ⟨?_, ?_, lead_take l false n hLd hnl⟩
              · simp only; rw [class_of_token hd0 hT]
              · simp only; have := tokenT_kind hT; omega
            · exact h3 t ht
        · rw [scanT_err hLd hn hT he0] at he; simp only at he; omega

theorem scanT_errs : ∀ (f : Nat) (l : List UInt8) (pos : Nat) (acc : List Tok), l.length < f → (scanT f l pos acc).err ≠ 0 → (scanT f l pos acc).toks = [] ∧ (scanT f l pos acc).tail = []
  | 0, l, pos, acc, hf, _ => by omega
  | f + 1, l, pos, acc, hf, he => by
    obtain ⟨n, b, hLd⟩ : ∃ n b, leadT false l 0 = (n, b) := ⟨_, _, rfl⟩
    cases b with
    | some q => rw [scanT_bad hLd]; exact ⟨rfl, rfl⟩
    | none =>
      by_cases hn : n = l.length
      · rw [scanT_end hLd hn] at he; simp at he
      · have hnl : n < l.length := by have h := leadT_le false l 0; rw [hLd] at h; simp at h; omega
        have hd0 : 0 < (l.drop n).length := by simp; omega
        obtain ⟨k, m, e, hT⟩ : ∃ k m e, tokenT (l.drop n) = (k, m, e) := ⟨_, _, _, rfl⟩
        by_cases he0 : e = 0
        · subst he0
          have hlen := tokenT_len hd0
          rw [hT] at hlen
          simp only [List.length_drop] at hlen
          have hm0 := hlen.2 trivial
          rw [scanT_tok hLd hn hT] at he ⊢
          exact scanT_errs f (l.drop (n + m)) (pos + n + m) _ (by simp; omega) he
        · rw [scanT_err hLd hn hT he0]; exact ⟨rfl, rfl⟩

/-- No byte is lost. -/
theorem scan_keeps {l : List UInt8} (h : (scan l).err = 0) : joinT (scan l).toks (scan l).tail = l ∧ (∀ t ∈ (scan l).toks, GoodTok t) ∧ triviaT false (scan l).tail true = true ∧ (scan l).toks.length ≤ l.length ∧ l.length ≤ 4096 := by
  unfold scan at h ⊢
  by_cases h4 : 4096 < l.length
  · rw [if_pos h4] at h; simp at h
  · rw [if_neg h4] at h ⊢
    obtain ⟨ts, h1, h2, h3, h4', h5⟩ := scanT_keeps _ l 0 [] (Nat.lt_succ_self _) h
    rw [List.nil_append] at h1
    rw [h1]
    exact ⟨h2, h3, h4', h5, by omega⟩
theorem scan_errs {l : List UInt8} (h : (scan l).err ≠ 0) : (scan l).toks = [] ∧ (scan l).tail = [] := by
  unfold scan at h ⊢
  by_cases h4 : 4096 < l.length
  · rw [if_pos h4]; exact ⟨rfl, rfl⟩
  · rw [if_neg h4] at h ⊢
    exact scanT_errs _ l 0 [] (Nat.lt_succ_self _) h

end Go.Proofs.Ytoknigfjgoaoaaa
