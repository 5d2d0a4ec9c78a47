/- Plain laws of the lexer: tokens that are joined are scanned as they were (LexAgain). -/
import Derived.Test.YtoknigfjgoaoaaaLexR
import Derived.Test.YtoknigfjgoaoaaaLexO
namespace Go.Proofs.Ytoknigfjgoaoaaa
open Lx
set_option linter.unusedSimpArgs false
set_option linter.unusedVariables false

theorem spanN_app_lt (p : UInt8 → Bool) : ∀ (a r : List UInt8), spanN p a < a.length → spanN p (a ++ r) = spanN p a
  | [], r, h => by simp at h
  | c :: a, r, h => by
    unfold spanN at *
    simp only [List.cons_append, List.takeWhile_cons] at *
    split
    · rename_i hp
      simp only [hp, if_true, List.length_cons] at h ⊢
      have := spanN_app_lt p a r (by unfold spanN; omega)
      unfold spanN at this
      omega
    · rfl
theorem spanN_app_all (p : UInt8 → Bool) : ∀ (a r : List UInt8), spanN p a = a.length → spanN p (a ++ r) = a.length + spanN p r
  | [], r, h => by simp
  | c :: a, r, h => by
    unfold spanN at *
    simp only [List.cons_append, List.takeWhile_cons] at *
    split
    · rename_i hp
      simp only [hp, if_true, List.length_cons] at h ⊢
      have := spanN_app_all p a r (by unfold spanN; omega)
      unfold spanN at this
      omega
    · rename_i hp
      simp [hp] at h
theorem spanN_head {p : UInt8 → Bool} {r : List UInt8} (h : p (r.getD 0 0) = false ∨ r = []) : spanN p r = 0 := by
  cases r with
  | nil => rfl
  | cons c r => simp at h; simp [spanN, h]
theorem spanN_head_pos {p : UInt8 → Bool} {c : UInt8} {r : List UInt8} (h : p c = true) : 0 < spanN p (c :: r) := by simp [spanN, h]
theorem getD_app (a r : List UInt8) (k : Nat) (h : k < a.length) : (a ++ r).getD k 0 = a.getD k 0 := by
  simp only [List.getD]; rw [List.getElem?_append_left h]

/-- Would the byte c, right behind the token a, change it? -/
def growsB (a : List UInt8) (c : UInt8) : Bool := (letterB (a.getD 0 0) && wordB c) || (digitB (a.getD 0 0) && digitB c) || (a == [61] && c.toNat == 61)

theorem wordT_len_eq {l : List UInt8} {k m : Nat} (h : wordT l = (k, m, 0)) : m = if wordCond l = true then spanN wordB l + 1 + spanN wordB (l.drop (spanN wordB l + 1)) else spanN wordB l := by
  unfold wordT at h
  split at h
  · rename_i hc
    rw [if_pos hc]
    unfold wordYesT at h
    split at h
    · simp at h
    · split at h
      · simp at h
      · split at h <;> (simp at h; omega)
  · rename_i hc
    rw [if_neg hc]
    unfold wordNoT at h
    split at h
    · simp at h
    · split at h
      · simp at h; omega
      · split at h <;> (simp at h; omega)

theorem class_token {a : List UInt8} {k : Nat} (h : classT a = k) (hk : k ≠ 0) : 0 < a.length ∧ tokenT a = (k, a.length, 0) := by
  unfold classT at h
  by_cases h0 : a = []
  · rw [if_pos h0] at h; exact absurd h.symm hk
  · rw [if_neg h0] at h
    by_cases h1 : (tokenT a).2.2 = 0 ∧ (tokenT a).2.1 = a.length
    · rw [if_pos h1] at h
      exact ⟨List.length_pos_iff.2 h0, by rw [← h, ← h1.2, ← h1.1]⟩
    · rw [if_neg h1] at h; exact absurd h.symm hk

theorem quotedT_app : ∀ (r : List UInt8) (i m : Nat) (s : List UInt8), quotedT r i = (m, 0) → quotedT (r ++ s) i = (m, 0)
  | [], i, m, s, h => by simp [quotedT] at h
  | c :: r, i, m, s, h => by
    rw [List.cons_append]
    unfold quotedT at h ⊢
    split
    · rename_i ha; rw [if_pos ha] at h; simp at h
    · rename_i ha; rw [if_neg ha] at h
      split
      · rename_i hq; rw [if_pos hq] at h; exact h
      · rename_i hq; rw [if_neg hq] at h
        split
        · rename_i hb; rw [if_pos hb] at h; simp at h
        · rename_i hb; rw [if_neg hb] at h
          exact quotedT_app r (i + 1) m s h

theorem wordT_app {a r : List UInt8} {k : Nat} (h0 : 0 < a.length) (hl : letterB (a.getD 0 0) = true) (h : wordT a = (k, a.length, 0)) (hr : wordB (r.getD 0 0) = false ∧ (r.getD 0 0).toNat ≠ 46 ∨ r = []) : wordT (a ++ r) = (k, a.length, 0) := by
  have hpos : 0 < spanN wordB a := spanN_pos h0 (wordB_letter hl)
  have hle := spanN_le wordB a
  have hlen := wordT_len_eq h
  have hsr : spanN wordB r = 0 := spanN_head (hr.imp (·.1) id)
  by_cases hcond : wordCond a = true
  · rw [if_pos hcond] at hlen
    obtain ⟨c1, c2, c3, c4, c5⟩ := wordCond_parts hcond
    have hy := wordT_yes rfl rfl hcond
    generalize hn : spanN wordB a = n at *
    generalize hm' : spanN wordB (a.drop (n + 1)) = m' at *
    have e1 : spanN wordB (a ++ r) = n := by rw [spanN_app_lt _ _ _ (by omega), hn]
    have e2 : (a ++ r).take n = a.take n := List.take_append_of_le_length (by omega)
    have hc' : wordCond (a ++ r) = true := wordCond_mk e1 (by rw [getD_app _ _ _ h0]; exact c1) (by rw [e2]; exact c2) (by simp; omega) (by rw [getD_app _ _ _ (by omega)]; exact c4) (by rw [getD_app _ _ _ (by omega)]; exact c5)
    have e4 : (a ++ r).drop (n + 1) = a.drop (n + 1) ++ r := List.drop_append_of_le_length (by omega)
    have e3 : spanN wordB ((a ++ r).drop (n + 1)) = m' := by
      rw [e4, spanN_app_all _ _ _ (by rw [hm', List.length_drop]; omega), hsr, List.length_drop]; omega
    rw [wordT_yes e1 e3 hc', ← h, hy]
    unfold wordYesT
    rw [e4, getD_app _ _ _ (by omega), List.take_append_of_le_length (by rw [List.length_drop]; omega)]
  · have hcond' : wordCond a = false := by simpa using hcond
    rw [if_neg hcond] at hlen
    have hnn := wordT_no rfl hcond'
    generalize hn : spanN wordB a = n at *
    have e1 : spanN wordB (a ++ r) = n := by rw [spanN_app_all _ _ _ (by omega), hsr]; omega
    have hc' : wordCond (a ++ r) = false := by
      cases hx : wordCond (a ++ r) with
      | false => rfl
      | true =>
        obtain ⟨d1, d2, d3, d4, d5⟩ := wordCond_parts hx
        rw [e1] at d3 d4
        rcases hr with hr | hr
        · refine absurd ?_ hr.2
          have : (a ++ r).getD n 0 = r.getD 0 0 := by
            simp only [List.getD]; rw [List.getElem?_append_right (by omega)]; congr 2; omega
          rw [← this]; exact d4
        · subst hr; simp at d3; omega
    rw [wordT_no e1 hc', ← h, hnn]
    unfold wordNoT
    rw [getD_app _ _ _ h0, List.take_append_of_le_length (by omega)]

theorem tokenT_app {a r : List UInt8} {k : Nat} (h0 : 0 < a.length) (h : tokenT a = (k, a.length, 0)) (hr : growsB a (r.getD 0 0) = false ∧ (r.getD 0 0).toNat ≠ 46 ∨ r = []) : tokenT (a ++ r) = (k, a.length, 0) := by
  have hg : (a ++ r).getD 0 0 = a.getD 0 0 := getD_app _ _ _ h0
  have hgr : ∀ {P : Prop}, (growsB a (r.getD 0 0) = false → P) → P ∨ r = [] := fun {P} f => hr.imp (fun x => f x.1) id
  unfold tokenT at h ⊢
  simp only at h ⊢
  rw [hg]
  by_cases ha : allowedB (a.getD 0 0) = false
  · rw [if_pos ha] at h; simp at h
  rw [if_neg ha] at h ⊢
  by_cases hl : letterB (a.getD 0 0) = true
  · rw [if_pos hl] at h ⊢
    refine wordT_app h0 hl h (hr.imp (fun x => ⟨?_, x.2⟩) id)
    have := x.1
    unfold growsB at this
    simp only [hl, Bool.true_and, Bool.or_eq_false_iff] at this
    exact this.1.1
  rw [if_neg hl] at h ⊢
  by_cases hd : digitB (a.getD 0 0) = true
  · rw [if_pos hd] at h ⊢
    simp only [Prod.mk.injEq] at h
    have hn : spanN digitB a = a.length := by
      have h2 := h.2
      unfold numberT at h2
      simp only at h2
      split at h2
      · simp at h2
      · split at h2
        · simp at h2
        · simp at h2; exact h2
    have hsr : spanN digitB r = 0 := spanN_head (hgr (fun x => by unfold growsB at x; simp only [hd, Bool.true_and, Bool.or_eq_false_iff] at x; exact x.1.2))
    have e1 : spanN digitB (a ++ r) = a.length := by rw [spanN_app_all _ _ _ hn, hsr]; omega
    have e2 : numberT (a ++ r) = numberT a := by unfold numberT; rw [e1, hn, hg]
    rw [e2, h.2, h.1]
  rw [if_neg hd] at h ⊢
  by_cases hq : (a.getD 0 0).toNat = 34
  · rw [if_pos hq] at h ⊢
    simp only [Prod.mk.injEq] at h
    have e : (a ++ r).tail = a.tail ++ r := by
      cases a with
      | nil => simp at h0
      | cons c a => rfl
    rw [e, quotedT_app _ _ _ _ h.2, h.1]
  rw [if_neg hq] at h ⊢
  by_cases he : (a.getD 0 0).toNat = 61 ∧ 1 < a.length ∧ (a.getD 1 0).toNat = 61
  · rw [if_pos he] at h
    rw [if_pos ⟨he.1, by simp; omega, by rw [getD_app _ _ _ he.2.1]; exact he.2.2⟩]
    exact h
  · rw [if_neg he] at h
    by_cases hs : signs.contains (a.getD 0 0) = true
    · rw [if_pos hs] at h
      simp only [Prod.mk.injEq] at h
      have hl1 : a.length = 1 := h.2.1.symm
      rw [if_neg, if_pos hs, h.1, ← h.2.1]
      intro hh
      obtain ⟨h1, h2, h3⟩ := hh
      have ha1 : a = [61] := by
        match a, hl1 with
        | [c], _ =>
          simp at h1
          congr 1
          apply UInt8.toNat_inj.1
          simpa using h1
      have h4 : (a ++ r).getD 1 0 = r.getD 0 0 := by
        simp only [List.getD]; rw [List.getElem?_append_right (by omega), hl1]
      rcases hr with hr | hr
      · have := hr.1
        unfold growsB at this
        rw [ha1] at this
        simp only [beq_self_eq_true, Bool.true_and, Bool.or_eq_false_iff, beq_eq_false_iff_ne] at this
        exact this.2 (by rw [← h4]; exact h3)
      · subst hr; simp at h2; omega
    · rw [if_neg hs] at h; simp at h

/-- The first byte of a token is neither white, nor that of a comment, nor a dot. -/
theorem token_head {a : List UInt8} {k : Nat} (h0 : 0 < a.length) (h : tokenT a = (k, a.length, 0)) : whiteB (a.getD 0 0) = false ∧ (a.getD 0 0).toNat ≠ 35 ∧ (a.getD 0 0).toNat ≠ 46 := by
  have hc : a[0] = a.getD 0 0 := by simp [List.getD, List.getElem?_eq_getElem h0]
  refine ⟨?_, ?_, ?_⟩
  · cases hw : whiteB (a.getD 0 0) with
    | false => rfl
    | true => rw [tokenT_white h0 hc (.inl hw)] at h; simp at h
  · intro h35; rw [tokenT_white h0 hc (.inr h35)] at h; simp at h
  · intro h46
    have hn : a.getD 0 0 = 46 := by apply UInt8.toNat_inj.1; simpa using h46
    unfold tokenT at h
    simp only at h
    rw [hn] at h
    rw [if_neg (by decide), if_neg (by decide), if_neg (by decide), if_neg (by decide), if_neg (by intro x; exact absurd x.1 (by decide)), if_neg (by decide)] at h
    simp at h

theorem lead_app : ∀ (lead : List UInt8) (b : Bool) (r : List UInt8) (n : Nat), triviaT b lead false = true → leadT b (lead ++ r) n = leadT false r (n + lead.length)
  | [], b, r, n, h => by
    have : b = false := by simpa [triviaT] using h
    subst this; rfl
  | x :: l, b, r, n, h => by
    have ih := lead_app l
    unfold triviaT at h
    by_cases ha : allowedB x = false
    · rw [if_pos ha] at h; simp at h
    rw [if_neg ha] at h
    have ha' : allowedB x = true := by simpa using ha
    rw [List.cons_append]
    cases b with
    | true =>
      rw [if_pos rfl] at h
      by_cases h10 : x.toNat = 10
      · have e : leadT true (x :: (l ++ r)) n = leadT false (l ++ r) (n + 1) := by simp [leadT, h10]
        simp only [h10, beq_self_eq_true, Bool.not_true] at h
        rw [e, ih _ _ _ h]; congr 1; simp; omega
      · have e : leadT true (x :: (l ++ r)) n = leadT true (l ++ r) (n + 1) := by simp [leadT, h10, ha']
        have hb : (x.toNat == 10) = false := by simpa using h10
        rw [hb, Bool.not_false] at h
        rw [e, ih _ _ _ h]; congr 1; simp; omega
    | false =>
      rw [if_neg (by simp)] at h
      by_cases h35 : x.toNat = 35
      · have hw : whiteB x = false := by simp [whiteB, h35]
        rw [if_pos h35] at h
        have e : leadT false (x :: (l ++ r)) n = leadT true (l ++ r) (n + 1) := by simp [leadT, h35, hw]
        rw [e, ih _ _ _ h]; congr 1; simp; omega
      · rw [if_neg h35] at h
        by_cases hw : whiteB x = false
        · rw [if_pos hw] at h; simp at h
        · rw [if_neg hw] at h
          have hw' : whiteB x = true := by simpa using hw
          have e : leadT false (x :: (l ++ r)) n = leadT false (l ++ r) (n + 1) := by simp [leadT, hw']
          rw [e, ih _ _ _ h]; congr 1; simp; omega

theorem lead_stop {r : List UInt8} {n : Nat} (h0 : 0 < r.length) (h1 : whiteB (r.getD 0 0) = false) (h2 : (r.getD 0 0).toNat ≠ 35) : leadT false r n = (n, none) := by
  cases r with
  | nil => simp at h0
  | cons c r => simp at h1 h2; simp [leadT, h1, h2]

/-- The first byte of trivia. -/
theorem trivia_head {l : List UInt8} {fin : Bool} (h : triviaT false l fin = true) (hne : l ≠ []) : whiteB (l.getD 0 0) = true ∨ (l.getD 0 0).toNat = 35 := by
  cases l with
  | nil => exact absurd rfl hne
  | cons x r =>
    unfold triviaT at h
    show whiteB x = true ∨ x.toNat = 35
    by_cases ha : allowedB x = false
    · rw [if_pos ha] at h; simp at h
    rw [if_neg ha, if_neg (by simp)] at h
    by_cases h35 : x.toNat = 35
    · exact .inr h35
    · rw [if_neg h35] at h
      by_cases hw : whiteB x = false
      · rw [if_pos hw] at h; simp at h
      · exact .inl (by simpa using hw)
theorem white_grows {a : List UInt8} {c : UInt8} (h : whiteB c = true ∨ c.toNat = 35) : growsB a c = false ∧ c.toNat ≠ 46 := by
  have hv : c.toNat = 9 ∨ c.toNat = 10 ∨ c.toNat = 13 ∨ c.toNat = 32 ∨ c.toNat = 35 := by
    rcases h with h | h
    · simp [whiteB] at h; omega
    · omega
  have h1 : wordB c = false := by rcases hv with h | h | h | h | h <;> simp [wordB, letterB, lowerB, upperB, digitB, h]
  have h2 : digitB c = false := by rcases hv with h | h | h | h | h <;> simp [digitB, h]
  have h3 : (c.toNat == 61) = false := by simp; omega
  exact ⟨by simp [growsB, h1, h2, h3], by omega⟩

theorem scan_first {l : List UInt8} (h4 : ¬ 4096 < l.length) (h0 : 0 < l.length) (hw : whiteB (l.getD 0 0) = false) (h35 : (l.getD 0 0).toNat ≠ 35) {k m e : Nat} (ht : tokenT l = (k, m, e)) :
    (e ≠ 0 ∧ (scan l).err ≠ 0) ∨ (e = 0 ∧ ((scan l).err = 0 → ∃ ts, (scan l).toks = ⟨k, [], l.take m⟩ :: ts)) := by
  have hld : leadT false l 0 = (0, none) := lead_stop h0 hw h35
  unfold scan
  rw [if_neg h4]
  by_cases he : e = 0
  · refine .inr ⟨he, fun herr => ?_⟩
    subst he
    have ht' : tokenT (l.drop 0) = (k, m, 0) := by simpa using ht
    rw [scanT_tok hld (by omega) ht'] at herr ⊢
    have hlen := tokenT_len h0
    rw [ht] at hlen
    simp only at hlen
    have hm0 := hlen.2 trivial
    obtain ⟨ts, h1, _⟩ := scanT_keeps l.length (l.drop (0 + m)) (0 + 0 + m) _ (by simp; omega) herr
    exact ⟨ts, by rw [h1]; simp⟩
  · refine .inl ⟨he, ?_⟩
    have ht' : tokenT (l.drop 0) = (k, m, e) := by simpa using ht
    rw [scanT_err hld (by omega) ht' he]
    exact he

/-- Two tokens that don't fuse: the first byte of the second one doesn't change the first. -/
theorem fuses_grows {a b : List UInt8} {ka kb : Nat} (ha : classT a = ka) (hka : ka ≠ 0) (hb : classT b = kb) (hkb : kb ≠ 0) (h : fusesT a b = false) : growsB a (b.getD 0 0) = false ∧ (b.getD 0 0).toNat ≠ 46 := by
  obtain ⟨ha0, hta⟩ := class_token ha hka
  obtain ⟨hb0, htb⟩ := class_token hb hkb
  refine ⟨?_, (token_head hb0 htb).2.2⟩
  have hhead := token_head ha0 hta
  have hg : (a ++ b).getD 0 0 = a.getD 0 0 := getD_app _ _ _ ha0
  unfold fusesT at h
  rw [if_neg (by rw [ha, hb]; omega)] at h
  simp only at h
  by_cases hcond : (scan (a ++ b)).err = 0 ∧ (scan (a ++ b)).toks.length = 2 ∧ (scan (a ++ b)).tail = []
  · rw [if_pos hcond] at h
    simp only [Bool.not_eq_false', Bool.and_eq_true, beq_iff_eq] at h
    obtain ⟨⟨⟨g1, g2⟩, g3⟩, g4⟩ := h
    have h4 : ¬ 4096 < (a ++ b).length := fun hh => by
      have := hcond.1
      unfold scan at this
      rw [if_pos hh] at this
      simp at this
    obtain ⟨k, m, e, ht⟩ : ∃ k m e, tokenT (a ++ b) = (k, m, e) := ⟨_, _, _, rfl⟩
    have hlen := tokenT_len (l := a ++ b) (by simp; omega)
    rw [ht] at hlen
    simp only at hlen
    rcases scan_first h4 (by simp; omega) (by rw [hg]; exact hhead.1) (by rw [hg]; exact hhead.2.1) ht with ⟨_, h2⟩ | ⟨rfl, h2⟩
    · exact absurd hcond.1 h2
    · obtain ⟨ts, h3⟩ := h2 hcond.1
      rw [h3] at g2
      simp only [List.getD_cons_zero] at g2
      have hm : m = a.length := by
        have := congrArg List.length g2
        rw [List.length_take] at this
        omega
      subst hm
      -- the token at the head of a ++ b is a
      cases hgr : growsB a (b.getD 0 0) with
      | false => rfl
      | true =>
        exfalso
        obtain ⟨c, b', rfl⟩ : ∃ c b', b = c :: b' := by
          cases b with
          | nil => simp at hb0
          | cons c b' => exact ⟨c, b', rfl⟩
        simp only [List.getD_cons_zero] at hgr
        unfold growsB at hgr
        simp only [Bool.or_eq_true, Bool.and_eq_true, beq_iff_eq] at hgr
        unfold tokenT at ht hta
        simp only at ht hta
        rw [hg] at ht
        by_cases hal : allowedB (a.getD 0 0) = false
        · rw [if_pos hal] at hta; simp at hta
        rw [if_neg hal] at ht hta
        by_cases hl : letterB (a.getD 0 0) = true
        · rw [if_pos hl] at ht hta
          have hd : digitB (a.getD 0 0) = false := by
            cases hx : digitB (a.getD 0 0) with
            | false => rfl
            | true => simp [letterB, lowerB, upperB, digitB] at hl hx; omega
          have h61 : a ≠ [61] := fun e => by rw [e] at hl; exact absurd hl (by decide)
          rcases hgr with (⟨_, hw⟩ | ⟨hd', _⟩) | ⟨e, _⟩
          · have l1 := wordT_len_eq ht
            have l2 := wordT_len_eq hta
            have hle := spanN_le wordB a
            by_cases hcond : wordCond a = true
            · rw [if_pos hcond] at l2
              obtain ⟨c1, c2, c3, c4, c5⟩ := wordCond_parts hcond
              generalize hn : spanN wordB a = n at *
              generalize hm' : spanN wordB (a.drop (n + 1)) = m' at *
              have e1 : spanN wordB (a ++ c :: b') = n := by rw [spanN_app_lt _ _ _ (by omega), hn]
              have e2 : (a ++ c :: b').take n = a.take n := List.take_append_of_le_length (by omega)
              have hc' : wordCond (a ++ c :: b') = true := wordCond_mk e1 (by rw [getD_app _ _ _ ha0]; exact c1) (by rw [e2]; exact c2) (by simp; omega) (by rw [getD_app _ _ _ (by omega)]; exact c4) (by rw [getD_app _ _ _ (by omega)]; exact c5)
              rw [if_pos hc', e1, List.drop_append_of_le_length (by omega), spanN_app_all _ _ _ (by rw [hm', List.length_drop]; omega), List.length_drop] at l1
              have := spanN_head_pos (r := b') hw
              omega
            · rw [if_neg hcond] at l2
              have e1 := spanN_app_all wordB a (c :: b') l2.symm
              have := spanN_head_pos (r := b') hw
              split at l1 <;> omega
          · rw [hd] at hd'; simp at hd'
          · exact h61 e
        · rw [if_neg hl] at ht hta
          by_cases hd : digitB (a.getD 0 0) = true
          · rw [if_pos hd] at ht hta
            have h61 : a ≠ [61] := fun e => by rw [e] at hd; exact absurd hd (by decide)
            have hn : ∀ l n, numberT l = (n, 0) → spanN digitB l = n := fun l n h2 => by
              unfold numberT at h2
              simp only at h2
              split at h2
              · simp at h2
              · split at h2
                · simp at h2
                · simp at h2; exact h2
            rcases hgr with (⟨hl', _⟩ | ⟨_, hw⟩) | ⟨e, _⟩
            · exact hl hl'
            · simp only [Prod.mk.injEq] at ht hta
              have l1 := hn _ _ ht.2
              have l2 := hn _ _ hta.2
              have e1 := spanN_app_all digitB a (c :: b') l2
              have := spanN_head_pos (r := b') hw
              omega
            · exact h61 e
          · rcases hgr with (⟨hl', _⟩ | ⟨hd', _⟩) | ⟨e, hc61⟩
            · exact hl hl'
            · exact hd hd'
            · subst e
              rw [if_neg hd, if_neg (by decide), if_pos ⟨by decide, by simp, by simpa using hc61⟩] at ht
              simp at ht
  · rw [if_neg hcond] at h; simp at h

/-- No two neighbours without a lead between them fuse. -/
def Apart : List Tok → Prop
  | [] => True
  | [_] => True
  | a :: b :: r => (b.lead = [] → fusesT a.text b.text = false) ∧ Apart (b :: r)

theorem scanT_again : ∀ (ts : List Tok) (tail : List UInt8) (f pos : Nat) (acc : List Tok), (∀ t ∈ ts, GoodTok t) → Apart ts → triviaT false tail true = true → (joinT ts tail).length < f →
    scanT f (joinT ts tail) pos acc = ⟨acc ++ ts, tail, 0, 0⟩
  | ts, tail, 0, pos, acc, _, _, _, hf => by omega
  | [], tail, f + 1, pos, acc, hg, hap, ht, hf => by
    rw [triviaT_eq] at ht
    simp only [wholeB, Bool.and_eq_true, Option.isNone_iff_eq_none, beq_iff_eq] at ht
    have : leadT false tail 0 = (tail.length, none) := by rw [← ht.1.1, ← ht.1.2]
    simp only [joinT, List.append_nil]
    rw [scanT_end this rfl]
  | t :: ts, tail, f + 1, pos, acc, hg, hap, ht, hf => by
    obtain ⟨g1, g2, g3⟩ := hg t (List.mem_cons_self ..)
    obtain ⟨h0, htk⟩ := class_token (a := t.text) (k := classT t.text) rfl (by omega)
    have hhead := token_head h0 htk
    have hJ : joinT (t :: ts) tail = t.lead ++ (t.text ++ joinT ts tail) := by simp [joinT]
    have hg0 : (t.text ++ joinT ts tail).getD 0 0 = t.text.getD 0 0 := getD_app _ _ _ h0
    have hld : leadT false (t.lead ++ (t.text ++ joinT ts tail)) 0 = (t.lead.length, none) := by
      rw [lead_app _ _ _ _ g3, lead_stop (by simp; omega) (by rw [hg0]; exact hhead.1) (by rw [hg0]; exact hhead.2.1), Nat.zero_add]
    have hnext : growsB t.text ((joinT ts tail).getD 0 0) = false ∧ ((joinT ts tail).getD 0 0).toNat ≠ 46 ∨ joinT ts tail = [] := by
      cases ts with
      | nil =>
        by_cases he : tail = []
        · exact .inr he
        · exact .inl (white_grows (trivia_head ht he))
      | cons t2 ts =>
        left
        obtain ⟨k1, k2, k3⟩ := hg t2 (List.mem_cons_of_mem _ (List.mem_cons_self ..))
        obtain ⟨h02, htk2⟩ := class_token (a := t2.text) (k := classT t2.text) rfl (by omega)
        by_cases he : t2.lead = []
        · have : (joinT (t2 :: ts) tail).getD 0 0 = t2.text.getD 0 0 := by
            simp only [joinT, he, List.nil_append]; exact getD_app _ _ _ h02
          rw [this]
          exact fuses_grows rfl (by omega) rfl (by omega) (hap.1 he)
        · have hpos : 0 < t2.lead.length := List.length_pos_iff.2 he
          have : (joinT (t2 :: ts) tail).getD 0 0 = t2.lead.getD 0 0 := by
            simp only [joinT, List.append_assoc]; exact getD_app _ _ _ hpos
          rw [this]
          exact white_grows (trivia_head k3 he)
    have htok : tokenT ((t.lead ++ (t.text ++ joinT ts tail)).drop t.lead.length) = (classT t.text, t.text.length, 0) := by
      rw [List.drop_left]; exact tokenT_app h0 htk hnext
    have hap2 : Apart ts := by
      cases ts with
      | nil => trivial
      | cons t2 ts => exact hap.2
    rw [hJ] at hf ⊢
    simp only [List.length_append] at hf
    rw [scanT_tok hld (by simp only [List.length_append]; omega) htok]
    have e1 : (t.lead ++ (t.text ++ joinT ts tail)).drop (t.lead.length + t.text.length) = joinT ts tail := by
      rw [← List.drop_drop, List.drop_left, List.drop_left]
    have e2 : (t.lead ++ (t.text ++ joinT ts tail)).take t.lead.length = t.lead := List.take_left
    have e3 : ((t.lead ++ (t.text ++ joinT ts tail)).drop t.lead.length).take t.text.length = t.text := by rw [List.drop_left, List.take_left]
    rw [e1, e2, e3, scanT_again ts tail f _ _ (fun x hx => hg x (List.mem_cons_of_mem _ hx)) hap2 ht (by omega)]
    congr 1
    rw [List.append_assoc]
    congr 1
    rw [List.singleton_append]
    congr 1
    cases t
    simp only at g1
    rw [g1]

theorem scan_again {ts : List Tok} {tail : List UInt8} (hg : ∀ t ∈ ts, GoodTok t) (hap : Apart ts) (ht : triviaT false tail true = true) (hl : (joinT ts tail).length ≤ 4096) : scan (joinT ts tail) = ⟨ts, tail, 0, 0⟩ := by
  unfold scan
  rw [if_neg (by omega), scanT_again ts tail _ 0 [] hg hap ht (Nat.lt_succ_self _)]
  rfl

end Go.Proofs.Ytoknigfjgoaoaaa
