/- Contracts of the reference's words. -/
import Derived.Test.YtoknigfjgoaoaaaLexE
namespace Go.Proofs.Ytoknigfjgoaoaaa
open Go.RowKit Lx
set_option linter.unusedSimpArgs false
set_option linter.unusedVariables false

/-- An Item: length, kind, error, place. -/
def itemV (at0 : Nat) (t : Nat × Nat × Nat) : Value :=
  if t.2.2 = 0 then .agg #[.int .i64 (t.2.1 : Nat), .int .i64 (t.1 : Nat), .int .i64 0, .int .i64 0] else .agg #[.int .i64 0, .int .i64 0, .int .i64 (t.2.2 : Nat), .int .i64 ((at0 + t.2.1 : Nat) : Int)]
def ItemPost (at0 : Nat) (t : Nat × Nat × Nat) (w : World) (e : Ending) (w' : World) : Prop := e = .returned (itemV at0 t) ∧ Ext w w'
theorem item_ok {at0 n k : Nat} {t : Nat × Nat × Nat} {w w' : World} {x y : Int} (h : t = (k, n, 0)) (hx : x = n) (hy : y = k) (he : Ext w w') : ItemPost at0 t w (.returned (.agg #[.int .i64 x, .int .i64 y, .int .i64 0, .int .i64 0])) w' := by
  subst h; subst hx; subst hy; exact ⟨rfl, he⟩
theorem item_err {at0 n k e : Nat} {t : Nat × Nat × Nat} {w w' : World} {x y : Int} (h : t = (k, n, e)) (h0 : ¬ e = 0) (hx : x = e) (hy : y = ((at0 + n : Nat) : Int)) (he : Ext w w') : ItemPost at0 t w (.returned (.agg #[.int .i64 0, .int .i64 0, .int .i64 x, .int .i64 y])) w' := by
  subst h; subst hx; subst hy; exact ⟨by simp only [itemV, if_neg h0], he⟩

set_option maxHeartbeats 4000000 in
theorem wordsR (l : List UInt8) (x : Int) (k : Nat) (hxk : x = k) (w : World) (hlt : k < l.length) (hle : letterB (l[k]'hlt) = true) (hl : l.length ≤ 281474976710656) : Calls Try.prog 45 #[.string ⟨l.toArray⟩, .int .i64 x] w (ItemPost k (wordT (l.drop k)) w) := by
  subst hxk
  obtain ⟨T, hT⟩ : ∃ T, wordT (l.drop k) = T := ⟨_, rfl⟩
  rw [hT]
  have h0 : 0 < (l.drop k).length := by simp; omega
  obtain ⟨c0, hc0⟩ : ∃ c, ({ data := l.toArray } : ByteArray)[k]'hlt = c := ⟨_, rfl⟩
  have HCk := Lib.hid (show l[k] = c0 from hc0)
  have HC0 := Lib.hid (show (l.drop k)[0] = c0 from by rw [List.getElem_drop]; exact hc0)
  have HL0 := Lib.hid (show letterB c0 = true from hc0 ▸ hle)
  obtain ⟨n, hn⟩ : ∃ n, spanN wordB (l.drop k) = n := ⟨_, rfl⟩
  have hnl : k + n ≤ l.length := by have := spanN_le wordB (l.drop k); simp at this; omega
  have HN := Lib.hid hn
  have HW0 := Lib.hid (show wordLen (l.drop k) = n from by rw [wordLen, getD_of_lt h0 HC0.out, if_pos HL0.out]; exact hn)
  clear hn hle
  obtain ⟨E, hE⟩ : ∃ E, k + n = E := ⟨_, rfl⟩
  have hE1 : (k : Int) + n = (E : Nat) := by omega
  have hE2 : E - k = n := by omega
  have hE3 : E ≤ l.length := by omega
  have hkE : k ≤ E := by omega
  have HE := Lib.hid hE
  clear hE
  have hx := ext_list; have hx2 := take_drop_all
  go_enter Try.func45, Try.ntmps45
  go_wp2_with fail
  refine (wordR _ _ k rfl _ (by omega) hl).mono ?_
  rintro e w' ⟨rfl, rfl⟩
  rw [HW0.out]
  cases hr : resvB ((l.drop k).take n)
  rotate_left
  · cases hu : upperB c0
    all_goals
      have HQ := Lib.hid (wordT_no HN.out (cond_r HN.out hr))
      by_cases h24 : 24 < n
      · skip
        have HW := Lib.hid (show T = (0, 0, 3) from by rw [← hT, HQ.out, wordNoT, if_pos h24])
        go_wp2_with (first | (go_at_call 44; refine (upperR _ _).mono ?_; rintro e w' ⟨rfl, rfl⟩) | (go_at_call 54; refine (reservedR _ _).mono ?_; rintro e w' ⟨rfl, rfl⟩) | (go_at_call 53; refine (wordR _ _ (E + 1) (by omega) _ (by omega) hl).mono ?_; rintro e w' ⟨rfl, rfl⟩))
        exact bodyPost_ret (v := .agg #[.int .i64 0, .int .i64 0, .int .i64 3, .int .i64 k]) (by simp [results, Try.results45, go_sem]) rfl (item_err HW.out (by omega) (by omega) (by omega) (by repeat (first | exact Ext.refl _ | apply Ext.alloc | (refine Ext.setCell ?_ (Nat.le_refl _) _))))
      · skip
        have HW := Lib.hid (show T = (7, n, 0) from by rw [← hT, HQ.out, wordNoT, if_neg h24, if_pos hr])
        go_wp2_with (first | (go_at_call 44; refine (upperR _ _).mono ?_; rintro e w' ⟨rfl, rfl⟩) | (go_at_call 54; refine (reservedR _ _).mono ?_; rintro e w' ⟨rfl, rfl⟩) | (go_at_call 53; refine (wordR _ _ (E + 1) (by omega) _ (by omega) hl).mono ?_; rintro e w' ⟨rfl, rfl⟩))
        exact bodyPost_ret (v := .agg #[.int .i64 n, .int .i64 7, .int .i64 0, .int .i64 0]) (by simp [results, Try.results45, go_sem]) rfl (item_ok HW.out (by omega) (by omega) (by repeat (first | exact Ext.refl _ | apply Ext.alloc | (refine Ext.setCell ?_ (Nat.le_refl _) _))))
  cases hu : upperB c0
  · skip
    have HQ := Lib.hid (wordT_no HN.out (cond_u h0 HC0.out hu))
    by_cases h24 : 24 < n
    · skip
      have HW := Lib.hid (show T = (0, 0, 3) from by rw [← hT, HQ.out, wordNoT, if_pos h24])
      go_wp2_with (first | (go_at_call 44; refine (upperR _ _).mono ?_; rintro e w' ⟨rfl, rfl⟩) | (go_at_call 54; refine (reservedR _ _).mono ?_; rintro e w' ⟨rfl, rfl⟩) | (go_at_call 53; refine (wordR _ _ (E + 1) (by omega) _ (by omega) hl).mono ?_; rintro e w' ⟨rfl, rfl⟩))
      exact bodyPost_ret (v := .agg #[.int .i64 0, .int .i64 0, .int .i64 3, .int .i64 k]) (by simp [results, Try.results45, go_sem]) rfl (item_err HW.out (by omega) (by omega) (by omega) (by repeat (first | exact Ext.refl _ | apply Ext.alloc | (refine Ext.setCell ?_ (Nat.le_refl _) _))))
    · skip
      have HW := Lib.hid (show T = (1, n, 0) from by rw [← hT, HQ.out, wordNoT, if_neg h24, if_neg (by simp [hr]), if_pos (by rw [getD_of_lt h0 HC0.out]; exact lower_of HL0.out hu)])
      go_wp2_with (first | (go_at_call 44; refine (upperR _ _).mono ?_; rintro e w' ⟨rfl, rfl⟩) | (go_at_call 54; refine (reservedR _ _).mono ?_; rintro e w' ⟨rfl, rfl⟩) | (go_at_call 53; refine (wordR _ _ (E + 1) (by omega) _ (by omega) hl).mono ?_; rintro e w' ⟨rfl, rfl⟩))
      exact bodyPost_ret (v := .agg #[.int .i64 n, .int .i64 1, .int .i64 0, .int .i64 0]) (by simp [results, Try.results45, go_sem]) rfl (item_ok HW.out (by omega) (by omega) (by repeat (first | exact Ext.refl _ | apply Ext.alloc | (refine Ext.setCell ?_ (Nat.le_refl _) _))))
  by_cases h2 : E + 1 < l.length
  rotate_left
  · have h2' : ¬ ((E : Int) + 1 < l.length) := by omega
    have HQ := Lib.hid (wordT_no HN.out (cond_l HN.out (by have := HE.out; simp; omega)))
    by_cases h24 : 24 < n
    · skip
      have HW := Lib.hid (show T = (0, 0, 3) from by rw [← hT, HQ.out, wordNoT, if_pos h24])
      go_wp2_with (first | (go_at_call 44; refine (upperR _ _).mono ?_; rintro e w' ⟨rfl, rfl⟩) | (go_at_call 54; refine (reservedR _ _).mono ?_; rintro e w' ⟨rfl, rfl⟩) | (go_at_call 53; refine (wordR _ _ (E + 1) (by omega) _ (by omega) hl).mono ?_; rintro e w' ⟨rfl, rfl⟩))
      exact bodyPost_ret (v := .agg #[.int .i64 0, .int .i64 0, .int .i64 3, .int .i64 k]) (by simp [results, Try.results45, go_sem]) rfl (item_err HW.out (by omega) (by omega) (by omega) (by repeat (first | exact Ext.refl _ | apply Ext.alloc | (refine Ext.setCell ?_ (Nat.le_refl _) _))))
    · skip
      have HW := Lib.hid (show T = (2, n, 0) from by rw [← hT, HQ.out, wordNoT, if_neg h24, if_neg (by simp [hr]), if_neg (by rw [getD_of_lt h0 HC0.out]; simp [not_lower hu])])
      go_wp2_with (first | (go_at_call 44; refine (upperR _ _).mono ?_; rintro e w' ⟨rfl, rfl⟩) | (go_at_call 54; refine (reservedR _ _).mono ?_; rintro e w' ⟨rfl, rfl⟩) | (go_at_call 53; refine (wordR _ _ (E + 1) (by omega) _ (by omega) hl).mono ?_; rintro e w' ⟨rfl, rfl⟩))
      exact bodyPost_ret (v := .agg #[.int .i64 n, .int .i64 2, .int .i64 0, .int .i64 0]) (by simp [results, Try.results45, go_sem]) rfl (item_ok HW.out (by omega) (by omega) (by repeat (first | exact Ext.refl _ | apply Ext.alloc | (refine Ext.setCell ?_ (Nat.le_refl _) _))))
  have hn1 : E < l.length := by omega
  obtain ⟨c1, hc1⟩ : ∃ c, ({ data := l.toArray } : ByteArray)[E]'hn1 = c := ⟨_, rfl⟩
  have HC1a := Lib.hid (show l[E] = c1 from hc1)
  obtain ⟨c2, hc2⟩ : ∃ c, ({ data := l.toArray } : ByteArray)[E + 1]'h2 = c := ⟨_, rfl⟩
  have HC2a := Lib.hid (show l[E + 1] = c2 from hc2)
  have hnl1 : n < (l.drop k).length := by have := HE.out; simp; omega
  have hnl2 : n + 1 < (l.drop k).length := by have := HE.out; simp; omega
  have HC1 := Lib.hid (show (l.drop k)[n] = c1 from by rw [List.getElem_drop]; simp only [HE.out]; exact hc1)
  have HC2 := Lib.hid (show (l.drop k)[n + 1] = c2 from by rw [List.getElem_drop]; simp only [← Nat.add_assoc, HE.out]; exact hc2)
  have HGE := Lib.hid (show (l.drop (E + 1)).getD 0 0 = c2 from by rw [getD_drop]; exact getD_of_lt h2 HC2a.out)
  cases h46 : ((c1.toNat : Int) == 46)
  · skip
    have HQ := Lib.hid (wordT_no HN.out (cond_d HN.out hnl1 HC1.out h46))
    by_cases h24 : 24 < n
    · skip
      have HW := Lib.hid (show T = (0, 0, 3) from by rw [← hT, HQ.out, wordNoT, if_pos h24])
      go_wp2_with (first | (go_at_call 44; refine (upperR _ _).mono ?_; rintro e w' ⟨rfl, rfl⟩) | (go_at_call 54; refine (reservedR _ _).mono ?_; rintro e w' ⟨rfl, rfl⟩) | (go_at_call 53; refine (wordR _ _ (E + 1) (by omega) _ (by omega) hl).mono ?_; rintro e w' ⟨rfl, rfl⟩))
      exact bodyPost_ret (v := .agg #[.int .i64 0, .int .i64 0, .int .i64 3, .int .i64 k]) (by simp [results, Try.results45, go_sem]) rfl (item_err HW.out (by omega) (by omega) (by omega) (by repeat (first | exact Ext.refl _ | apply Ext.alloc | (refine Ext.setCell ?_ (Nat.le_refl _) _))))
    · skip
      have HW := Lib.hid (show T = (2, n, 0) from by rw [← hT, HQ.out, wordNoT, if_neg h24, if_neg (by simp [hr]), if_neg (by rw [getD_of_lt h0 HC0.out]; simp [not_lower hu])])
      go_wp2_with (first | (go_at_call 44; refine (upperR _ _).mono ?_; rintro e w' ⟨rfl, rfl⟩) | (go_at_call 54; refine (reservedR _ _).mono ?_; rintro e w' ⟨rfl, rfl⟩) | (go_at_call 53; refine (wordR _ _ (E + 1) (by omega) _ (by omega) hl).mono ?_; rintro e w' ⟨rfl, rfl⟩))
      exact bodyPost_ret (v := .agg #[.int .i64 n, .int .i64 2, .int .i64 0, .int .i64 0]) (by simp [results, Try.results45, go_sem]) rfl (item_ok HW.out (by omega) (by omega) (by repeat (first | exact Ext.refl _ | apply Ext.alloc | (refine Ext.setCell ?_ (Nat.le_refl _) _))))
  cases h3 : letterB c2
  · have hm : wordLen (l.drop (E + 1)) = 0 := by rw [wordLen, HGE.out]; simp [h3]
    have HQ := Lib.hid (wordT_no HN.out (cond_t HN.out hnl2 HC2.out h3))
    by_cases h24 : 24 < n
    · skip
      have HW := Lib.hid (show T = (0, 0, 3) from by rw [← hT, HQ.out, wordNoT, if_pos h24])
      go_wp2_with (first | (go_at_call 44; refine (upperR _ _).mono ?_; rintro e w' ⟨rfl, rfl⟩) | (go_at_call 54; refine (reservedR _ _).mono ?_; rintro e w' ⟨rfl, rfl⟩) | (go_at_call 53; refine (wordR _ _ (E + 1) (by omega) _ (by omega) hl).mono ?_; rintro e w' ⟨rfl, rfl⟩))
      exact bodyPost_ret (v := .agg #[.int .i64 0, .int .i64 0, .int .i64 3, .int .i64 k]) (by simp [results, Try.results45, go_sem]) rfl (item_err HW.out (by omega) (by omega) (by omega) (by repeat (first | exact Ext.refl _ | apply Ext.alloc | (refine Ext.setCell ?_ (Nat.le_refl _) _))))
    · skip
      have HW := Lib.hid (show T = (2, n, 0) from by rw [← hT, HQ.out, wordNoT, if_neg h24, if_neg (by simp [hr]), if_neg (by rw [getD_of_lt h0 HC0.out]; simp [not_lower hu])])
      go_wp2_with (first | (go_at_call 44; refine (upperR _ _).mono ?_; rintro e w' ⟨rfl, rfl⟩) | (go_at_call 54; refine (reservedR _ _).mono ?_; rintro e w' ⟨rfl, rfl⟩) | (go_at_call 53; refine (wordR _ _ (E + 1) (by omega) _ (by omega) hl).mono ?_; rintro e w' ⟨rfl, rfl⟩))
      exact bodyPost_ret (v := .agg #[.int .i64 n, .int .i64 2, .int .i64 0, .int .i64 0]) (by simp [results, Try.results45, go_sem]) rfl (item_ok HW.out (by omega) (by omega) (by repeat (first | exact Ext.refl _ | apply Ext.alloc | (refine Ext.setCell ?_ (Nat.le_refl _) _))))
  obtain ⟨m, hm⟩ : ∃ m, wordLen (l.drop (E + 1)) = m := ⟨_, rfl⟩
  have HM := Lib.hid (show spanN wordB (l.drop (E + 1)) = m from by rw [← hm, wordLen, HGE.out, if_pos h3])
  have hm0 : 0 < m := by have h := spanN_pos (p := wordB) (l := l.drop (E + 1)) (by simp; omega) (by rw [HGE.out]; simp [wordB, h3]); rw [HM.out] at h; exact h
  have hml : E + 1 + m ≤ l.length := by have h := spanN_le wordB (l.drop (E + 1)); rw [HM.out] at h; simp at h; omega
  have he : E + 1 + m - (E + 1) = m := by omega
  have hsl : 0 < ((l.drop (E + 1)).take m).length := by simp; omega
  have hs0 : ({ data := ((l.drop (E + 1)).take m).toArray } : ByteArray)[0]'hsl = c2 := by
    show ((l.drop (E + 1)).take m)[0] = c2
    rw [List.getElem_take, List.getElem_drop]; exact hc2
  have HQ := Lib.hid (wordT_yes (m := m) HN.out (by have h := HM.out; rw [← HE.out] at h; rw [List.drop_drop]; exact h) (cond_yes HN.out h0 HC0.out hu hr hnl2 hnl1 HC1.out h46 HC2.out h3))
  have HDD := Lib.hid (show ((l.drop k).drop (n + 1)).take m = (l.drop (E + 1)).take m from by rw [List.drop_drop, ← HE.out, Nat.add_assoc])
  cases hu2 : upperB c2
  all_goals
    by_cases h24 : 24 < n
    · skip
      have HW := Lib.hid (show T = (0, 0, 3) from by rw [← hT, HQ.out, wordYesT, if_pos (.inl h24)])
      go_wp2_with (first | (go_at_call 44; refine (upperR _ _).mono ?_; rintro e w' ⟨rfl, rfl⟩) | (go_at_call 54; refine (reservedR _ _).mono ?_; rintro e w' ⟨rfl, rfl⟩) | (go_at_call 53; refine (wordR _ _ (E + 1) (by omega) _ (by omega) hl).mono ?_; rintro e w' ⟨rfl, rfl⟩))
      exact bodyPost_ret (v := .agg #[.int .i64 0, .int .i64 0, .int .i64 3, .int .i64 k]) (by simp [results, Try.results45, go_sem]) rfl (item_err HW.out (by omega) (by omega) (by omega) (by repeat (first | exact Ext.refl _ | apply Ext.alloc | (refine Ext.setCell ?_ (Nat.le_refl _) _))))
    by_cases h24m : 24 < m
    · skip
      have HW := Lib.hid (show T = (0, 0, 3) from by rw [← hT, HQ.out, wordYesT, if_pos (.inr h24m)])
      go_wp2_with (first | (go_at_call 44; refine (upperR _ _).mono ?_; rintro e w' ⟨rfl, rfl⟩) | (go_at_call 54; refine (reservedR _ _).mono ?_; rintro e w' ⟨rfl, rfl⟩) | (go_at_call 53; refine (wordR _ _ (E + 1) (by omega) _ (by omega) hl).mono ?_; rintro e w' ⟨rfl, rfl⟩))
      exact bodyPost_ret (v := .agg #[.int .i64 0, .int .i64 0, .int .i64 3, .int .i64 k]) (by simp [results, Try.results45, go_sem]) rfl (item_err HW.out (by omega) (by omega) (by omega) (by repeat (first | exact Ext.refl _ | apply Ext.alloc | (refine Ext.setCell ?_ (Nat.le_refl _) _))))
    cases hr2 : resvB ((l.drop (E + 1)).take m)
    rotate_left
    · skip
      have HW := Lib.hid (show T = (0, 0, 2) from by rw [← hT, HQ.out, wordYesT, if_neg (by omega), if_pos (by rw [HDD.out]; exact hr2)])
      go_wp2_with (first | (go_at_call 44; refine (upperR _ _).mono ?_; rintro e w' ⟨rfl, rfl⟩) | (go_at_call 54; refine (reservedR _ _).mono ?_; rintro e w' ⟨rfl, rfl⟩) | (go_at_call 53; refine (wordR _ _ (E + 1) (by omega) _ (by omega) hl).mono ?_; rintro e w' ⟨rfl, rfl⟩))
      exact bodyPost_ret (v := .agg #[.int .i64 0, .int .i64 0, .int .i64 2, .int .i64 k]) (by simp [results, Try.results45, go_sem]) rfl (item_err HW.out (by omega) (by omega) (by omega) (by repeat (first | exact Ext.refl _ | apply Ext.alloc | (refine Ext.setCell ?_ (Nat.le_refl _) _))))
    first
    | have HW := Lib.hid (show T = (3, n + 1 + m, 0) from by rw [← hT, HQ.out, wordYesT, if_neg (by omega), if_neg (by rw [HDD.out]; simp [hr2]), if_pos (by rw [getD_of_lt hnl2 HC2.out]; exact lower_of h3 hu2)])
      go_wp2_with (first | (go_at_call 44; refine (upperR _ _).mono ?_; rintro e w' ⟨rfl, rfl⟩) | (go_at_call 54; refine (reservedR _ _).mono ?_; rintro e w' ⟨rfl, rfl⟩) | (go_at_call 53; refine (wordR _ _ (E + 1) (by omega) _ (by omega) hl).mono ?_; rintro e w' ⟨rfl, rfl⟩))
      exact bodyPost_ret (v := .agg #[.int .i64 (n + 1 + m), .int .i64 3, .int .i64 0, .int .i64 0]) (by simp [results, Try.results45, go_sem]) rfl (item_ok HW.out (by omega) (by omega) (by repeat (first | exact Ext.refl _ | apply Ext.alloc | (refine Ext.setCell ?_ (Nat.le_refl _) _))))
    | have HW := Lib.hid (show T = (4, n + 1 + m, 0) from by rw [← hT, HQ.out, wordYesT, if_neg (by omega), if_neg (by rw [HDD.out]; simp [hr2]), if_neg (by rw [getD_of_lt hnl2 HC2.out]; simp [not_lower hu2])])
      go_wp2_with (first | (go_at_call 44; refine (upperR _ _).mono ?_; rintro e w' ⟨rfl, rfl⟩) | (go_at_call 54; refine (reservedR _ _).mono ?_; rintro e w' ⟨rfl, rfl⟩) | (go_at_call 53; refine (wordR _ _ (E + 1) (by omega) _ (by omega) hl).mono ?_; rintro e w' ⟨rfl, rfl⟩))
      exact bodyPost_ret (v := .agg #[.int .i64 (n + 1 + m), .int .i64 4, .int .i64 0, .int .i64 0]) (by simp [results, Try.results45, go_sem]) rfl (item_ok HW.out (by omega) (by omega) (by repeat (first | exact Ext.refl _ | apply Ext.alloc | (refine Ext.setCell ?_ (Nat.le_refl _) _))))
end Go.Proofs.Ytoknigfjgoaoaaa
