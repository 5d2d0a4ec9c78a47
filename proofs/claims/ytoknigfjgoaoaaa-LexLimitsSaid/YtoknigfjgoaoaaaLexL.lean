/- Contracts of Fuses of the program and of the reference. -/
import Derived.Test.YtoknigfjgoaoaaaLexK
namespace Go.Proofs.Ytoknigfjgoaoaaa
open Go.RowKit Lx
set_option linter.unusedSimpArgs false
set_option linter.unusedVariables false

theorem app_list (a b : List UInt8) : (ByteArray.mk a.toArray) ++ (ByteArray.mk b.toArray) = ⟨(a ++ b).toArray⟩ := by
  apply ByteArray.ext; simp
theorem fusesT_no {a b : List UInt8} (h : classT a = 0 ∨ classT b = 0) : fusesT a b = false := by simp [fusesT, h]
theorem fusesT_other {a b : List UInt8} (h : ¬ (classT a = 0 ∨ classT b = 0)) (h2 : ¬ ((scan (a ++ b)).err = 0 ∧ (scan (a ++ b)).toks.length = 2 ∧ (scan (a ++ b)).tail = [])) : fusesT a b = true := by
  unfold fusesT; rw [if_neg h]; simp only; rw [if_neg h2]
theorem fusesT_two {a b : List UInt8} {t0 t1 : Tok} (h : ¬ (classT a = 0 ∨ classT b = 0)) (h1 : (scan (a ++ b)).err = 0) (h2 : (scan (a ++ b)).toks = [t0, t1]) (h3 : (scan (a ++ b)).tail = []) :
    fusesT a b = !(t0.lead == [] && t0.text == a && t1.lead == [] && t1.text == b) := by
  unfold fusesT; rw [if_neg h]; simp only; rw [h1, h2, h3]; simp
theorem isEmpty_of {l : List UInt8} {b : Bool} (h : (l == []) = b) : l.isEmpty = b := by rw [← h]; cases l <;> rfl
theorem list_two {l : List Tok} (h : l.length = 2) : ∃ t0 t1, l = [t0, t1] := by
  match l, h with
  | [a, b], _ => exact ⟨a, b, rfl⟩

set_option maxHeartbeats 2000000 in
theorem fusesL (a b : List UInt8) (w : World) (ha : a.length ≤ 140737488355328) (hb : b.length ≤ 140737488355328) : Calls Try.prog 17 #[.string ⟨a.toArray⟩, .string ⟨b.toArray⟩] w fun e w' => e = .returned (.bool (fusesT a b)) ∧ Ext w w' := by
  have hx := app_list
  obtain ⟨ka, hka⟩ : ∃ k, classT a = k := ⟨_, rfl⟩
  obtain ⟨kb, hkb⟩ : ∃ k, classT b = k := ⟨_, rfl⟩
  have HKa := Lib.hid hka
  have HKb := Lib.hid hkb
  clear hka hkb
  go_enter Try.func17, Try.ntmps17
  go_wp2_with fail
  refine (classL _ _ (by omega)).mono ?_
  rintro e1 w1 ⟨rfl, rfl⟩
  rw [HKa.out]

  by_cases h1 : ka = 0
  · subst h1
    go_wp2_with fail
    go_ret
    exact ⟨ret_bool (fusesT_no (.inl HKa.out)).symm, Ext.refl _⟩
  have h1b : ((ka : Int) == 0) = false := by simp; omega
  go_wp2_with fail
  refine (classL _ _ (by omega)).mono ?_
  rintro e2 w2 ⟨rfl, rfl⟩
  rw [HKb.out]

  by_cases h2 : kb = 0
  · subst h2
    go_wp2_with fail
    go_ret
    exact ⟨ret_bool (fusesT_no (.inr HKb.out)).symm, Ext.refl _⟩
  have h2b : ((kb : Int) == 0) = false := by simp; omega
  have HN := Lib.hid (show ¬ (classT a = 0 ∨ classT b = 0) from by rw [HKa.out, HKb.out]; omega)
  obtain ⟨Rs, hRs⟩ : ∃ Rs, scan (a ++ b) = Rs := ⟨_, rfl⟩
  have HRs := Lib.hid hRs
  clear hRs
  go_wp2_with fail
  refine (scanL _ _ (by simp; omega)).mono ?_
  rintro e3 w3 ⟨v, rfl, htr, hx3⟩
  rw [HRs.out] at htr ⊢
  obtain ⟨A, c, rfl, hc1, hc2, hrow⟩ := htr
  unfold maxLen at hc2
  have HX3 := Lib.hid (hx3); clear hx3
  have HRow := Lib.hid hrow; clear hrow
  obtain ⟨toks, tail, place, er⟩ := Rs
  simp only at HRow hc1 hc2 ⊢
  by_cases h3 : er = 0
  rotate_left
  · have h3b : ((er : Int) != 0) = true := by simp; omega
    have HF := Lib.hid (fusesT_other HN.out (fun h => h3 (by rw [HRs.out] at h; exact h.1)))
    go_wp2_with fail
    go_ret
    exact ⟨ret_bool HF.out.symm, HX3.out⟩
  subst h3
  by_cases h4 : toks.length = 2
  rotate_left
  · have h4b : ((toks.length : Int) != 2) = true := by simp; omega
    have HF := Lib.hid (fusesT_other HN.out (fun h => h4 (by rw [HRs.out] at h; exact h.2.1)))
    go_wp2_with fail
    go_ret
    exact ⟨ret_bool HF.out.symm, HX3.out⟩
  by_cases h5 : tail = []
  rotate_left
  · have h5b : (tail == []) = false := by simpa using h5
    have h5c : tail.isEmpty = false := by simpa using h5
    obtain ⟨t0, t1, rfl⟩ := list_two h4
    have HF := Lib.hid (fusesT_other HN.out (fun h => h5 (by rw [HRs.out] at h; exact h.2.2)))
    clear h5 h4
    go_wp2_with fail
    go_ret
    exact ⟨ret_bool HF.out.symm, HX3.out⟩
  subst h5
  obtain ⟨t0, t1, rfl⟩ := list_two h4
  clear h4
  obtain ⟨b0, off, rfl, hb0, p0, p1, p2⟩ := tokRow_at HRow.out (k := 0) (by simp)
  obtain ⟨b0', off', heq, _, q0, q1, q2⟩ := tokRow_at HRow.out (k := 1) (by simp)
  obtain ⟨rfl, rfl⟩ : b0 = b0' ∧ off = off' := by simpa using heq
  clear heq
  have HF := Lib.hid (fusesT_two HN.out (by rw [HRs.out]) (by rw [HRs.out]) (by rw [HRs.out]))
  simp only [Nat.zero_mul, Nat.one_mul, Nat.add_zero, List.getElem_cons_zero, List.getElem_cons_succ] at p0 p1 p2 q0 q1 q2
  cases g0 : (t0.lead == [])
  · skip
    have g0' : t0.lead.isEmpty = false := by simpa using g0
    go_wp2_with fail
    go_ret
    exact ⟨ret_bool (by rw [HF.out, g0]; rfl), HX3.out⟩
  have g0' : t0.lead.isEmpty = true := by simpa using g0
  cases g1 : (t0.text == a)
  · skip
    go_wp2_with fail
    go_ret
    exact ⟨ret_bool (by rw [HF.out, g0, g1]; rfl), HX3.out⟩
  cases g2 : (t1.lead == [])
  · skip
    have g2' : t1.lead.isEmpty = false := by simpa using g2
    go_wp2_with fail
    go_ret
    exact ⟨ret_bool (by rw [HF.out, g0, g1, g2]; rfl), HX3.out⟩
  have g2' : t1.lead.isEmpty = true := by simpa using g2
  cases g3 : (t1.text == b)
  all_goals
    go_wp2_with fail
    go_ret
    exact ⟨ret_bool (by rw [HF.out, g0, g1, g2, g3]; rfl), HX3.out⟩

set_option maxHeartbeats 2000000 in
theorem fusesR (a b : List UInt8) (w : World) (ha : a.length ≤ 140737488355328) (hb : b.length ≤ 140737488355328) : Calls Try.prog 18 #[.string ⟨a.toArray⟩, .string ⟨b.toArray⟩] w fun e w' => e = .returned (.bool (fusesT a b)) ∧ Ext w w' := by
  have hx := app_list
  obtain ⟨ka, hka⟩ : ∃ k, classT a = k := ⟨_, rfl⟩
  obtain ⟨kb, hkb⟩ : ∃ k, classT b = k := ⟨_, rfl⟩
  have HKa := Lib.hid hka
  have HKb := Lib.hid hkb
  clear hka hkb
  go_enter Try.func18, Try.ntmps18
  go_wp2_with fail
  refine (classR _ _ (by omega)).mono ?_
  rintro e1 w1 ⟨rfl, hx1⟩
  rw [HKa.out]
  have HX1 := Lib.hid hx1; clear hx1
  by_cases h1 : ka = 0
  · subst h1
    go_wp2_with fail
    go_ret
    exact ⟨ret_bool (fusesT_no (.inl HKa.out)).symm, HX1.out⟩
  have h1b : ((ka : Int) == 0) = false := by simp; omega
  go_wp2_with fail
  refine (classR _ _ (by omega)).mono ?_
  rintro e2 w2 ⟨rfl, hx2⟩
  rw [HKb.out]
  have HX2 := Lib.hid (HX1.out.trans hx2); clear hx2
  by_cases h2 : kb = 0
  · subst h2
    go_wp2_with fail
    go_ret
    exact ⟨ret_bool (fusesT_no (.inr HKb.out)).symm, HX2.out⟩
  have h2b : ((kb : Int) == 0) = false := by simp; omega
  have HN := Lib.hid (show ¬ (classT a = 0 ∨ classT b = 0) from by rw [HKa.out, HKb.out]; omega)
  obtain ⟨Rs, hRs⟩ : ∃ Rs, scan (a ++ b) = Rs := ⟨_, rfl⟩
  have HRs := Lib.hid hRs
  clear hRs
  go_wp2_with fail
  refine (scanR _ _ (by simp; omega)).mono ?_
  rintro e3 w3 ⟨v, rfl, htr, hx3⟩
  rw [HRs.out] at htr ⊢
  obtain ⟨A, c, rfl, hc1, hc2, hrow⟩ := htr
  unfold maxLen at hc2
  have HX3 := Lib.hid (HX2.out.trans hx3); clear hx3
  have HRow := Lib.hid hrow; clear hrow
  obtain ⟨toks, tail, place, er⟩ := Rs
  simp only at HRow hc1 hc2 ⊢
  by_cases h3 : er = 0
  rotate_left
  · have h3b : ((er : Int) != 0) = true := by simp; omega
    have HF := Lib.hid (fusesT_other HN.out (fun h => h3 (by rw [HRs.out] at h; exact h.1)))
    go_wp2_with fail
    go_ret
    exact ⟨ret_bool HF.out.symm, HX3.out⟩
  subst h3
  by_cases h4 : toks.length = 2
  rotate_left
  · have h4b : ((toks.length : Int) != 2) = true := by simp; omega
    have HF := Lib.hid (fusesT_other HN.out (fun h => h4 (by rw [HRs.out] at h; exact h.2.1)))
    go_wp2_with fail
    go_ret
    exact ⟨ret_bool HF.out.symm, HX3.out⟩
  by_cases h5 : tail = []
  rotate_left
  · have h5b : (tail == []) = false := by simpa using h5
    have h5c : tail.isEmpty = false := by simpa using h5
    obtain ⟨t0, t1, rfl⟩ := list_two h4
    have HF := Lib.hid (fusesT_other HN.out (fun h => h5 (by rw [HRs.out] at h; exact h.2.2)))
    clear h5 h4
    go_wp2_with fail
    go_ret
    exact ⟨ret_bool HF.out.symm, HX3.out⟩
  subst h5
  obtain ⟨t0, t1, rfl⟩ := list_two h4
  clear h4
  obtain ⟨b0, off, rfl, hb0, p0, p1, p2⟩ := tokRow_at HRow.out (k := 0) (by simp)
  obtain ⟨b0', off', heq, _, q0, q1, q2⟩ := tokRow_at HRow.out (k := 1) (by simp)
  obtain ⟨rfl, rfl⟩ : b0 = b0' ∧ off = off' := by simpa using heq
  clear heq
  have HF := Lib.hid (fusesT_two HN.out (by rw [HRs.out]) (by rw [HRs.out]) (by rw [HRs.out]))
  simp only [Nat.zero_mul, Nat.one_mul, Nat.add_zero, List.getElem_cons_zero, List.getElem_cons_succ] at p0 p1 p2 q0 q1 q2
  cases g1 : (t0.text == a)
  · skip
    go_wp2_with fail
    go_ret
    exact ⟨ret_bool (by rw [HF.out, g1]; simp), HX3.out⟩
  cases g0 : (t0.lead == [])
  · skip
    have g0' : t0.lead.isEmpty = false := by simpa using g0
    go_wp2_with fail
    go_ret
    exact ⟨ret_bool (by rw [HF.out, g1, g0]; simp), HX3.out⟩
  have g0' : t0.lead.isEmpty = true := by simpa using g0
  cases g3 : (t1.text == b)
  · skip
    go_wp2_with fail
    go_ret
    exact ⟨ret_bool (by rw [HF.out, g1, g0, g3]; simp), HX3.out⟩
  cases g2 : (t1.lead == [])
  all_goals
    have g2' := isEmpty_of g2
    go_wp2_with fail
    go_ret
    exact ⟨ret_bool (by rw [HF.out, g1, g0, g3, g2]; simp), HX3.out⟩
end Go.Proofs.Ytoknigfjgoaoaaa
