/- Contracts of the functions that the law reaches, part 6. -/
import Derived.Test.YthpjpngfghcmcaaLv5
set_option linter.unusedVariables false
set_option linter.unusedSimpArgs false
namespace Go.Proofs.Ythpjpngfghcmcaa
open Go.RowKit Lx
set_option maxRecDepth 100000
theorem app_list (a b : List UInt8) : (ByteArray.mk a.toArray) ++ (ByteArray.mk b.toArray) = ⟨(a ++ b).toArray⟩ := by
  apply ByteArray.ext; simp
theorem fusesT_no {a b : List UInt8} (h : classT a = 0 ∨ classT b = 0) : fusesT a b = false := by simp [fusesT, h]
theorem fusesT_other {a b : List UInt8} (h : ¬ (classT a = 0 ∨ classT b = 0)) (h2 : ¬ ((scan (a ++ b)).err = 0 ∧ (scan (a ++ b)).toks.length = 2 ∧ (scan (a ++ b)).tail = [])) : fusesT a b = true := by
  unfold fusesT; rw [if_neg h]; simp only; rw [if_neg h2]
theorem fusesT_two {a b : List UInt8} {t0 t1 : Tok} (h : ¬ (classT a = 0 ∨ classT b = 0)) (h1 : (scan (a ++ b)).err = 0) (h2 : (scan (a ++ b)).toks = [t0, t1]) (h3 : (scan (a ++ b)).tail = []) :
    fusesT a b = !(t0.lead == [] && t0.text == a && t1.lead == [] && t1.text == b) := by
  unfold fusesT; rw [if_neg h]; simp only; rw [h1, h2, h3]; simp
theorem list_two {l : List Tok} (h : l.length = 2) : ∃ t0 t1, l = [t0, t1] := by
  match l, h with
  | [a, b], _ => exact ⟨a, b, rfl⟩
set_option maxHeartbeats 2000000 in
theorem fusesL (a b : List UInt8) (w : World) (ha : a.length ≤ 140737488355328) (hb : b.length ≤ 140737488355328) : Calls Try.prog 115 #[.string ⟨a.toArray⟩, .string ⟨b.toArray⟩] w fun e w' => e = .returned (.bool (fusesT a b)) ∧ Ext w w' := by
  have hx := app_list
  obtain ⟨ka, hka⟩ : ∃ k, classT a = k := ⟨_, rfl⟩
  obtain ⟨kb, hkb⟩ : ∃ k, classT b = k := ⟨_, rfl⟩
  have HKa := Lib.hid hka
  have HKb := Lib.hid hkb
  clear hka hkb
  go_enter Try.func115, Try.ntmps115
  go_wp2_with fail
  refine (classL _ _ (by omega)).mono ?_
  rintro e1 w1 ⟨rfl, rfl⟩
  rw [HKa.out]

  by_cases h1 : ka = 0
  · subst h1
    go_wp2_with fail
    go_ret
    exact ⟨ret_bool (fusesT_no (.inl HKa.out)).symm, Ext.refl _⟩
  have h1b : ((ka : Int) == 0) = false := by simp; omega
  go_wp2_with fail
  refine (classL _ _ (by omega)).mono ?_
  rintro e2 w2 ⟨rfl, rfl⟩
  rw [HKb.out]

  by_cases h2 : kb = 0
  · subst h2
    go_wp2_with fail
    go_ret
    exact ⟨ret_bool (fusesT_no (.inr HKb.out)).symm, Ext.refl _⟩
  have h2b : ((kb : Int) == 0) = false := by simp; omega
  have HN := Lib.hid (show ¬ (classT a = 0 ∨ classT b = 0) from by rw [HKa.out, HKb.out]; omega)
  obtain ⟨Rs, hRs⟩ : ∃ Rs, scan (a ++ b) = Rs := ⟨_, rfl⟩
  have HRs := Lib.hid hRs
  clear hRs
  go_wp2_with fail
  refine (scanL _ _ (by simp; omega)).mono ?_
  rintro e3 w3 ⟨v, rfl, htr, hx3⟩
  rw [HRs.out] at htr ⊢
  obtain ⟨A, c, rfl, hc1, hc2, hrow⟩ := htr
  unfold maxLen at hc2
  have HX3 := Lib.hid (hx3); clear hx3
  have HRow := Lib.hid hrow; clear hrow
  obtain ⟨toks, tail, place, er⟩ := Rs
  simp only at HRow hc1 hc2 ⊢
  by_cases h3 : er = 0
  rotate_left
  · have h3b : ((er : Int) != 0) = true := by simp; omega
    have HF := Lib.hid (fusesT_other HN.out (fun h => h3 (by rw [HRs.out] at h; exact h.1)))
    go_wp2_with fail
    go_ret
    exact ⟨ret_bool HF.out.symm, HX3.out⟩
  subst h3
  by_cases h4 : toks.length = 2
  rotate_left
  · have h4b : ((toks.length : Int) != 2) = true := by simp; omega
    have HF := Lib.hid (fusesT_other HN.out (fun h => h4 (by rw [HRs.out] at h; exact h.2.1)))
    go_wp2_with fail
    go_ret
    exact ⟨ret_bool HF.out.symm, HX3.out⟩
  by_cases h5 : tail = []
  rotate_left
  · have h5b : (tail == []) = false := by simpa using h5
    have h5c : tail.isEmpty = false := by simpa using h5
    obtain ⟨t0, t1, rfl⟩ := list_two h4
    have HF := Lib.hid (fusesT_other HN.out (fun h => h5 (by rw [HRs.out] at h; exact h.2.2)))
    clear h5 h4
    go_wp2_with fail
    go_ret
    exact ⟨ret_bool HF.out.symm, HX3.out⟩
  subst h5
  obtain ⟨t0, t1, rfl⟩ := list_two h4
  clear h4
  obtain ⟨b0, off, rfl, hb0, p0, p1, p2⟩ := tokRow_at HRow.out (k := 0) (by simp)
  obtain ⟨b0', off', heq, _, q0, q1, q2⟩ := tokRow_at HRow.out (k := 1) (by simp)
  obtain ⟨rfl, rfl⟩ : b0 = b0' ∧ off = off' := by simpa using heq
  clear heq
  have HF := Lib.hid (fusesT_two HN.out (by rw [HRs.out]) (by rw [HRs.out]) (by rw [HRs.out]))
  simp only [Nat.zero_mul, Nat.one_mul, Nat.add_zero, List.getElem_cons_zero, List.getElem_cons_succ] at p0 p1 p2 q0 q1 q2
  cases g0 : (t0.lead == [])
  · skip
    have g0' : t0.lead.isEmpty = false := by simpa using g0
    go_wp2_with fail
    go_ret
    exact ⟨ret_bool (by rw [HF.out, g0]; rfl), HX3.out⟩
  have g0' : t0.lead.isEmpty = true := by simpa using g0
  cases g1 : (t0.text == a)
  · skip
    go_wp2_with fail
    go_ret
    exact ⟨ret_bool (by rw [HF.out, g0, g1]; rfl), HX3.out⟩
  cases g2 : (t1.lead == [])
  · skip
    have g2' : t1.lead.isEmpty = false := by simpa using g2
    go_wp2_with fail
    go_ret
    exact ⟨ret_bool (by rw [HF.out, g0, g1, g2]; rfl), HX3.out⟩
  have g2' : t1.lead.isEmpty = true := by simpa using g2
  cases g3 : (t1.text == b)
  all_goals
    go_wp2_with fail
    go_ret
    exact ⟨ret_bool (by rw [HF.out, g0, g1, g2, g3]; rfl), HX3.out⟩
end Go.Proofs.Ythpjpngfghcmcaa
namespace Go.Proofs.Ythpjpngfghcmcaa
open Go.RowKit Lx Sx
set_option maxRecDepth 100000
set_option maxHeartbeats 4000000
def wordedT (k : Int) (s : List UInt8) : Bool :=
  if k = 1 ∨ k = 3 then classT s == 2
  else if k = 2 ∨ k = 4 ∨ k = 12 ∨ k = 20 then classT s == 1
  else if k = 9 then classT s == 2 || classT s == 4
  else if k = 16 then classT s == 1 || classT s == 3
  else if k = 10 then classT s == 5
  else if k = 11 then classT s == 6
  else if k = 21 then operB s
  else s == []
def suitsT (k : Int) (n i : Nat) (kk : Int) : Bool :=
  if k = 1 then kk == 2 || kk == 3
  else if k = 2 then (if (i : Int) = n - 1 then isExprB kk else if (i : Int) = n - 2 then isTypeB kk else kk == 4)
  else if k = 3 ∨ k = 4 ∨ k = 8 then isTypeB kk
  else if k = 16 then kk == 17
  else if k = 21 then isUnitB kk || (decide ((i : Int) = 0) && kk == 21)
  else isExprB kk
theorem calls_eq {P : Program} {f : FuncId} {args : Array Value} {w : World} {v : Ending} (h : Calls P f args w fun e w' => e = v ∧ w = w') : Calls P f args w fun e w' => e = v ∧ Chg [] w w' := h.mono fun _ _ ⟨a, b⟩ => ⟨a, b ▸ Chg.refl _ _⟩
theorem calls_ext {P : Program} {f : FuncId} {args : Array Value} {w : World} {v : Ending} (h : Calls P f args w fun e w' => e = v ∧ Ext w w') : Calls P f args w fun e w' => e = v ∧ Chg [] w w' := h.mono fun _ _ ⟨a, b⟩ => ⟨a, Chg.of_ext b []⟩
theorem wordedL {k : Int} {x : List UInt8} {w : World} (hx0 : x.length ≤ 281474976710656) : Calls Try.prog 39 [.int .i64 k, strV x].toArray w fun e w' => e = .returned (.bool (wordedT k x)) ∧ Chg [] w w' := by
  refine enter_fr 51 Try.func39 rfl rfl rfl ?_
  intro a hf
  have hE := Chg.refl [] w
  refine wS fun K1 hK1 => wR <| sA hf rfl rfl fun a hf => sN <| hK1 _ _ <| wS fun K2 hK2 => wR <| sM hf rfl rfl fun a hf => st_c hf rfl rfl rfl (by kernel_rfl) (calls_eq (classL x _ hx0)) ?_
  rintro _ w4 ⟨rfl, hx3⟩
  refine ⟨_, rfl, fun a hf => ?_⟩
  replace hE := hE.t0 hx3
  refine sA hf rfl rfl fun a hf => sN <| hK2 _ _ <| wS fun K5 hK5 => wS fun K6 hK6 => wR <| sM hf rfl rfl fun a hf => sN <| hK6 _ _ <| wp_block <| wS fun K7 hK7 => wS fun K8 hK8 => wR <| st_b hf rfl rfl (fun c hc => ex_eqI hf rfl rfl hc) ?_ ?_
  clear hf a; intro h10 a hf
  refine sA hf rfl rfl fun a hf => sN <| hK8 _ _ <| cT hf rfl <| wp_skip <| hK7 _ _ <| cT hf rfl <| wS fun K9 hK9 => wR <| sM hf rfl rfl fun a hf => st_b hf rfl rfl (fun c hc => ex_eqI hf rfl rfl hc) ?_ ?_
  clear hf a; intro h13 a hf
  refine sA hf rfl rfl fun a hf => sN <| hK9 _ _ <| wp_ret ?_
  try simp only [Exit.then, Exit.inBlock]
  exact ret_of (rs := [.tmp 4]) hf rfl ⟨_, _, rfl, rfl, rfl⟩ ⟨ret_b (by simp only [beq_eq_false_iff_ne, beq_iff_eq, bne_iff_ne, bne_eq_false_iff_eq, decide_eq_true_eq, decide_eq_false_iff_not, ne_eq, Int.not_lt, Int.not_le, Decidable.not_not] at h10 h13; simp [wordedT, h10, h13] <;> omega), hE⟩
  clear hf a; intro h13 a hf
  refine sA hf rfl rfl fun a hf => sN <| hK9 _ _ <| wp_ret ?_
  try simp only [Exit.then, Exit.inBlock]
  exact ret_of (rs := [.tmp 4]) hf rfl ⟨_, _, rfl, rfl, rfl⟩ ⟨ret_b (by simp only [beq_eq_false_iff_ne, beq_iff_eq, bne_iff_ne, bne_eq_false_iff_eq, decide_eq_true_eq, decide_eq_false_iff_not, ne_eq, Int.not_lt, Int.not_le, Decidable.not_not] at h10 h13; simp [wordedT, h10, h13] <;> omega), hE⟩
  clear hf a; intro h10 a hf
  refine sA hf rfl rfl fun a hf => sN <| hK8 _ _ <| cF hf rfl <| wR <| st_b hf rfl rfl (fun c hc => ex_eqI hf rfl rfl hc) ?_ ?_
  clear hf a; intro h11 a hf
  refine sA hf rfl rfl fun a hf => sN <| hK7 _ _ <| cT hf rfl <| wS fun K10 hK10 => wR <| sM hf rfl rfl fun a hf => st_b hf rfl rfl (fun c hc => ex_eqI hf rfl rfl hc) ?_ ?_
  clear hf a; intro h13 a hf
  refine sA hf rfl rfl fun a hf => sN <| hK10 _ _ <| wp_ret ?_
  try simp only [Exit.then, Exit.inBlock]
  exact ret_of (rs := [.tmp 4]) hf rfl ⟨_, _, rfl, rfl, rfl⟩ ⟨ret_b (by simp only [beq_eq_false_iff_ne, beq_iff_eq, bne_iff_ne, bne_eq_false_iff_eq, decide_eq_true_eq, decide_eq_false_iff_not, ne_eq, Int.not_lt, Int.not_le, Decidable.not_not] at h10 h11 h13; simp [wordedT, h10, h11, h13] <;> omega), hE⟩
  clear hf a; intro h13 a hf
  refine sA hf rfl rfl fun a hf => sN <| hK10 _ _ <| wp_ret ?_
  try simp only [Exit.then, Exit.inBlock]
  exact ret_of (rs := [.tmp 4]) hf rfl ⟨_, _, rfl, rfl, rfl⟩ ⟨ret_b (by simp only [beq_eq_false_iff_ne, beq_iff_eq, bne_iff_ne, bne_eq_false_iff_eq, decide_eq_true_eq, decide_eq_false_iff_not, ne_eq, Int.not_lt, Int.not_le, Decidable.not_not] at h10 h11 h13; simp [wordedT, h10, h11, h13] <;> omega), hE⟩
  clear hf a; intro h11 a hf
  refine sA hf rfl rfl fun a hf => sN <| hK7 _ _ <| cF hf rfl <| wS fun K11 hK11 => wS fun K12 hK12 => wR <| st_b hf rfl rfl (fun c hc => ex_eqI hf rfl rfl hc) ?_ ?_
  clear hf a; intro h15 a hf
  refine sA hf rfl rfl fun a hf => sN <| hK12 _ _ <| cT hf rfl <| wp_skip <| hK11 _ _ <| cT hf rfl <| wS fun K13 hK13 => wR <| sM hf rfl rfl fun a hf => st_b hf rfl rfl (fun c hc => ex_eqI hf rfl rfl hc) ?_ ?_
  clear hf a; intro h20 a hf
  refine sA hf rfl rfl fun a hf => sN <| hK13 _ _ <| wp_ret ?_
  try simp only [Exit.then, Exit.inBlock]
  exact ret_of (rs := [.tmp 4]) hf rfl ⟨_, _, rfl, rfl, rfl⟩ ⟨ret_b (by simp only [beq_eq_false_iff_ne, beq_iff_eq, bne_iff_ne, bne_eq_false_iff_eq, decide_eq_true_eq, decide_eq_false_iff_not, ne_eq, Int.not_lt, Int.not_le, Decidable.not_not] at h10 h11 h15 h20; simp [wordedT, h10, h11, h15, h20] <;> omega), hE⟩
  clear hf a; intro h20 a hf
  refine sA hf rfl rfl fun a hf => sN <| hK13 _ _ <| wp_ret ?_
  try simp only [Exit.then, Exit.inBlock]
  exact ret_of (rs := [.tmp 4]) hf rfl ⟨_, _, rfl, rfl, rfl⟩ ⟨ret_b (by simp only [beq_eq_false_iff_ne, beq_iff_eq, bne_iff_ne, bne_eq_false_iff_eq, decide_eq_true_eq, decide_eq_false_iff_not, ne_eq, Int.not_lt, Int.not_le, Decidable.not_not] at h10 h11 h15 h20; simp [wordedT, h10, h11, h15, h20] <;> omega), hE⟩
  clear hf a; intro h15 a hf
  refine sA hf rfl rfl fun a hf => sN <| hK12 _ _ <| cF hf rfl <| wS fun K14 hK14 => wR <| st_b hf rfl rfl (fun c hc => ex_eqI hf rfl rfl hc) ?_ ?_
  clear hf a; intro h16 a hf
  refine sA hf rfl rfl fun a hf => sN <| hK14 _ _ <| cT hf rfl <| wp_skip <| hK11 _ _ <| cT hf rfl <| wS fun K15 hK15 => wR <| sM hf rfl rfl fun a hf => st_b hf rfl rfl (fun c hc => ex_eqI hf rfl rfl hc) ?_ ?_
  clear hf a; intro h20 a hf
  refine sA hf rfl rfl fun a hf => sN <| hK15 _ _ <| wp_ret ?_
  try simp only [Exit.then, Exit.inBlock]
  exact ret_of (rs := [.tmp 4]) hf rfl ⟨_, _, rfl, rfl, rfl⟩ ⟨ret_b (by simp only [beq_eq_false_iff_ne, beq_iff_eq, bne_iff_ne, bne_eq_false_iff_eq, decide_eq_true_eq, decide_eq_false_iff_not, ne_eq, Int.not_lt, Int.not_le, Decidable.not_not] at h10 h11 h15 h16 h20; simp [wordedT, h10, h11, h15, h16, h20] <;> omega), hE⟩
  clear hf a; intro h20 a hf
  refine sA hf rfl rfl fun a hf => sN <| hK15 _ _ <| wp_ret ?_
  try simp only [Exit.then, Exit.inBlock]
  exact ret_of (rs := [.tmp 4]) hf rfl ⟨_, _, rfl, rfl, rfl⟩ ⟨ret_b (by simp only [beq_eq_false_iff_ne, beq_iff_eq, bne_iff_ne, bne_eq_false_iff_eq, decide_eq_true_eq, decide_eq_false_iff_not, ne_eq, Int.not_lt, Int.not_le, Decidable.not_not] at h10 h11 h15 h16 h20; simp [wordedT, h10, h11, h15, h16, h20] <;> omega), hE⟩
  clear hf a; intro h16 a hf
  refine sA hf rfl rfl fun a hf => sN <| hK14 _ _ <| cF hf rfl <| wS fun K16 hK16 => wR <| st_b hf rfl rfl (fun c hc => ex_eqI hf rfl rfl hc) ?_ ?_
  clear hf a; intro h17 a hf
  refine sA hf rfl rfl fun a hf => sN <| hK16 _ _ <| cT hf rfl <| wp_skip <| hK11 _ _ <| cT hf rfl <| wS fun K17 hK17 => wR <| sM hf rfl rfl fun a hf => st_b hf rfl rfl (fun c hc => ex_eqI hf rfl rfl hc) ?_ ?_
  clear hf a; intro h20 a hf
  refine sA hf rfl rfl fun a hf => sN <| hK17 _ _ <| wp_ret ?_
  try simp only [Exit.then, Exit.inBlock]
  exact ret_of (rs := [.tmp 4]) hf rfl ⟨_, _, rfl, rfl, rfl⟩ ⟨ret_b (by simp only [beq_eq_false_iff_ne, beq_iff_eq, bne_iff_ne, bne_eq_false_iff_eq, decide_eq_true_eq, decide_eq_false_iff_not, ne_eq, Int.not_lt, Int.not_le, Decidable.not_not] at h10 h11 h15 h16 h17 h20; simp [wordedT, h10, h11, h15, h16, h17, h20] <;> omega), hE⟩
  clear hf a; intro h20 a hf
  refine sA hf rfl rfl fun a hf => sN <| hK17 _ _ <| wp_ret ?_
  try simp only [Exit.then, Exit.inBlock]
  exact ret_of (rs := [.tmp 4]) hf rfl ⟨_, _, rfl, rfl, rfl⟩ ⟨ret_b (by simp only [beq_eq_false_iff_ne, beq_iff_eq, bne_iff_ne, bne_eq_false_iff_eq, decide_eq_true_eq, decide_eq_false_iff_not, ne_eq, Int.not_lt, Int.not_le, Decidable.not_not] at h10 h11 h15 h16 h17 h20; simp [wordedT, h10, h11, h15, h16, h17, h20] <;> omega), hE⟩
  clear hf a; intro h17 a hf
  refine sA hf rfl rfl fun a hf => sN <| hK16 _ _ <| cF hf rfl <| wR <| st_b hf rfl rfl (fun c hc => ex_eqI hf rfl rfl hc) ?_ ?_
  clear hf a; intro h18 a hf
  refine sA hf rfl rfl fun a hf => sN <| hK11 _ _ <| cT hf rfl <| wS fun K18 hK18 => wR <| sM hf rfl rfl fun a hf => st_b hf rfl rfl (fun c hc => ex_eqI hf rfl rfl hc) ?_ ?_
  clear hf a; intro h20 a hf
  refine sA hf rfl rfl fun a hf => sN <| hK18 _ _ <| wp_ret ?_
  try simp only [Exit.then, Exit.inBlock]
  exact ret_of (rs := [.tmp 4]) hf rfl ⟨_, _, rfl, rfl, rfl⟩ ⟨ret_b (by simp only [beq_eq_false_iff_ne, beq_iff_eq, bne_iff_ne, bne_eq_false_iff_eq, decide_eq_true_eq, decide_eq_false_iff_not, ne_eq, Int.not_lt, Int.not_le, Decidable.not_not] at h10 h11 h15 h16 h17 h18 h20; simp [wordedT, h10, h11, h15, h16, h17, h18, h20] <;> omega), hE⟩
  clear hf a; intro h20 a hf
  refine sA hf rfl rfl fun a hf => sN <| hK18 _ _ <| wp_ret ?_
  try simp only [Exit.then, Exit.inBlock]
  exact ret_of (rs := [.tmp 4]) hf rfl ⟨_, _, rfl, rfl, rfl⟩ ⟨ret_b (by simp only [beq_eq_false_iff_ne, beq_iff_eq, bne_iff_ne, bne_eq_false_iff_eq, decide_eq_true_eq, decide_eq_false_iff_not, ne_eq, Int.not_lt, Int.not_le, Decidable.not_not] at h10 h11 h15 h16 h17 h18 h20; simp [wordedT, h10, h11, h15, h16, h17, h18, h20] <;> omega), hE⟩
  clear hf a; intro h18 a hf
  refine sA hf rfl rfl fun a hf => sN <| hK11 _ _ <| cF hf rfl <| wS fun K19 hK19 => wR <| st_b hf rfl rfl (fun c hc => ex_eqI hf rfl rfl hc) ?_ ?_
  clear hf a; intro h22 a hf
  refine sA hf rfl rfl fun a hf => sN <| hK19 _ _ <| cT hf rfl <| wS fun K20 hK20 => wR <| sM hf rfl rfl fun a hf => st_b hf rfl rfl (fun c hc => ex_eqI hf rfl rfl hc) ?_ ?_
  clear hf a; intro h24 a hf
  refine sM hf rfl rfl fun a hf => st_k hf rfl rfl fun a hf => st_k hf rfl rfl fun a hf => sV hf rfl (ex_pickT hf rfl rfl) fun a hf => sA hf rfl rfl fun a hf => sN <| hK20 _ _ <| wp_ret ?_
  try simp only [Exit.then, Exit.inBlock]
  exact ret_of (rs := [.tmp 4]) hf rfl ⟨_, _, rfl, rfl, rfl⟩ ⟨ret_b (by simp only [beq_eq_false_iff_ne, beq_iff_eq, bne_iff_ne, bne_eq_false_iff_eq, decide_eq_true_eq, decide_eq_false_iff_not, ne_eq, Int.not_lt, Int.not_le, Decidable.not_not] at h10 h11 h15 h16 h17 h18 h22 h24; simp [wordedT, h10, h11, h15, h16, h17, h18, h22, h24] <;> omega), hE⟩
  clear hf a; intro h24 a hf
  refine sM hf rfl rfl fun a hf => sM hf rfl rfl fun a hf => st_b hf rfl rfl (fun c hc => ex_eqI hf rfl rfl hc) ?_ ?_
  clear hf a; intro h27 a hf
  refine sV hf rfl (ex_pickF hf rfl rfl) fun a hf => sA hf rfl rfl fun a hf => sN <| hK20 _ _ <| wp_ret ?_
  try simp only [Exit.then, Exit.inBlock]
  exact ret_of (rs := [.tmp 4]) hf rfl ⟨_, _, rfl, rfl, rfl⟩ ⟨ret_b (by simp only [beq_eq_false_iff_ne, beq_iff_eq, bne_iff_ne, bne_eq_false_iff_eq, decide_eq_true_eq, decide_eq_false_iff_not, ne_eq, Int.not_lt, Int.not_le, Decidable.not_not] at h10 h11 h15 h16 h17 h18 h22 h24 h27; simp [wordedT, h10, h11, h15, h16, h17, h18, h22, h24, h27] <;> omega), hE⟩
  clear hf a; intro h27 a hf
  refine sV hf rfl (ex_pickF hf rfl rfl) fun a hf => sA hf rfl rfl fun a hf => sN <| hK20 _ _ <| wp_ret ?_
  try simp only [Exit.then, Exit.inBlock]
  exact ret_of (rs := [.tmp 4]) hf rfl ⟨_, _, rfl, rfl, rfl⟩ ⟨ret_b (by simp only [beq_eq_false_iff_ne, beq_iff_eq, bne_iff_ne, bne_eq_false_iff_eq, decide_eq_true_eq, decide_eq_false_iff_not, ne_eq, Int.not_lt, Int.not_le, Decidable.not_not] at h10 h11 h15 h16 h17 h18 h22 h24 h27; simp [wordedT, h10, h11, h15, h16, h17, h18, h22, h24, h27] <;> omega), hE⟩
  clear hf a; intro h22 a hf
  refine sA hf rfl rfl fun a hf => sN <| hK19 _ _ <| cF hf rfl <| wS fun K21 hK21 => wR <| st_b hf rfl rfl (fun c hc => ex_eqI hf rfl rfl hc) ?_ ?_
  clear hf a; intro h30 a hf
  refine sA hf rfl rfl fun a hf => sN <| hK21 _ _ <| cT hf rfl <| wS fun K22 hK22 => wR <| sM hf rfl rfl fun a hf => st_b hf rfl rfl (fun c hc => ex_eqI hf rfl rfl hc) ?_ ?_
  clear hf a; intro h32 a hf
  refine sM hf rfl rfl fun a hf => st_k hf rfl rfl fun a hf => st_k hf rfl rfl fun a hf => sV hf rfl (ex_pickT hf rfl rfl) fun a hf => sA hf rfl rfl fun a hf => sN <| hK22 _ _ <| wp_ret ?_
  try simp only [Exit.then, Exit.inBlock]
  exact ret_of (rs := [.tmp 4]) hf rfl ⟨_, _, rfl, rfl, rfl⟩ ⟨ret_b (by simp only [beq_eq_false_iff_ne, beq_iff_eq, bne_iff_ne, bne_eq_false_iff_eq, decide_eq_true_eq, decide_eq_false_iff_not, ne_eq, Int.not_lt, Int.not_le, Decidable.not_not] at h10 h11 h15 h16 h17 h18 h22 h30 h32; simp [wordedT, h10, h11, h15, h16, h17, h18, h22, h30, h32] <;> omega), hE⟩
  clear hf a; intro h32 a hf
  refine sM hf rfl rfl fun a hf => sM hf rfl rfl fun a hf => st_b hf rfl rfl (fun c hc => ex_eqI hf rfl rfl hc) ?_ ?_
  clear hf a; intro h35 a hf
  refine sV hf rfl (ex_pickF hf rfl rfl) fun a hf => sA hf rfl rfl fun a hf => sN <| hK22 _ _ <| wp_ret ?_
  try simp only [Exit.then, Exit.inBlock]
  exact ret_of (rs := [.tmp 4]) hf rfl ⟨_, _, rfl, rfl, rfl⟩ ⟨ret_b (by simp only [beq_eq_false_iff_ne, beq_iff_eq, bne_iff_ne, bne_eq_false_iff_eq, decide_eq_true_eq, decide_eq_false_iff_not, ne_eq, Int.not_lt, Int.not_le, Decidable.not_not] at h10 h11 h15 h16 h17 h18 h22 h30 h32 h35; simp [wordedT, h10, h11, h15, h16, h17, h18, h22, h30, h32, h35] <;> omega), hE⟩
  clear hf a; intro h35 a hf
  refine sV hf rfl (ex_pickF hf rfl rfl) fun a hf => sA hf rfl rfl fun a hf => sN <| hK22 _ _ <| wp_ret ?_
  try simp only [Exit.then, Exit.inBlock]
  exact ret_of (rs := [.tmp 4]) hf rfl ⟨_, _, rfl, rfl, rfl⟩ ⟨ret_b (by simp only [beq_eq_false_iff_ne, beq_iff_eq, bne_iff_ne, bne_eq_false_iff_eq, decide_eq_true_eq, decide_eq_false_iff_not, ne_eq, Int.not_lt, Int.not_le, Decidable.not_not] at h10 h11 h15 h16 h17 h18 h22 h30 h32 h35; simp [wordedT, h10, h11, h15, h16, h17, h18, h22, h30, h32, h35] <;> omega), hE⟩
  clear hf a; intro h30 a hf
  refine sA hf rfl rfl fun a hf => sN <| hK21 _ _ <| cF hf rfl <| wS fun K23 hK23 => wR <| st_b hf rfl rfl (fun c hc => ex_eqI hf rfl rfl hc) ?_ ?_
  clear hf a; intro h38 a hf
  refine sA hf rfl rfl fun a hf => sN <| hK23 _ _ <| cT hf rfl <| wS fun K24 hK24 => wR <| sM hf rfl rfl fun a hf => st_b hf rfl rfl (fun c hc => ex_eqI hf rfl rfl hc) ?_ ?_
  clear hf a; intro h40 a hf
  refine sA hf rfl rfl fun a hf => sN <| hK24 _ _ <| wp_ret ?_
  try simp only [Exit.then, Exit.inBlock]
  exact ret_of (rs := [.tmp 4]) hf rfl ⟨_, _, rfl, rfl, rfl⟩ ⟨ret_b (by simp only [beq_eq_false_iff_ne, beq_iff_eq, bne_iff_ne, bne_eq_false_iff_eq, decide_eq_true_eq, decide_eq_false_iff_not, ne_eq, Int.not_lt, Int.not_le, Decidable.not_not] at h10 h11 h15 h16 h17 h18 h22 h30 h38 h40; simp [wordedT, h10, h11, h15, h16, h17, h18, h22, h30, h38, h40] <;> omega), hE⟩
  clear hf a; intro h40 a hf
  refine sA hf rfl rfl fun a hf => sN <| hK24 _ _ <| wp_ret ?_
  try simp only [Exit.then, Exit.inBlock]
  exact ret_of (rs := [.tmp 4]) hf rfl ⟨_, _, rfl, rfl, rfl⟩ ⟨ret_b (by simp only [beq_eq_false_iff_ne, beq_iff_eq, bne_iff_ne, bne_eq_false_iff_eq, decide_eq_true_eq, decide_eq_false_iff_not, ne_eq, Int.not_lt, Int.not_le, Decidable.not_not] at h10 h11 h15 h16 h17 h18 h22 h30 h38 h40; simp [wordedT, h10, h11, h15, h16, h17, h18, h22, h30, h38, h40] <;> omega), hE⟩
  clear hf a; intro h38 a hf
  refine sA hf rfl rfl fun a hf => sN <| hK23 _ _ <| cF hf rfl <| wS fun K25 hK25 => wR <| st_b hf rfl rfl (fun c hc => ex_eqI hf rfl rfl hc) ?_ ?_
  clear hf a; intro h42 a hf
  refine sA hf rfl rfl fun a hf => sN <| hK25 _ _ <| cT hf rfl <| wS fun K26 hK26 => wR <| sM hf rfl rfl fun a hf => st_b hf rfl rfl (fun c hc => ex_eqI hf rfl rfl hc) ?_ ?_
  clear hf a; intro h44 a hf
  refine sA hf rfl rfl fun a hf => sN <| hK26 _ _ <| wp_ret ?_
  try simp only [Exit.then, Exit.inBlock]
  exact ret_of (rs := [.tmp 4]) hf rfl ⟨_, _, rfl, rfl, rfl⟩ ⟨ret_b (by simp only [beq_eq_false_iff_ne, beq_iff_eq, bne_iff_ne, bne_eq_false_iff_eq, decide_eq_true_eq, decide_eq_false_iff_not, ne_eq, Int.not_lt, Int.not_le, Decidable.not_not] at h10 h11 h15 h16 h17 h18 h22 h30 h38 h42 h44; simp [wordedT, h10, h11, h15, h16, h17, h18, h22, h30, h38, h42, h44] <;> omega), hE⟩
  clear hf a; intro h44 a hf
  refine sA hf rfl rfl fun a hf => sN <| hK26 _ _ <| wp_ret ?_
  try simp only [Exit.then, Exit.inBlock]
  exact ret_of (rs := [.tmp 4]) hf rfl ⟨_, _, rfl, rfl, rfl⟩ ⟨ret_b (by simp only [beq_eq_false_iff_ne, beq_iff_eq, bne_iff_ne, bne_eq_false_iff_eq, decide_eq_true_eq, decide_eq_false_iff_not, ne_eq, Int.not_lt, Int.not_le, Decidable.not_not] at h10 h11 h15 h16 h17 h18 h22 h30 h38 h42 h44; simp [wordedT, h10, h11, h15, h16, h17, h18, h22, h30, h38, h42, h44] <;> omega), hE⟩
  clear hf a; intro h42 a hf
  refine sA hf rfl rfl fun a hf => sN <| hK25 _ _ <| cF hf rfl <| wS fun K27 hK27 => wR <| st_b hf rfl rfl (fun c hc => ex_eqI hf rfl rfl hc) ?_ ?_
  clear hf a; intro h46 a hf
  refine sA hf rfl rfl fun a hf => sN <| hK27 _ _ <| cT hf rfl <| wS fun K28 hK28 => wR <| sM hf rfl rfl fun a hf => ?_
  rcases Bool.eq_false_or_eq_true (operB x) with hb | hb
  refine st_c hf rfl rfl rfl (by kernel_rfl) (bool_is (operatorL (x := x)) hb) ?_
  rintro _ w30 ⟨rfl, hx29⟩
  refine ⟨_, rfl, fun a hf => ?_⟩
  replace hE := hE.t0 hx29
  refine sA hf rfl rfl fun a hf => sN <| hK28 _ _ <| wp_ret ?_
  try simp only [Exit.then, Exit.inBlock]
  exact ret_of (rs := [.tmp 4]) hf rfl ⟨_, _, rfl, rfl, rfl⟩ ⟨ret_b (by simp only [beq_eq_false_iff_ne, beq_iff_eq, bne_iff_ne, bne_eq_false_iff_eq, decide_eq_true_eq, decide_eq_false_iff_not, ne_eq, Int.not_lt, Int.not_le, Decidable.not_not] at h10 h11 h15 h16 h17 h18 h22 h30 h38 h42 h46; simp [wordedT, h10, h11, h15, h16, h17, h18, h22, h30, h38, h42, h46, hb] <;> omega), hE⟩
  refine st_c hf rfl rfl rfl (by kernel_rfl) (bool_is (operatorL (x := x)) hb) ?_
  rintro _ w31 ⟨rfl, hx29⟩
  refine ⟨_, rfl, fun a hf => ?_⟩
  replace hE := hE.t0 hx29
  refine sA hf rfl rfl fun a hf => sN <| hK28 _ _ <| wp_ret ?_
  try simp only [Exit.then, Exit.inBlock]
  exact ret_of (rs := [.tmp 4]) hf rfl ⟨_, _, rfl, rfl, rfl⟩ ⟨ret_b (by simp only [beq_eq_false_iff_ne, beq_iff_eq, bne_iff_ne, bne_eq_false_iff_eq, decide_eq_true_eq, decide_eq_false_iff_not, ne_eq, Int.not_lt, Int.not_le, Decidable.not_not] at h10 h11 h15 h16 h17 h18 h22 h30 h38 h42 h46; simp [wordedT, h10, h11, h15, h16, h17, h18, h22, h30, h38, h42, h46, hb] <;> omega), hE⟩
  clear hf a; intro h46 a hf
  refine sA hf rfl rfl fun a hf => sN <| hK27 _ _ <| cF hf rfl <| wp_skip <| hK5 _ _ <| wS fun K32 hK32 => wR <| sM hf rfl rfl fun a hf => st_b hf rfl rfl (fun c hc => ex_eqS hf rfl rfl hc) ?_ ?_
  clear hf a; intro h50 a hf
  refine sA hf rfl rfl fun a hf => sN <| hK32 _ _ <| wp_ret ?_
  try simp only [Exit.then, Exit.inBlock]
  exact ret_of (rs := [.tmp 4]) hf rfl ⟨_, _, rfl, rfl, rfl⟩ ⟨ret_b (by simp only [beq_eq_false_iff_ne, beq_iff_eq, bne_iff_ne, bne_eq_false_iff_eq, decide_eq_true_eq, decide_eq_false_iff_not, ne_eq, Int.not_lt, Int.not_le, Decidable.not_not] at h10 h11 h15 h16 h17 h18 h22 h30 h38 h42 h46 h50; simp [wordedT, h10, h11, h15, h16, h17, h18, h22, h30, h38, h42, h46, h50] <;> omega), hE⟩
  clear hf a; intro h50 a hf
  refine sA hf rfl rfl fun a hf => sN <| hK32 _ _ <| wp_ret ?_
  try simp only [Exit.then, Exit.inBlock]
  exact ret_of (rs := [.tmp 4]) hf rfl ⟨_, _, rfl, rfl, rfl⟩ ⟨ret_b (by simp only [beq_eq_false_iff_ne, beq_iff_eq, bne_iff_ne, bne_eq_false_iff_eq, decide_eq_true_eq, decide_eq_false_iff_not, ne_eq, Int.not_lt, Int.not_le, Decidable.not_not] at h10 h11 h15 h16 h17 h18 h22 h30 h38 h42 h46 h50; simp [wordedT, h10, h11, h15, h16, h17, h18, h22, h30, h38, h42, h46, h50] <;> omega), hE⟩
theorem suitsL {k : Int} {tx : List UInt8} {A : Option Addr} {ln m kb ko n c i : Nat} {kk : Int} {w : World} (hi : i < n) (hn : n ≤ 1000000000) (lt_kb : kb < w.heap.size) (hK : w.cell? ⟨kb, ko + i * 4, none⟩ = some (.int .i64 kk)) : Calls Try.prog 40 [.agg #[.int .i64 k, strV tx, .slice A ln m, .slice (some ⟨kb, ko, none⟩) n c], .int .i64 (i : Nat)].toArray w fun e w' => e = .returned (.bool (suitsT k n i kk)) ∧ Chg [] w w' := by
  refine enter_fr 67 Try.func40 rfl rfl rfl ?_
  intro a hf
  have hE := Chg.refl [] w
  refine wS fun K1 hK1 => wR ?_
  obtain ⟨w2, b3, he, hB4, hx5, eb6, lb7⟩ := ef_box (P := Try.prog) (t := 26) (x := (.tmp 0)) hf rfl rfl w 0
  refine sV hf rfl he fun a hf => ?_
  have ne_kb_b3 : kb ≠ b3 := ne_new lt_kb eb6
  have ge_b3 := ge_new hE eb6
  replace hK := (hx5.cell lt_kb nm0).trans hK
  replace lt_kb := hx5.lt lt_kb
  replace hE := hE.t0 hx5
  clear eb6 lb7
  refine sA hf rfl rfl fun a hf => sN <| hK1 _ _ <| wS fun K8 hK8 => wR <| sV hf rfl (ex_fa (k := 3) (r := 3) hf rfl (by kernel_rfl) rfl) fun a hf => sV hf rfl (ex_loadB hf rfl (by kernel_rfl) hB4 rfl) fun a hf => sM hf rfl rfl fun a hf => sV hf rfl (ex_index (sz := 4) (k := i) (r := ko + i * 4) hf Try.underlying24 (by kernel_rfl) rfl rfl rfl hi rfl) fun a hf => sV hf rfl (ex_fa (k := 0) (r := ko + i * 4) hf rfl (by kernel_rfl) rfl) fun a hf => sV hf rfl (ex_load hf rfl (by kernel_rfl) hK) fun a hf => sA hf rfl rfl fun a hf => sN <| hK8 _ _ <| wS fun K9 hK9 => wS fun K10 hK10 => wR <| sV hf rfl (ex_fa (k := 0) (r := 0) hf rfl (by kernel_rfl) rfl) fun a hf => sV hf rfl (ex_loadB hf rfl (by kernel_rfl) hB4 rfl) fun a hf => sN <| hK10 _ _ <| wp_block <| wS fun K11 hK11 => wR <| st_b hf rfl rfl (fun c hc => ex_eqI hf rfl rfl hc) ?_ ?_
  clear hf a; intro h15 a hf
  refine sA hf rfl rfl fun a hf => sN <| hK11 _ _ <| cT hf rfl <| wS fun K12 hK12 => wR <| sM hf rfl rfl fun a hf => st_b hf rfl rfl (fun c hc => ex_eqI hf rfl rfl hc) ?_ ?_
  clear hf a; intro h17 a hf
  refine sM hf rfl rfl fun a hf => st_k hf rfl rfl fun a hf => st_k hf rfl rfl fun a hf => sV hf rfl (ex_pickT hf rfl rfl) fun a hf => sA hf rfl rfl fun a hf => sN <| hK12 _ _ <| wp_ret ?_
  try simp only [Exit.then, Exit.inBlock]
  exact ret_of (rs := [.tmp 4]) hf rfl ⟨_, _, rfl, rfl, rfl⟩ ⟨ret_b (by simp only [beq_eq_false_iff_ne, beq_iff_eq, bne_iff_ne, bne_eq_false_iff_eq, decide_eq_true_eq, decide_eq_false_iff_not, ne_eq, Int.not_lt, Int.not_le, Decidable.not_not] at h15 h17; simp [suitsT, h15, h17] <;> omega), hE⟩
  clear hf a; intro h17 a hf
  refine sM hf rfl rfl fun a hf => sM hf rfl rfl fun a hf => st_b hf rfl rfl (fun c hc => ex_eqI hf rfl rfl hc) ?_ ?_
  clear hf a; intro h20 a hf
  refine sV hf rfl (ex_pickF hf rfl rfl) fun a hf => sA hf rfl rfl fun a hf => sN <| hK12 _ _ <| wp_ret ?_
  try simp only [Exit.then, Exit.inBlock]
  exact ret_of (rs := [.tmp 4]) hf rfl ⟨_, _, rfl, rfl, rfl⟩ ⟨ret_b (by simp only [beq_eq_false_iff_ne, beq_iff_eq, bne_iff_ne, bne_eq_false_iff_eq, decide_eq_true_eq, decide_eq_false_iff_not, ne_eq, Int.not_lt, Int.not_le, Decidable.not_not] at h15 h17 h20; simp [suitsT, h15, h17, h20] <;> omega), hE⟩
  clear hf a; intro h20 a hf
  refine sV hf rfl (ex_pickF hf rfl rfl) fun a hf => sA hf rfl rfl fun a hf => sN <| hK12 _ _ <| wp_ret ?_
  try simp only [Exit.then, Exit.inBlock]
  exact ret_of (rs := [.tmp 4]) hf rfl ⟨_, _, rfl, rfl, rfl⟩ ⟨ret_b (by simp only [beq_eq_false_iff_ne, beq_iff_eq, bne_iff_ne, bne_eq_false_iff_eq, decide_eq_true_eq, decide_eq_false_iff_not, ne_eq, Int.not_lt, Int.not_le, Decidable.not_not] at h15 h17 h20; simp [suitsT, h15, h17, h20] <;> omega), hE⟩
  clear hf a; intro h15 a hf
  refine sA hf rfl rfl fun a hf => sN <| hK11 _ _ <| cF hf rfl <| wS fun K13 hK13 => wR <| st_b hf rfl rfl (fun c hc => ex_eqI hf rfl rfl hc) ?_ ?_
  clear hf a; intro h23 a hf
  refine sA hf rfl rfl fun a hf => sN <| hK13 _ _ <| cT hf rfl <| wS fun K14 hK14 => wS fun K15 hK15 => wR <| sM hf rfl rfl fun a hf => sN <| hK15 _ _ <| wp_block <| wS fun K16 hK16 => wR <| sV hf rfl (ex_fa (k := 3) (r := 3) hf rfl (by kernel_rfl) rfl) fun a hf => sV hf rfl (ex_loadB hf rfl (by kernel_rfl) hB4 rfl) fun a hf => sV hf rfl (ex_len hf Try.underlying24 rfl) fun a hf => sV hf rfl (ex_subI hf rfl rfl rfl (by omega)) fun a hf => st_b hf rfl rfl (fun c hc => ex_eqI hf rfl rfl hc) ?_ ?_
  clear hf a; intro h30 a hf
  refine sA hf rfl rfl fun a hf => sN <| hK16 _ _ <| cT hf rfl <| wS fun K17 hK17 => wR <| sM hf rfl rfl fun a hf => ?_
  rcases Bool.eq_false_or_eq_true (isExprB kk) with hbe | hbe
  refine st_c hf rfl rfl rfl (by kernel_rfl) (bool_is (isExprL (k := kk)) hbe) ?_
  rintro _ w19 ⟨rfl, hx18⟩
  refine ⟨_, rfl, fun a hf => ?_⟩
  replace hB4 := hB4.c0 hx18
  replace hK := (hx18.cell lt_kb nm0).trans hK
  replace lt_kb := hx18.lt lt_kb
  replace hE := hE.t0 hx18
  refine sA hf rfl rfl fun a hf => sN <| hK17 _ _ <| wp_ret ?_
  try simp only [Exit.then, Exit.inBlock]
  exact ret_of (rs := [.tmp 4]) hf rfl ⟨_, _, rfl, rfl, rfl⟩ ⟨ret_b (by simp only [beq_eq_false_iff_ne, beq_iff_eq, bne_iff_ne, bne_eq_false_iff_eq, decide_eq_true_eq, decide_eq_false_iff_not, ne_eq, Int.not_lt, Int.not_le, Decidable.not_not] at h15 h23 h30; simp [suitsT, h15, h23, h30, hbe] <;> omega), hE⟩
  refine st_c hf rfl rfl rfl (by kernel_rfl) (bool_is (isExprL (k := kk)) hbe) ?_
  rintro _ w20 ⟨rfl, hx18⟩
  refine ⟨_, rfl, fun a hf => ?_⟩
  replace hB4 := hB4.c0 hx18
  replace hK := (hx18.cell lt_kb nm0).trans hK
  replace lt_kb := hx18.lt lt_kb
  replace hE := hE.t0 hx18
  refine sA hf rfl rfl fun a hf => sN <| hK17 _ _ <| wp_ret ?_
  try simp only [Exit.then, Exit.inBlock]
  exact ret_of (rs := [.tmp 4]) hf rfl ⟨_, _, rfl, rfl, rfl⟩ ⟨ret_b (by simp only [beq_eq_false_iff_ne, beq_iff_eq, bne_iff_ne, bne_eq_false_iff_eq, decide_eq_true_eq, decide_eq_false_iff_not, ne_eq, Int.not_lt, Int.not_le, Decidable.not_not] at h15 h23 h30; simp [suitsT, h15, h23, h30, hbe] <;> omega), hE⟩
  clear hf a; intro h30 a hf
  refine sA hf rfl rfl fun a hf => sN <| hK16 _ _ <| cF hf rfl <| wS fun K21 hK21 => wR <| sV hf rfl (ex_fa (k := 3) (r := 3) hf rfl (by kernel_rfl) rfl) fun a hf => sV hf rfl (ex_loadB hf rfl (by kernel_rfl) hB4 rfl) fun a hf => sV hf rfl (ex_len hf Try.underlying24 rfl) fun a hf => sV hf rfl (ex_subI hf rfl rfl rfl (by omega)) fun a hf => st_b hf rfl rfl (fun c hc => ex_eqI hf rfl rfl hc) ?_ ?_
  clear hf a; intro h38 a hf
  refine sA hf rfl rfl fun a hf => sN <| hK21 _ _ <| cT hf rfl <| wS fun K22 hK22 => wR <| sM hf rfl rfl fun a hf => ?_
  rcases Bool.eq_false_or_eq_true (isTypeB kk) with hbt | hbt
  refine st_c hf rfl rfl rfl (by kernel_rfl) (bool_is (isTypeL (k := kk)) hbt) ?_
  rintro _ w24 ⟨rfl, hx23⟩
  refine ⟨_, rfl, fun a hf => ?_⟩
  replace hB4 := hB4.c0 hx23
  replace hK := (hx23.cell lt_kb nm0).trans hK
  replace lt_kb := hx23.lt lt_kb
  replace hE := hE.t0 hx23
  refine sA hf rfl rfl fun a hf => sN <| hK22 _ _ <| wp_ret ?_
  try simp only [Exit.then, Exit.inBlock]
  exact ret_of (rs := [.tmp 4]) hf rfl ⟨_, _, rfl, rfl, rfl⟩ ⟨ret_b (by simp only [beq_eq_false_iff_ne, beq_iff_eq, bne_iff_ne, bne_eq_false_iff_eq, decide_eq_true_eq, decide_eq_false_iff_not, ne_eq, Int.not_lt, Int.not_le, Decidable.not_not] at h15 h23 h30 h38; simp [suitsT, h15, h23, h30, h38, hbt] <;> omega), hE⟩
  refine st_c hf rfl rfl rfl (by kernel_rfl) (bool_is (isTypeL (k := kk)) hbt) ?_
  rintro _ w25 ⟨rfl, hx23⟩
  refine ⟨_, rfl, fun a hf => ?_⟩
  replace hB4 := hB4.c0 hx23
  replace hK := (hx23.cell lt_kb nm0).trans hK
  replace lt_kb := hx23.lt lt_kb
  replace hE := hE.t0 hx23
  refine sA hf rfl rfl fun a hf => sN <| hK22 _ _ <| wp_ret ?_
  try simp only [Exit.then, Exit.inBlock]
  exact ret_of (rs := [.tmp 4]) hf rfl ⟨_, _, rfl, rfl, rfl⟩ ⟨ret_b (by simp only [beq_eq_false_iff_ne, beq_iff_eq, bne_iff_ne, bne_eq_false_iff_eq, decide_eq_true_eq, decide_eq_false_iff_not, ne_eq, Int.not_lt, Int.not_le, Decidable.not_not] at h15 h23 h30 h38; simp [suitsT, h15, h23, h30, h38, hbt] <;> omega), hE⟩
  clear hf a; intro h38 a hf
  refine sA hf rfl rfl fun a hf => sN <| hK21 _ _ <| cF hf rfl <| wp_skip <| hK14 _ _ <| wS fun K26 hK26 => wR <| sM hf rfl rfl fun a hf => st_b hf rfl rfl (fun c hc => ex_eqI hf rfl rfl hc) ?_ ?_
  clear hf a; intro h42 a hf
  refine sA hf rfl rfl fun a hf => sN <| hK26 _ _ <| wp_ret ?_
  try simp only [Exit.then, Exit.inBlock]
  exact ret_of (rs := [.tmp 4]) hf rfl ⟨_, _, rfl, rfl, rfl⟩ ⟨ret_b (by simp only [beq_eq_false_iff_ne, beq_iff_eq, bne_iff_ne, bne_eq_false_iff_eq, decide_eq_true_eq, decide_eq_false_iff_not, ne_eq, Int.not_lt, Int.not_le, Decidable.not_not] at h15 h23 h30 h38 h42; simp [suitsT, h15, h23, h30, h38, h42] <;> omega), hE⟩
  clear hf a; intro h42 a hf
  refine sA hf rfl rfl fun a hf => sN <| hK26 _ _ <| wp_ret ?_
  try simp only [Exit.then, Exit.inBlock]
  exact ret_of (rs := [.tmp 4]) hf rfl ⟨_, _, rfl, rfl, rfl⟩ ⟨ret_b (by simp only [beq_eq_false_iff_ne, beq_iff_eq, bne_iff_ne, bne_eq_false_iff_eq, decide_eq_true_eq, decide_eq_false_iff_not, ne_eq, Int.not_lt, Int.not_le, Decidable.not_not] at h15 h23 h30 h38 h42; simp [suitsT, h15, h23, h30, h38, h42] <;> omega), hE⟩
  clear hf a; intro h23 a hf
  refine sA hf rfl rfl fun a hf => sN <| hK13 _ _ <| cF hf rfl <| wS fun K27 hK27 => wS fun K28 hK28 => wR <| st_b hf rfl rfl (fun c hc => ex_eqI hf rfl rfl hc) ?_ ?_
  clear hf a; intro h44 a hf
  refine sA hf rfl rfl fun a hf => sN <| hK28 _ _ <| cT hf rfl <| wp_skip <| hK27 _ _ <| cT hf rfl <| wS fun K29 hK29 => wR <| sM hf rfl rfl fun a hf => ?_
  rcases Bool.eq_false_or_eq_true (isTypeB kk) with hbt | hbt
  refine st_c hf rfl rfl rfl (by kernel_rfl) (bool_is (isTypeL (k := kk)) hbt) ?_
  rintro _ w31 ⟨rfl, hx30⟩
  refine ⟨_, rfl, fun a hf => ?_⟩
  replace hB4 := hB4.c0 hx30
  replace hK := (hx30.cell lt_kb nm0).trans hK
  replace lt_kb := hx30.lt lt_kb
  replace hE := hE.t0 hx30
  refine sA hf rfl rfl fun a hf => sN <| hK29 _ _ <| wp_ret ?_
  try simp only [Exit.then, Exit.inBlock]
  exact ret_of (rs := [.tmp 4]) hf rfl ⟨_, _, rfl, rfl, rfl⟩ ⟨ret_b (by simp only [beq_eq_false_iff_ne, beq_iff_eq, bne_iff_ne, bne_eq_false_iff_eq, decide_eq_true_eq, decide_eq_false_iff_not, ne_eq, Int.not_lt, Int.not_le, Decidable.not_not] at h15 h23 h44; simp [suitsT, h15, h23, h44, hbt] <;> omega), hE⟩
  refine st_c hf rfl rfl rfl (by kernel_rfl) (bool_is (isTypeL (k := kk)) hbt) ?_
  rintro _ w32 ⟨rfl, hx30⟩
  refine ⟨_, rfl, fun a hf => ?_⟩
  replace hB4 := hB4.c0 hx30
  replace hK := (hx30.cell lt_kb nm0).trans hK
  replace lt_kb := hx30.lt lt_kb
  replace hE := hE.t0 hx30
  refine sA hf rfl rfl fun a hf => sN <| hK29 _ _ <| wp_ret ?_
  try simp only [Exit.then, Exit.inBlock]
  exact ret_of (rs := [.tmp 4]) hf rfl ⟨_, _, rfl, rfl, rfl⟩ ⟨ret_b (by simp only [beq_eq_false_iff_ne, beq_iff_eq, bne_iff_ne, bne_eq_false_iff_eq, decide_eq_true_eq, decide_eq_false_iff_not, ne_eq, Int.not_lt, Int.not_le, Decidable.not_not] at h15 h23 h44; simp [suitsT, h15, h23, h44, hbt] <;> omega), hE⟩
  clear hf a; intro h44 a hf
  refine sA hf rfl rfl fun a hf => sN <| hK28 _ _ <| cF hf rfl <| wS fun K33 hK33 => wR <| st_b hf rfl rfl (fun c hc => ex_eqI hf rfl rfl hc) ?_ ?_
  clear hf a; intro h45 a hf
  refine sA hf rfl rfl fun a hf => sN <| hK33 _ _ <| cT hf rfl <| wp_skip <| hK27 _ _ <| cT hf rfl <| wS fun K34 hK34 => wR <| sM hf rfl rfl fun a hf => ?_
  rcases Bool.eq_false_or_eq_true (isTypeB kk) with hbt | hbt
  refine st_c hf rfl rfl rfl (by kernel_rfl) (bool_is (isTypeL (k := kk)) hbt) ?_
  rintro _ w36 ⟨rfl, hx35⟩
  refine ⟨_, rfl, fun a hf => ?_⟩
  replace hB4 := hB4.c0 hx35
  replace hK := (hx35.cell lt_kb nm0).trans hK
  replace lt_kb := hx35.lt lt_kb
  replace hE := hE.t0 hx35
  refine sA hf rfl rfl fun a hf => sN <| hK34 _ _ <| wp_ret ?_
  try simp only [Exit.then, Exit.inBlock]
  exact ret_of (rs := [.tmp 4]) hf rfl ⟨_, _, rfl, rfl, rfl⟩ ⟨ret_b (by simp only [beq_eq_false_iff_ne, beq_iff_eq, bne_iff_ne, bne_eq_false_iff_eq, decide_eq_true_eq, decide_eq_false_iff_not, ne_eq, Int.not_lt, Int.not_le, Decidable.not_not] at h15 h23 h44 h45; simp [suitsT, h15, h23, h44, h45, hbt] <;> omega), hE⟩
  refine st_c hf rfl rfl rfl (by kernel_rfl) (bool_is (isTypeL (k := kk)) hbt) ?_
  rintro _ w37 ⟨rfl, hx35⟩
  refine ⟨_, rfl, fun a hf => ?_⟩
  replace hB4 := hB4.c0 hx35
  replace hK := (hx35.cell lt_kb nm0).trans hK
  replace lt_kb := hx35.lt lt_kb
  replace hE := hE.t0 hx35
  refine sA hf rfl rfl fun a hf => sN <| hK34 _ _ <| wp_ret ?_
  try simp only [Exit.then, Exit.inBlock]
  exact ret_of (rs := [.tmp 4]) hf rfl ⟨_, _, rfl, rfl, rfl⟩ ⟨ret_b (by simp only [beq_eq_false_iff_ne, beq_iff_eq, bne_iff_ne, bne_eq_false_iff_eq, decide_eq_true_eq, decide_eq_false_iff_not, ne_eq, Int.not_lt, Int.not_le, Decidable.not_not] at h15 h23 h44 h45; simp [suitsT, h15, h23, h44, h45, hbt] <;> omega), hE⟩
  clear hf a; intro h45 a hf
  refine sA hf rfl rfl fun a hf => sN <| hK33 _ _ <| cF hf rfl <| wR <| st_b hf rfl rfl (fun c hc => ex_eqI hf rfl rfl hc) ?_ ?_
  clear hf a; intro h46 a hf
  refine sA hf rfl rfl fun a hf => sN <| hK27 _ _ <| cT hf rfl <| wS fun K38 hK38 => wR <| sM hf rfl rfl fun a hf => ?_
  rcases Bool.eq_false_or_eq_true (isTypeB kk) with hbt | hbt
  refine st_c hf rfl rfl rfl (by kernel_rfl) (bool_is (isTypeL (k := kk)) hbt) ?_
  rintro _ w40 ⟨rfl, hx39⟩
  refine ⟨_, rfl, fun a hf => ?_⟩
  replace hB4 := hB4.c0 hx39
  replace hK := (hx39.cell lt_kb nm0).trans hK
  replace lt_kb := hx39.lt lt_kb
  replace hE := hE.t0 hx39
  refine sA hf rfl rfl fun a hf => sN <| hK38 _ _ <| wp_ret ?_
  try simp only [Exit.then, Exit.inBlock]
  exact ret_of (rs := [.tmp 4]) hf rfl ⟨_, _, rfl, rfl, rfl⟩ ⟨ret_b (by simp only [beq_eq_false_iff_ne, beq_iff_eq, bne_iff_ne, bne_eq_false_iff_eq, decide_eq_true_eq, decide_eq_false_iff_not, ne_eq, Int.not_lt, Int.not_le, Decidable.not_not] at h15 h23 h44 h45 h46; simp [suitsT, h15, h23, h44, h45, h46, hbt] <;> omega), hE⟩
  refine st_c hf rfl rfl rfl (by kernel_rfl) (bool_is (isTypeL (k := kk)) hbt) ?_
  rintro _ w41 ⟨rfl, hx39⟩
  refine ⟨_, rfl, fun a hf => ?_⟩
  replace hB4 := hB4.c0 hx39
  replace hK := (hx39.cell lt_kb nm0).trans hK
  replace lt_kb := hx39.lt lt_kb
  replace hE := hE.t0 hx39
  refine sA hf rfl rfl fun a hf => sN <| hK38 _ _ <| wp_ret ?_
  try simp only [Exit.then, Exit.inBlock]
  exact ret_of (rs := [.tmp 4]) hf rfl ⟨_, _, rfl, rfl, rfl⟩ ⟨ret_b (by simp only [beq_eq_false_iff_ne, beq_iff_eq, bne_iff_ne, bne_eq_false_iff_eq, decide_eq_true_eq, decide_eq_false_iff_not, ne_eq, Int.not_lt, Int.not_le, Decidable.not_not] at h15 h23 h44 h45 h46; simp [suitsT, h15, h23, h44, h45, h46, hbt] <;> omega), hE⟩
  clear hf a; intro h46 a hf
  refine sA hf rfl rfl fun a hf => sN <| hK27 _ _ <| cF hf rfl <| wS fun K42 hK42 => wR <| st_b hf rfl rfl (fun c hc => ex_eqI hf rfl rfl hc) ?_ ?_
  clear hf a; intro h50 a hf
  refine sA hf rfl rfl fun a hf => sN <| hK42 _ _ <| cT hf rfl <| wS fun K43 hK43 => wR <| sM hf rfl rfl fun a hf => st_b hf rfl rfl (fun c hc => ex_eqI hf rfl rfl hc) ?_ ?_
  clear hf a; intro h52 a hf
  refine sA hf rfl rfl fun a hf => sN <| hK43 _ _ <| wp_ret ?_
  try simp only [Exit.then, Exit.inBlock]
  exact ret_of (rs := [.tmp 4]) hf rfl ⟨_, _, rfl, rfl, rfl⟩ ⟨ret_b (by simp only [beq_eq_false_iff_ne, beq_iff_eq, bne_iff_ne, bne_eq_false_iff_eq, decide_eq_true_eq, decide_eq_false_iff_not, ne_eq, Int.not_lt, Int.not_le, Decidable.not_not] at h15 h23 h44 h45 h46 h50 h52; simp [suitsT, h15, h23, h44, h45, h46, h50, h52] <;> omega), hE⟩
  clear hf a; intro h52 a hf
  refine sA hf rfl rfl fun a hf => sN <| hK43 _ _ <| wp_ret ?_
  try simp only [Exit.then, Exit.inBlock]
  exact ret_of (rs := [.tmp 4]) hf rfl ⟨_, _, rfl, rfl, rfl⟩ ⟨ret_b (by simp only [beq_eq_false_iff_ne, beq_iff_eq, bne_iff_ne, bne_eq_false_iff_eq, decide_eq_true_eq, decide_eq_false_iff_not, ne_eq, Int.not_lt, Int.not_le, Decidable.not_not] at h15 h23 h44 h45 h46 h50 h52; simp [suitsT, h15, h23, h44, h45, h46, h50, h52] <;> omega), hE⟩
  clear hf a; intro h50 a hf
  refine sA hf rfl rfl fun a hf => sN <| hK42 _ _ <| cF hf rfl <| wS fun K44 hK44 => wR <| st_b hf rfl rfl (fun c hc => ex_eqI hf rfl rfl hc) ?_ ?_
  clear hf a; intro h54 a hf
  refine sA hf rfl rfl fun a hf => sN <| hK44 _ _ <| cT hf rfl <| wS fun K45 hK45 => wR <| sM hf rfl rfl fun a hf => ?_
  rcases Bool.eq_false_or_eq_true (isUnitB kk) with hbu | hbu
  refine st_c hf rfl rfl rfl (by kernel_rfl) (bool_is (isUnitL (k := kk)) hbu) ?_
  rintro _ w47 ⟨rfl, hx46⟩
  refine ⟨_, rfl, fun a hf => ?_⟩
  replace hB4 := hB4.c0 hx46
  replace hK := (hx46.cell lt_kb nm0).trans hK
  replace lt_kb := hx46.lt lt_kb
  replace hE := hE.t0 hx46
  refine sM hf rfl rfl fun a hf => st_k hf rfl rfl fun a hf => st_k hf rfl rfl fun a hf => st_k hf rfl rfl fun a hf => st_k hf rfl rfl fun a hf => st_k hf rfl rfl fun a hf => st_k hf rfl rfl fun a hf => sV hf rfl (ex_pickT hf rfl rfl) fun a hf => sA hf rfl rfl fun a hf => sN <| hK45 _ _ <| wp_ret ?_
  try simp only [Exit.then, Exit.inBlock]
  exact ret_of (rs := [.tmp 4]) hf rfl ⟨_, _, rfl, rfl, rfl⟩ ⟨ret_b (by simp only [beq_eq_false_iff_ne, beq_iff_eq, bne_iff_ne, bne_eq_false_iff_eq, decide_eq_true_eq, decide_eq_false_iff_not, ne_eq, Int.not_lt, Int.not_le, Decidable.not_not] at h15 h23 h44 h45 h46 h50 h54; simp [suitsT, h15, h23, h44, h45, h46, h50, h54, hbu] <;> omega), hE⟩
  refine st_c hf rfl rfl rfl (by kernel_rfl) (bool_is (isUnitL (k := kk)) hbu) ?_
  rintro _ w48 ⟨rfl, hx46⟩
  refine ⟨_, rfl, fun a hf => ?_⟩
  replace hB4 := hB4.c0 hx46
  replace hK := (hx46.cell lt_kb nm0).trans hK
  replace lt_kb := hx46.lt lt_kb
  replace hE := hE.t0 hx46
  refine sM hf rfl rfl fun a hf => sM hf rfl rfl fun a hf => st_b hf rfl rfl (fun c hc => ex_eqI hf rfl rfl hc) ?_ ?_
  clear hf a; intro h59 a hf
  refine sM hf rfl rfl fun a hf => sM hf rfl rfl fun a hf => st_b hf rfl rfl (fun c hc => ex_eqI hf rfl rfl hc) ?_ ?_
  clear hf a; intro h62 a hf
  refine sV hf rfl (ex_pickT hf rfl rfl) fun a hf => sV hf rfl (ex_pickF hf rfl rfl) fun a hf => sA hf rfl rfl fun a hf => sN <| hK45 _ _ <| wp_ret ?_
  try simp only [Exit.then, Exit.inBlock]
  exact ret_of (rs := [.tmp 4]) hf rfl ⟨_, _, rfl, rfl, rfl⟩ ⟨ret_b (by simp only [beq_eq_false_iff_ne, beq_iff_eq, bne_iff_ne, bne_eq_false_iff_eq, decide_eq_true_eq, decide_eq_false_iff_not, ne_eq, Int.not_lt, Int.not_le, Decidable.not_not] at h15 h23 h44 h45 h46 h50 h54 h59 h62; simp [suitsT, h15, h23, h44, h45, h46, h50, h54, hbu, h59, h62] <;> omega), hE⟩
  clear hf a; intro h62 a hf
  refine sV hf rfl (ex_pickT hf rfl rfl) fun a hf => sV hf rfl (ex_pickF hf rfl rfl) fun a hf => sA hf rfl rfl fun a hf => sN <| hK45 _ _ <| wp_ret ?_
  try simp only [Exit.then, Exit.inBlock]
  exact ret_of (rs := [.tmp 4]) hf rfl ⟨_, _, rfl, rfl, rfl⟩ ⟨ret_b (by simp only [beq_eq_false_iff_ne, beq_iff_eq, bne_iff_ne, bne_eq_false_iff_eq, decide_eq_true_eq, decide_eq_false_iff_not, ne_eq, Int.not_lt, Int.not_le, Decidable.not_not] at h15 h23 h44 h45 h46 h50 h54 h59 h62; simp [suitsT, h15, h23, h44, h45, h46, h50, h54, hbu, h59, h62] <;> omega), hE⟩
  clear hf a; intro h59 a hf
  refine sM hf rfl rfl fun a hf => st_k hf rfl rfl fun a hf => st_k hf rfl rfl fun a hf => sV hf rfl (ex_pickF hf rfl rfl) fun a hf => sV hf rfl (ex_pickF hf rfl rfl) fun a hf => sA hf rfl rfl fun a hf => sN <| hK45 _ _ <| wp_ret ?_
  try simp only [Exit.then, Exit.inBlock]
  exact ret_of (rs := [.tmp 4]) hf rfl ⟨_, _, rfl, rfl, rfl⟩ ⟨ret_b (by simp only [beq_eq_false_iff_ne, beq_iff_eq, bne_iff_ne, bne_eq_false_iff_eq, decide_eq_true_eq, decide_eq_false_iff_not, ne_eq, Int.not_lt, Int.not_le, Decidable.not_not] at h15 h23 h44 h45 h46 h50 h54 h59; simp [suitsT, h15, h23, h44, h45, h46, h50, h54, hbu, h59] <;> omega), hE⟩
  clear hf a; intro h54 a hf
  refine sA hf rfl rfl fun a hf => sN <| hK44 _ _ <| cF hf rfl <| wp_skip <| hK9 _ _ <| wS fun K49 hK49 => wR <| sM hf rfl rfl fun a hf => ?_
  rcases Bool.eq_false_or_eq_true (isExprB kk) with hbe | hbe
  refine st_c hf rfl rfl rfl (by kernel_rfl) (bool_is (isExprL (k := kk)) hbe) ?_
  rintro _ w51 ⟨rfl, hx50⟩
  refine ⟨_, rfl, fun a hf => ?_⟩
  replace hB4 := hB4.c0 hx50
  replace hK := (hx50.cell lt_kb nm0).trans hK
  replace lt_kb := hx50.lt lt_kb
  replace hE := hE.t0 hx50
  refine sA hf rfl rfl fun a hf => sN <| hK49 _ _ <| wp_ret ?_
  try simp only [Exit.then, Exit.inBlock]
  exact ret_of (rs := [.tmp 4]) hf rfl ⟨_, _, rfl, rfl, rfl⟩ ⟨ret_b (by simp only [beq_eq_false_iff_ne, beq_iff_eq, bne_iff_ne, bne_eq_false_iff_eq, decide_eq_true_eq, decide_eq_false_iff_not, ne_eq, Int.not_lt, Int.not_le, Decidable.not_not] at h15 h23 h44 h45 h46 h50 h54; simp [suitsT, h15, h23, h44, h45, h46, h50, h54, hbe] <;> omega), hE⟩
  refine st_c hf rfl rfl rfl (by kernel_rfl) (bool_is (isExprL (k := kk)) hbe) ?_
  rintro _ w52 ⟨rfl, hx50⟩
  refine ⟨_, rfl, fun a hf => ?_⟩
  replace hB4 := hB4.c0 hx50
  replace hK := (hx50.cell lt_kb nm0).trans hK
  replace lt_kb := hx50.lt lt_kb
  replace hE := hE.t0 hx50
  refine sA hf rfl rfl fun a hf => sN <| hK49 _ _ <| wp_ret ?_
  try simp only [Exit.then, Exit.inBlock]
  exact ret_of (rs := [.tmp 4]) hf rfl ⟨_, _, rfl, rfl, rfl⟩ ⟨ret_b (by simp only [beq_eq_false_iff_ne, beq_iff_eq, bne_iff_ne, bne_eq_false_iff_eq, decide_eq_true_eq, decide_eq_false_iff_not, ne_eq, Int.not_lt, Int.not_le, Decidable.not_not] at h15 h23 h44 h45 h46 h50 h54; simp [suitsT, h15, h23, h44, h45, h46, h50, h54, hbe] <;> omega), hE⟩
end Go.Proofs.Ythpjpngfghcmcaa
namespace Go.Proofs.Ythpjpngfghcmcaa
open Go.RowKit Lx Sx
set_option maxRecDepth 100000
set_option maxHeartbeats 4000000
mutual
def shapedT : Tree → Bool
  | .node k s _ ks => decide (0 ≤ leadsT k ks.length) && wordedT k s && kidsT k ks.length ks 0
def kidsT (k : Int) (n : Nat) : List Tree → Nat → Bool
  | [], _ => true
  | t :: r, i => suitsT k n i t.kind && shapedT t && kidsT k n r (i + 1)
end
def lsum : List (List UInt8) → Nat
  | [] => 0
  | l :: r => l.length + 1 + lsum r
mutual
def tbulk : Tree → Nat
  | .node _ s ls ks => s.length + lsum ls + kbulk ks + 1
def kbulk : List Tree → Nat
  | [] => 0
  | t :: r => tbulk t + kbulk r
end
theorem tbulk_pos (t : Tree) : 0 < tbulk t := by cases t; simp only [tbulk]; omega
theorem kbulk_len : ∀ (ks : List Tree), ks.length ≤ kbulk ks
  | [] => Nat.le_refl _
  | t :: r => by have := kbulk_len r; have := tbulk_pos t; simp only [kbulk, List.length_cons]; omega
theorem kbulk_at : ∀ {ks : List Tree} {i : Nat} (h : i < ks.length), tbulk ks[i] ≤ kbulk ks
  | t :: r, 0, _ => by simp only [kbulk, List.getElem_cons_zero]; omega
  | t :: r, i + 1, h => by have := kbulk_at (ks := r) (i := i) (by simpa using h); simp only [kbulk, List.getElem_cons_succ]; omega
theorem kidsT_step {k : Int} {n i : Nat} {ks : List Tree} (h : i < ks.length) : kidsT k n (ks.drop i) i = (suitsT k n i ks[i].kind && shapedT ks[i] && kidsT k n (ks.drop (i + 1)) (i + 1)) := by rw [List.drop_eq_getElem_cons h, kidsT]
theorem TreeIs.form {S : Nat → Prop} {w : World} {t : Tree} {c0 c1 c2 c3 : Value} (h : TreeIs S w t [c0, c1, c2, c3]) : c0 = .int .i64 t.kind := by
  obtain ⟨k, tx, ls, ks⟩ := t
  simp only [TreeIs] at h
  obtain ⟨A, m, B, n, e, _⟩ := h
  simp only [List.cons.injEq] at e
  exact e.1
theorem not_neg {a : Int} (h : decide (a < 0) = false) : decide (0 ≤ a) = true := by simp at *; omega
theorem is_neg {a : Int} (h : decide (a < 0) = true) : decide (0 ≤ a) = false := by simp at *; omega
def ShapedOk (N : Nat) : Prop := ∀ (t : Tree) (S : Nat → Prop) (w : World) (c0 c1 c2 c3 : Value), tsize t ≤ N → tbulk t ≤ 1000000000 → TreeIs S w t [c0, c1, c2, c3] → Calls Try.prog 22 [.agg #[c0, c1, c2, c3]].toArray w fun e w' => e = .returned (.bool (shapedT t)) ∧ Chg [] w w'
theorem shaped_step {N : Nat} (ih : ShapedOk N) : ShapedOk (N + 1) := by
  intro t S w c0 c1 c2 c3 hN hd hT
  obtain ⟨k, tx, ls, ks⟩ := t
  simp only [TreeIs] at hT
  obtain ⟨A, m0, B, n, hc, _, _, hb1, hb2, _, cs, hkids, hrow⟩ := hT
  simp only [List.cons.injEq, and_true] at hc
  obtain ⟨rfl, rfl, rfl, rfl⟩ := hc
  simp only [tsize] at hN
  simp only [tbulk] at hd
  have hkl := kbulk_len ks
  refine enter_fr 38 Try.func22 rfl rfl rfl ?_
  intro a hf
  have hE := Chg.refl [] w
  refine wS fun K1 hK1 => ?_
  refine wR ?_
  obtain ⟨w2, b3, he, hB4, hx5, eb6, lb7⟩ := ef_box (P := Try.prog) (t := 26) (x := (.tmp 0)) hf rfl rfl w 0
  refine sV hf rfl he ?_
  clear he hf a; intro a hf
  have ge_b3 := ge_new hE eb6
  replace hE := hE.t0 hx5
  clear eb6 lb7
  refine sA hf rfl rfl ?_
  clear hf a; intro a hf
  refine sN ?_
  refine hK1 _ _ ?_
  refine wS fun K8 hK8 => ?_
  refine wS fun K9 hK9 => ?_
  refine wR ?_
  refine sV hf rfl (ex_fa (k := 0) (r := 0) hf rfl (by kernel_rfl) rfl) ?_
  clear hf a; intro a hf
  refine sV hf rfl (ex_loadB hf rfl (by kernel_rfl) hB4 rfl) ?_
  clear hf a; intro a hf
  refine sV hf rfl (ex_fa (k := 3) (r := 3) hf rfl (by kernel_rfl) rfl) ?_
  clear hf a; intro a hf
  refine sV hf rfl (ex_loadB hf rfl (by kernel_rfl) hB4 rfl) ?_
  clear hf a; intro a hf
  refine sV hf rfl (ex_len hf Try.underlying24 rfl) ?_
  clear hf a; intro a hf
  refine st_c hf rfl rfl rfl (by kernel_rfl) (leadsL (by omega)) ?_
  rintro _ w11 ⟨rfl, hx10⟩
  refine ⟨_, rfl, ?_⟩
  clear hf a; intro a hf
  replace hB4 := hB4.c0 hx10
  replace hE := hE.t0 hx10
  refine st_b hf rfl rfl (fun c hc => ex_ltI hf rfl rfl hc) ?_ ?_
  clear hf a; intro h11 a hf
  refine sM hf rfl rfl ?_
  clear hf a; intro a hf
  refine st_k hf rfl rfl ?_
  clear hf a; intro a hf
  refine st_k hf rfl rfl ?_
  clear hf a; intro a hf
  refine st_k hf rfl rfl ?_
  clear hf a; intro a hf
  refine st_k hf rfl rfl ?_
  clear hf a; intro a hf
  refine st_k hf rfl rfl ?_
  clear hf a; intro a hf
  refine st_k hf rfl rfl ?_
  clear hf a; intro a hf
  refine sV hf rfl (ex_pickT hf rfl rfl) ?_
  clear hf a; intro a hf
  refine sN ?_
  refine hK9 _ _ ?_
  refine cT hf rfl ?_
  refine wS fun K12 hK12 => ?_
  refine wR ?_
  refine sA hf rfl rfl ?_
  clear hf a; intro a hf
  refine sN ?_
  refine hK12 _ _ ?_
  refine wp_ret ?_
  try simp only [Exit.then, Exit.inBlock]
  exact ret_of (rs := [.tmp 2]) hf rfl ⟨_, _, rfl, rfl, rfl⟩ ⟨ret_b (by rw [shapedT, is_neg h11]; simp), hE⟩
  clear hf a; intro h11 a hf
  refine sM hf rfl rfl ?_
  clear hf a; intro a hf
  refine sV hf rfl (ex_fa (k := 0) (r := 0) hf rfl (by kernel_rfl) rfl) ?_
  clear hf a; intro a hf
  refine sV hf rfl (ex_loadB hf rfl (by kernel_rfl) hB4 rfl) ?_
  clear hf a; intro a hf
  refine sV hf rfl (ex_fa (k := 1) (r := 1) hf rfl (by kernel_rfl) rfl) ?_
  clear hf a; intro a hf
  refine sV hf rfl (ex_loadB hf rfl (by kernel_rfl) hB4 rfl) ?_
  clear hf a; intro a hf
  rcases Bool.eq_false_or_eq_true (wordedT k tx) with hbw | hbw
  refine st_c hf rfl rfl rfl (by kernel_rfl) (bool_is (wordedL (k := k) (x := tx) (by omega)) hbw) ?_
  rintro _ w14 ⟨rfl, hx13⟩
  refine ⟨_, rfl, ?_⟩
  clear hf a; intro a hf
  replace hB4 := hB4.c0 hx13
  replace hE := hE.t0 hx13
  refine sV hf rfl (ex_not (c := false) hf rfl rfl) ?_
  clear hf a; intro a hf
  refine sV hf rfl (ex_pickF hf rfl rfl) ?_
  clear hf a; intro a hf
  refine sN ?_
  refine hK9 _ _ ?_
  refine cF hf rfl ?_
  refine wp_skip ?_
  refine hK8 _ _ ?_
  refine wS fun K15 hK15 => ?_
  refine wS fun K16 hK16 => ?_
  refine wR ?_
  refine sV hf rfl (ex_fa (k := 3) (r := 3) hf rfl (by kernel_rfl) rfl) ?_
  clear hf a; intro a hf
  refine sV hf rfl (ex_loadB hf rfl (by kernel_rfl) hB4 rfl) ?_
  clear hf a; intro a hf
  refine sV hf rfl (ex_len hf Try.underlying24 rfl) ?_
  clear hf a; intro a hf
  refine sM hf rfl rfl ?_
  clear hf a; intro a hf
  refine sN ?_
  refine hK16 _ _ ?_
  refine wp_block ?_
  refine wp_loop_ghost (fun g a w' => ∃ i, Fr a 38 (fm [(1, .pointer (some ⟨b3, 0, none⟩)), (21, .slice B ks.length n), (22, .int .i64 (ks.length : Nat)), (23, .int .i64 (i : Nat))]) ∧ Chg [] w w' ∧ Blk w' b3 26 [.int .i64 k, strV tx, .slice A ls.length m0, .slice B ks.length n] ∧ i ≤ ks.length ∧ g = ks.length - i ∧ kidsT k ks.length (ks.drop i) i = kidsT k ks.length ks 0) _ ⟨0, hf.pick ⟨rfl, rfl, rfl, rfl, trivial⟩, hE, hB4, Nat.zero_le _, rfl, rfl⟩ ?_
  obtain ⟨b1, eb1⟩ : ∃ x, b3 = x := ⟨_, rfl⟩
  rw [eb1]
  have ge_b1 : w.heap.size ≤ b1 := eb1 ▸ ge_b3
  clear eb1 hf a
  intro g0 a w' hI
  obtain ⟨i, hf, hE, hB1, hi, rfl, hm⟩ := hI
  by_cases hlt : i < ks.length
  obtain ⟨kb, ko, rfl, _, hkb, hcell⟩ := hrow.2 (by omega)
  obtain ⟨d0, d1, d2, d3, hT, hK⟩ := kid_cells hkids hkb hcell hlt hE
  have on_T := hT.one
  have ef := hT.form
  subst ef
  have htt := kbulk_at hlt
  have hts := tsize_at hlt
  have hmm := kidsT_step (k := k) (n := ks.length) hlt
  have lt_kb := hE.lt hkb
  have hK0 : w'.cell? ⟨kb, ko + i * 4, none⟩ = some (.int .i64 ks[i].kind) := hK 0 (by omega)
  obtain ⟨hi0, ehi0⟩ : ∃ x, x = w'.heap.size := ⟨_, rfl⟩
  replace hT := hT.keepB (S' := fun b => b < hi0) (fun b _ hb => by omega) (fun _ _ _ => rfl)
  have tb_kb : kb < hi0 := by omega
  have lt_b1 := hB1.lt
  refine wS fun K17 hK17 => ?_
  refine wR ?_
  refine sV hf rfl (ex_ltI (c := true) hf rfl rfl (by simp; omega)) ?_
  clear hf a; intro a hf
  refine sN ?_
  refine hK17 _ _ ?_
  refine wS fun K18 hK18 => ?_
  refine cT hf rfl ?_
  refine wp_skip ?_
  refine hK18 _ _ ?_
  refine wS fun K19 hK19 => ?_
  refine wp_block ?_
  refine wS fun K20 hK20 => ?_
  refine wR ?_
  refine sM hf rfl rfl ?_
  clear hf a; intro a hf
  refine sV hf rfl (ex_index (sz := 4) (k := i) (r := ko + i * 4) hf Try.underlying24 (by kernel_rfl) rfl rfl rfl hlt rfl) ?_
  clear hf a; intro a hf
  refine sV hf rfl (ex_loadN (cs := [.int .i64 ks[i].kind, d1, d2, d3]) (m := 4) hf rfl (by kernel_rfl) rfl hK) ?_
  clear hf a; intro a hf
  obtain ⟨w21, b22, he, hB23, hx24, eb25, lb26⟩ := eT a w' 0
  refine sV hf rfl he ?_
  clear he hf a; intro a hf
  have ne_b1_b22 : b1 ≠ b22 := ne_new hB1.lt eb25
  have ne_kb_b22 : kb ≠ b22 := ne_new lt_kb eb25
  have ge_b22 := ge_new hE eb25
  have tb_b22 : hi0 ≤ b22 := by omega
  replace hB1 := hB1.c0 hx24
  replace hT := hT.chg hx24 (fun b hb hlt2 => nm0)
  replace hK0 := (hx24.cell lt_kb nm0).trans hK0
  replace lt_kb := hx24.lt lt_kb
  replace hE := hE.t0 hx24
  clear eb25 lb26
  refine sA hf rfl rfl ?_
  clear hf a; intro a hf
  obtain ⟨w27, he, hB28, hx29⟩ := eN (.tmp 4) (.tmp 27) hf rfl rfl rfl on_T hB23 rfl 0
  refine st_s hf rfl rfl he ?_
  clear he hf a; intro a hf
  replace hB1 := hB1.chg hx29 (nmc ne_b1_b22 nm0)
  replace hT := hT.chg hx29 (fun b hb hlt2 => (nmc (by omega) nm0))
  replace hK0 := (hx29.cell lt_kb (nmc ne_kb_b22 nm0)).trans hK0
  replace lt_kb := hx29.lt lt_kb
  replace hE := hE.trans hx29 (allc (.inr ge_b22) all0)
  clear hB23
  refine sN ?_
  refine hK20 _ _ ?_
  refine wS fun K30 hK30 => ?_
  refine wR ?_
  refine sV hf rfl (ex_loadBN (m := 4) hf rfl (by kernel_rfl) hB1 rfl) ?_
  clear hf a; intro a hf
  refine sM hf rfl rfl ?_
  clear hf a; intro a hf
  rcases Bool.eq_false_or_eq_true (suitsT k ks.length i ks[i].kind) with hbs | hbs
  refine st_c hf rfl rfl rfl (by kernel_rfl) (bool_is (suitsL (k := k) (i := i) (kk := ks[i].kind) hlt (by omega) lt_kb hK0) hbs) ?_
  rintro _ w32 ⟨rfl, hx31⟩
  refine ⟨_, rfl, ?_⟩
  clear hf a; intro a hf
  replace hB1 := hB1.c0 hx31
  replace hB28 := hB28.c0 hx31
  replace hT := hT.chg hx31 (fun b hb hlt2 => nm0)
  replace hK0 := (hx31.cell lt_kb nm0).trans hK0
  replace lt_kb := hx31.lt lt_kb
  replace hE := hE.t0 hx31
  refine sV hf rfl (ex_not (c := false) hf rfl rfl) ?_
  clear hf a; intro a hf
  refine sM hf rfl rfl ?_
  clear hf a; intro a hf
  refine sV hf rfl (ex_loadBN (m := 4) hf rfl (by kernel_rfl) hB28 rfl) ?_
  clear hf a; intro a hf
  rcases Bool.eq_false_or_eq_true (shapedT ks[i]) with hbk | hbk
  refine st_c hf rfl rfl rfl (by kernel_rfl) (bool_is (ih _ _ _ _ _ _ _ (by omega) (by omega) hT) hbk) ?_
  rintro _ w34 ⟨rfl, hx33⟩
  refine ⟨_, rfl, ?_⟩
  clear hf a; intro a hf
  replace hB1 := hB1.c0 hx33
  replace hB28 := hB28.c0 hx33
  replace hT := hT.chg hx33 (fun b hb hlt2 => nm0)
  replace hK0 := (hx33.cell lt_kb nm0).trans hK0
  replace lt_kb := hx33.lt lt_kb
  replace hE := hE.t0 hx33
  refine sV hf rfl (ex_not (c := false) hf rfl rfl) ?_
  clear hf a; intro a hf
  refine sV hf rfl (ex_pickF hf rfl rfl) ?_
  clear hf a; intro a hf
  refine sN ?_
  refine hK30 _ _ ?_
  refine cF hf rfl ?_
  refine wp_skip ?_
  refine hK19 _ _ ?_
  refine wR ?_
  refine sV hf rfl (ex_addI hf rfl rfl rfl (by omega)) ?_
  clear hf a; intro a hf
  refine sM hf rfl rfl ?_
  clear hf a; intro a hf
  refine sN ?_
  exact ⟨_, (by omega : ks.length - (i + 1) < ks.length - i), i + 1, hf.pick ⟨rfl, rfl, rfl, rfl, trivial⟩, hE, hB1, by omega, rfl, by rw [← hm, hmm, hbs, hbk]; rfl⟩
  refine st_c hf rfl rfl rfl (by kernel_rfl) (bool_is (ih _ _ _ _ _ _ _ (by omega) (by omega) hT) hbk) ?_
  rintro _ w35 ⟨rfl, hx33⟩
  refine ⟨_, rfl, ?_⟩
  clear hf a; intro a hf
  replace hB1 := hB1.c0 hx33
  replace hB28 := hB28.c0 hx33
  replace hT := hT.chg hx33 (fun b hb hlt2 => nm0)
  replace hK0 := (hx33.cell lt_kb nm0).trans hK0
  replace lt_kb := hx33.lt lt_kb
  replace hE := hE.t0 hx33
  refine sV hf rfl (ex_not (c := true) hf rfl rfl) ?_
  clear hf a; intro a hf
  refine sV hf rfl (ex_pickF hf rfl rfl) ?_
  clear hf a; intro a hf
  refine sN ?_
  refine hK30 _ _ ?_
  refine cT hf rfl ?_
  refine wS fun K36 hK36 => ?_
  refine wR ?_
  refine sA hf rfl rfl ?_
  clear hf a; intro a hf
  refine sN ?_
  refine hK36 _ _ ?_
  refine wp_ret ?_
  try simp only [Exit.then, Exit.inBlock]
  exact ret_of (rs := [.tmp 2]) hf rfl ⟨_, _, rfl, rfl, rfl⟩ ⟨ret_b (by rw [shapedT, ← hm, hmm, hbs, hbk]; simp), hE⟩
  refine st_c hf rfl rfl rfl (by kernel_rfl) (bool_is (suitsL (k := k) (i := i) (kk := ks[i].kind) hlt (by omega) lt_kb hK0) hbs) ?_
  rintro _ w37 ⟨rfl, hx31⟩
  refine ⟨_, rfl, ?_⟩
  clear hf a; intro a hf
  replace hB1 := hB1.c0 hx31
  replace hB28 := hB28.c0 hx31
  replace hT := hT.chg hx31 (fun b hb hlt2 => nm0)
  replace hK0 := (hx31.cell lt_kb nm0).trans hK0
  replace lt_kb := hx31.lt lt_kb
  replace hE := hE.t0 hx31
  refine sV hf rfl (ex_not (c := true) hf rfl rfl) ?_
  clear hf a; intro a hf
  refine sM hf rfl rfl ?_
  clear hf a; intro a hf
  refine st_k hf rfl rfl ?_
  clear hf a; intro a hf
  refine st_k hf rfl rfl ?_
  clear hf a; intro a hf
  refine st_k hf rfl rfl ?_
  clear hf a; intro a hf
  refine sV hf rfl (ex_pickT hf rfl rfl) ?_
  clear hf a; intro a hf
  refine sN ?_
  refine hK30 _ _ ?_
  refine cT hf rfl ?_
  refine wS fun K38 hK38 => ?_
  refine wR ?_
  refine sA hf rfl rfl ?_
  clear hf a; intro a hf
  refine sN ?_
  refine hK38 _ _ ?_
  refine wp_ret ?_
  try simp only [Exit.then, Exit.inBlock]
  exact ret_of (rs := [.tmp 2]) hf rfl ⟨_, _, rfl, rfl, rfl⟩ ⟨ret_b (by rw [shapedT, ← hm, hmm, hbs]; simp), hE⟩
  have hz : ks.drop i = [] := List.drop_of_length_le (by omega)
  rw [hz, kidsT] at hm
  refine wS fun K39 hK39 => ?_
  refine wR ?_
  refine sV hf rfl (ex_ltI (c := false) hf rfl rfl (by simp; omega)) ?_
  clear hf a; intro a hf
  refine sN ?_
  refine hK39 _ _ ?_
  refine wS fun K40 hK40 => ?_
  refine cF hf rfl ?_
  refine wp_exit ?_
  simp only [Exit.then, Exit.inBlock, ↓reduceIte, Nat.reduceEqDiff]
  refine hK15 _ _ ?_
  refine wS fun K41 hK41 => ?_
  refine wR ?_
  refine sA hf rfl rfl ?_
  clear hf a; intro a hf
  refine sN ?_
  refine hK41 _ _ ?_
  refine wp_ret ?_
  try simp only [Exit.then, Exit.inBlock]
  exact ret_of (rs := [.tmp 2]) hf rfl ⟨_, _, rfl, rfl, rfl⟩ ⟨ret_b (by rw [shapedT, ← hm, hbw, not_neg h11]; rfl), hE⟩
  refine st_c hf rfl rfl rfl (by kernel_rfl) (bool_is (wordedL (k := k) (x := tx) (by omega)) hbw) ?_
  rintro _ w42 ⟨rfl, hx13⟩
  refine ⟨_, rfl, ?_⟩
  clear hf a; intro a hf
  replace hB4 := hB4.c0 hx13
  replace hE := hE.t0 hx13
  refine sV hf rfl (ex_not (c := true) hf rfl rfl) ?_
  clear hf a; intro a hf
  refine sV hf rfl (ex_pickF hf rfl rfl) ?_
  clear hf a; intro a hf
  refine sN ?_
  refine hK9 _ _ ?_
  refine cT hf rfl ?_
  refine wS fun K43 hK43 => ?_
  refine wR ?_
  refine sA hf rfl rfl ?_
  clear hf a; intro a hf
  refine sN ?_
  refine hK43 _ _ ?_
  refine wp_ret ?_
  try simp only [Exit.then, Exit.inBlock]
  exact ret_of (rs := [.tmp 2]) hf rfl ⟨_, _, rfl, rfl, rfl⟩ ⟨ret_b (by rw [shapedT, hbw]; simp), hE⟩
theorem shapedL : ∀ N, ShapedOk N
  | 0 => fun t _ _ _ _ _ _ hN => by cases t; simp only [tsize] at hN; omega
  | N + 1 => shaped_step (shapedL N)
end Go.Proofs.Ythpjpngfghcmcaa
namespace Go.Proofs.Ythpjpngfghcmcaa
open Go.RowKit Lx
set_option maxRecDepth 100000
set_option maxHeartbeats 1000000 in
theorem triviaL (l : List UInt8) (fin : Bool) (w : World) (hl : l.length ≤ 281474976710656) : Calls Try.prog 60 #[.string ⟨l.toArray⟩, .bool fin] w fun e w' => e = .returned (.bool (triviaT false l fin)) ∧ w = w' := by
  obtain ⟨r, hr⟩ : ∃ r, triviaT false l fin = r := ⟨_, rfl⟩
  rw [hr]
  have HR := Lib.hid hr; clear hr
  go_enter Try.func60, Try.ntmps60
  go_wp2_with fail
  go_loopg [5, 6] l.length (fun g s5 s6 wx => ∃ (i : Nat) (c : Bool), g = l.length - i ∧ wx = w ∧ i ≤ l.length ∧ s5 = .bool c ∧ s6 = .int .i64 i ∧ Hid (triviaT c (l.drop i) fin = r))
  case atStart => exact ⟨0, false, rfl, rfl, Nat.zero_le _, rfl, rfl, Lib.hid (by simpa using HR.out)⟩
  case round =>
    obtain ⟨i, c, rfl, rfl, hil, rfl, rfl, HT⟩ := hrel
    by_cases hit : i < l.length
    rotate_left
    · have HF := Lib.hid (show (!c || fin) = r from by rw [← HT.out, triviaT_end (by omega)])
      cases c <;> (go_wp2_with fail; go_ret; exact ⟨ret_bool (by rw [← HF.out]; rfl), rfl⟩)
    obtain ⟨x, hx⟩ : ∃ c, ({ data := l.toArray } : ByteArray)[i]'hit = c := ⟨_, rfl⟩
    have HXi := Lib.hid (show l[i] = x from hx)
    have HS := Lib.hid (HT.out.symm.trans (triviaT_step hit HXi.out))
    clear HT
    cases ha : allowedB x
    · go_wp2_with (first | (go_at_call 45; refine (whiteL _ _).mono ?_; rintro e w' ⟨rfl, rfl⟩) | (go_at_call 46; refine (allowedL _ _).mono ?_; rintro e w' ⟨rfl, rfl⟩))
      go_ret
      exact ⟨ret_bool (by rw [HS.out, if_pos ha]), rfl⟩
    cases c with
    | true =>
      go_wp2_with (first | (go_at_call 45; refine (whiteL _ _).mono ?_; rintro e w' ⟨rfl, rfl⟩) | (go_at_call 46; refine (allowedL _ _).mono ?_; rintro e w' ⟨rfl, rfl⟩))
      go_roundg (l.length - (i + 1))
      case measure => omega
      case rel => exact ⟨i + 1, !(x.toNat == 10), rfl, rfl, by omega, by rw [neq10], by go_num, Lib.hid (by rw [HS.out, if_neg (by simp [ha]), if_pos (by trivial)])⟩
    | false =>
      cases h35 : ((x.toNat : Int) == 35)
      rotate_left
      · go_wp2_with (first | (go_at_call 45; refine (whiteL _ _).mono ?_; rintro e w' ⟨rfl, rfl⟩) | (go_at_call 46; refine (allowedL _ _).mono ?_; rintro e w' ⟨rfl, rfl⟩))
        go_roundg (l.length - (i + 1))
        case measure => omega
        case rel => exact ⟨i + 1, true, rfl, rfl, by omega, rfl, by go_num, Lib.hid (by rw [HS.out, if_neg (by simp [ha]), if_neg (by simp), if_pos (beqI (m := 35) h35)])⟩
      cases hw : whiteB x
      · go_wp2_with (first | (go_at_call 45; refine (whiteL _ _).mono ?_; rintro e w' ⟨rfl, rfl⟩) | (go_at_call 46; refine (allowedL _ _).mono ?_; rintro e w' ⟨rfl, rfl⟩))
        go_ret
        exact ⟨ret_bool (by rw [HS.out, if_neg (by simp [ha]), if_neg (by simp), if_neg (bneI (m := 35) h35), if_pos hw]), rfl⟩
      · go_wp2_with (first | (go_at_call 45; refine (whiteL _ _).mono ?_; rintro e w' ⟨rfl, rfl⟩) | (go_at_call 46; refine (allowedL _ _).mono ?_; rintro e w' ⟨rfl, rfl⟩))
        go_roundg (l.length - (i + 1))
        case measure => omega
        case rel => exact ⟨i + 1, false, rfl, rfl, by omega, rfl, by go_num, Lib.hid (by rw [HS.out, if_neg (by simp [ha]), if_neg (by simp), if_neg (bneI (m := 35) h35), if_neg (by simp [hw])])⟩
end Go.Proofs.Ythpjpngfghcmcaa
namespace Go.Proofs.Ythpjpngfghcmcaa
open Go.RowKit Lx Sx
set_option maxRecDepth 100000
set_option maxHeartbeats 4000000
def trivsT (k : Int) : List (List UInt8) → Nat → Bool
  | [], _ => true
  | l :: r, i => triviaT false l (k == 1 && (i : Int) == 2) && trivsT k r (i + 1)
mutual
def leadedT : Tree → Bool
  | .node k _ ls ks => decide ((ls.length : Int) = leadsT k ks.length) && trivsT k ls 0 && leadedsT ks
def leadedsT : List Tree → Bool
  | [] => true
  | t :: r => leadedT t && leadedsT r
end
theorem leadedsT_step {i : Nat} {ks : List Tree} (h : i < ks.length) : leadedsT (ks.drop i) = (leadedT ks[i] && leadedsT (ks.drop (i + 1))) := by rw [List.drop_eq_getElem_cons h, leadedsT]
theorem trivsT_step {k : Int} {i : Nat} {ls : List (List UInt8)} (h : i < ls.length) : trivsT k (ls.drop i) i = (triviaT false ls[i] (k == 1 && (i : Int) == 2) && trivsT k (ls.drop (i + 1)) (i + 1)) := by rw [List.drop_eq_getElem_cons h, trivsT]
theorem lsum_at : ∀ {ls : List (List UInt8)} {i : Nat} (h : i < ls.length), ls[i].length ≤ lsum ls
  | t :: r, 0, _ => by simp only [lsum, List.getElem_cons_zero]; omega
  | t :: r, i + 1, h => by have := lsum_at (ls := r) (i := i) (by simpa using h); simp only [lsum, List.getElem_cons_succ]; omega
theorem lsum_len : ∀ (ls : List (List UInt8)), ls.length ≤ lsum ls
  | [] => Nat.le_refl _
  | t :: r => by have := lsum_len r; simp only [lsum, List.length_cons]; omega
def LeadedOk (N : Nat) : Prop := ∀ (t : Tree) (S : Nat → Prop) (w : World) (c0 c1 c2 c3 : Value), tsize t ≤ N → tbulk t ≤ 1000000000 → TreeIs S w t [c0, c1, c2, c3] → Calls Try.prog 32 [.agg #[c0, c1, c2, c3]].toArray w fun e w' => e = .returned (.bool (leadedT t)) ∧ Chg [] w w'
theorem leaded_step {N : Nat} (ih : LeadedOk N) : LeadedOk (N + 1) := by
  intro t S w c0 c1 c2 c3 hN hd hT
  obtain ⟨k, tx, ls, ks⟩ := t
  simp only [TreeIs] at hT
  obtain ⟨A, m0, B, n, hc, _, _, hb1, hb2, hrowL, cs, hkids, hrow⟩ := hT
  simp only [List.cons.injEq, and_true] at hc
  obtain ⟨rfl, rfl, rfl, rfl⟩ := hc
  simp only [tsize] at hN
  simp only [tbulk] at hd
  have hkl := kbulk_len ks
  have hll := lsum_len ls
  by_cases hne : (ls.length : Int) = leadsT k ks.length
  · skip
    refine enter_fr 47 Try.func32 rfl rfl rfl ?_
    intro a hf
    have hE := Chg.refl [] w
    refine wS fun K1 hK1 => ?_
    refine wR ?_
    obtain ⟨w2, b3, he, hB4, hx5, eb6, lb7⟩ := ef_box (P := Try.prog) (t := 26) (x := (.tmp 0)) hf rfl rfl w 0
    refine sV hf rfl he ?_
    clear he hf a; intro a hf
    have ge_b3 := ge_new hE eb6
    replace hE := hE.t0 hx5
    clear eb6 lb7
    refine sA hf rfl rfl ?_
    clear hf a; intro a hf
    refine sN ?_
    refine hK1 _ _ ?_
    refine wS fun K8 hK8 => ?_
    refine wS fun K9 hK9 => ?_
    have s_hB4 := hB4
    refine dl_start (fun x => x.cell? ⟨b3, 2, none⟩ = w2.cell? ⟨b3, 2, none⟩ ∧ x.cell? ⟨b3, 0, none⟩ = w2.cell? ⟨b3, 0, none⟩ ∧ x.cell? ⟨b3, 3, none⟩ = w2.cell? ⟨b3, 3, none⟩) 10 10 rfl (by kernel_rfl) (by kernel_rfl) ?_
    intro w10 hx11 hsel
    replace hB4 := hB4.c0 hx11
    replace hE := hE.t0 hx11
    have hS0 : w10.cell? ⟨b3, 2, none⟩ = w2.cell? ⟨b3, 2, none⟩ ∧ w10.cell? ⟨b3, 0, none⟩ = w2.cell? ⟨b3, 0, none⟩ ∧ w10.cell? ⟨b3, 3, none⟩ = w2.cell? ⟨b3, 3, none⟩ := ⟨(hB4.cell 2).trans (s_hB4.cell 2).symm, (hB4.cell 0).trans (s_hB4.cell 0).symm, (hB4.cell 3).trans (s_hB4.cell 3).symm⟩
    refine dV 0 rfl rfl hsel (by kernel_rfl) hf rfl (.inl hS0) (fun x => ex_fa (k := 2) (r := 2) hf rfl (by kernel_rfl) rfl) ?_
    clear hf a; intro a hf
    refine dL 1 rfl rfl hsel (by kernel_rfl) hf rfl hS0 (fun x hS => ex_load hf rfl (by kernel_rfl) (hS.1.trans ((s_hB4.cell 2).trans rfl))) ?_
    clear hf a; intro a hf
    refine dV 2 rfl rfl hsel (by kernel_rfl) hf rfl (.inl hS0) (fun x => ex_len hf Try.underlying23 rfl) ?_
    clear hf a; intro a hf
    refine dV 3 rfl rfl hsel (by kernel_rfl) hf rfl (.inl hS0) (fun x => ex_fa (k := 0) (r := 0) hf rfl (by kernel_rfl) rfl) ?_
    clear hf a; intro a hf
    refine dL 4 rfl rfl hsel (by kernel_rfl) hf rfl hS0 (fun x hS => ex_load hf rfl (by kernel_rfl) (hS.2.1.trans ((s_hB4.cell 0).trans rfl))) ?_
    clear hf a; intro a hf
    refine dV 5 rfl rfl hsel (by kernel_rfl) hf rfl (.inl hS0) (fun x => ex_fa (k := 3) (r := 3) hf rfl (by kernel_rfl) rfl) ?_
    clear hf a; intro a hf
    refine dL 6 rfl rfl hsel (by kernel_rfl) hf rfl hS0 (fun x hS => ex_load hf rfl (by kernel_rfl) (hS.2.2.trans ((s_hB4.cell 3).trans rfl))) ?_
    clear hf a; intro a hf
    refine dV 7 rfl rfl hsel (by kernel_rfl) hf rfl (.inl hS0) (fun x => ex_len hf Try.underlying24 rfl) ?_
    clear hf a; intro a hf
    refine dl_c 8 (by kernel_rfl) rfl hf rfl rfl rfl (by kernel_rfl) (leadsL (by omega)) ?_
    rintro _ w13 ⟨rfl, hx12⟩
    refine ⟨_, rfl, ?_⟩
    clear hf a; intro a hf
    replace hB4 := hB4.c0 hx12
    replace hE := hE.t0 hx12
    clear hS0
    have hS0 : w13.cell? ⟨b3, 2, none⟩ = w2.cell? ⟨b3, 2, none⟩ ∧ w13.cell? ⟨b3, 0, none⟩ = w2.cell? ⟨b3, 0, none⟩ ∧ w13.cell? ⟨b3, 3, none⟩ = w2.cell? ⟨b3, 3, none⟩ := ⟨(hB4.cell 2).trans (s_hB4.cell 2).symm, (hB4.cell 0).trans (s_hB4.cell 0).symm, (hB4.cell 3).trans (s_hB4.cell 3).symm⟩
    refine ⟨.inl hS0, ?_⟩
    refine dV 9 rfl rfl hsel (by kernel_rfl) hf rfl (.inl hS0) (fun x => ex_neI (c := false) hf rfl rfl (by simp [hne])) ?_
    clear hf a; intro a hf
    refine dl_done (by kernel_rfl) ?_
    clear hS0 hsel
    refine hK9 _ _ ?_
    refine cF hf rfl ?_
    refine wp_skip ?_
    refine hK8 _ _ ?_
    refine wS fun K14 hK14 => ?_
    refine wS fun K15 hK15 => ?_
    refine wR ?_
    refine sV hf rfl (ex_fa (k := 2) (r := 2) hf rfl (by kernel_rfl) rfl) ?_
    clear hf a; intro a hf
    refine sV hf rfl (ex_loadB hf rfl (by kernel_rfl) hB4 rfl) ?_
    clear hf a; intro a hf
    refine sV hf rfl (ex_len hf Try.underlying23 rfl) ?_
    clear hf a; intro a hf
    refine sM hf rfl rfl ?_
    clear hf a; intro a hf
    refine sN ?_
    refine hK15 _ _ ?_
    refine wp_block ?_
    refine wp_loop_ghost (fun g a w' => ∃ i, Fr a 47 (fm [(1, .pointer (some ⟨b3, 0, none⟩)), (18, .slice A ls.length m0), (19, .int .i64 (ls.length : Nat)), (20, .int .i64 (i : Nat))]) ∧ Chg [] w w' ∧ Blk w' b3 26 [.int .i64 k, strV tx, .slice A ls.length m0, .slice B ks.length n] ∧ i ≤ ls.length ∧ g = ls.length - i ∧ trivsT k (ls.drop i) i = trivsT k ls 0) _ ⟨0, hf.pick ⟨rfl, rfl, rfl, rfl, trivial⟩, hE, hB4, Nat.zero_le _, rfl, rfl⟩ ?_
    obtain ⟨b1, eb1⟩ : ∃ x, b3 = x := ⟨_, rfl⟩
    rw [eb1]
    have ge_b1 : w.heap.size ≤ b1 := eb1 ▸ ge_b3
    clear eb1 hf a
    intro g0 a w' hI
    obtain ⟨i, hf, hE, hB1, hi, rfl, hm⟩ := hI
    have lt_b1 := hB1.lt
    by_cases hlt : i < ls.length
    obtain ⟨lb, lo, rfl, _, hlb, hcellL⟩ := hrowL.2 (by omega)
    have htt := lsum_at hlt
    have hmm := trivsT_step (k := k) hlt
    have lt_lb := hE.lt hlb
    have hK0 : w'.cell? ⟨lb, lo + i * 1, none⟩ = some (strV ls[i]) := by rw [hE.cell hlb nm0, Nat.mul_one, hcellL _ (by omega)]; simp [hlt]
    refine wS fun K16 hK16 => ?_
    refine wR ?_
    refine sV hf rfl (ex_ltI (c := true) hf rfl rfl (by simp; omega)) ?_
    clear hf a; intro a hf
    refine sN ?_
    refine hK16 _ _ ?_
    refine wS fun K17 hK17 => ?_
    refine cT hf rfl ?_
    refine wp_skip ?_
    refine hK17 _ _ ?_
    refine wS fun K18 hK18 => ?_
    refine wp_block ?_
    refine wS fun K19 hK19 => ?_
    refine wR ?_
    refine sM hf rfl rfl ?_
    clear hf a; intro a hf
    refine sV hf rfl (ex_index (sz := 1) (k := i) (r := lo + i * 1) hf Try.underlying23 (by kernel_rfl) rfl rfl rfl hlt rfl) ?_
    clear hf a; intro a hf
    refine sV hf rfl (ex_load hf rfl (by kernel_rfl) hK0) ?_
    clear hf a; intro a hf
    refine sA hf rfl rfl ?_
    clear hf a; intro a hf
    refine sA hf rfl rfl ?_
    clear hf a; intro a hf
    refine sN ?_
    refine hK19 _ _ ?_
    refine wS fun K20 hK20 => ?_
    refine wR ?_
    refine sM hf rfl rfl ?_
    clear hf a; intro a hf
    refine sV hf rfl (ex_fa (k := 0) (r := 0) hf rfl (by kernel_rfl) rfl) ?_
    clear hf a; intro a hf
    refine sV hf rfl (ex_loadB hf rfl (by kernel_rfl) hB1 rfl) ?_
    clear hf a; intro a hf
    refine st_b hf rfl rfl (fun c hc => ex_eqI hf rfl rfl hc) ?_ ?_
    clear hf a; intro h28 a hf
    refine sM hf rfl rfl ?_
    clear hf a; intro a hf
    refine sM hf rfl rfl ?_
    clear hf a; intro a hf
    refine st_b hf rfl rfl (fun c hc => ex_eqI hf rfl rfl hc) ?_ ?_
    clear hf a; intro h31 a hf
    refine sV hf rfl (ex_pickT hf rfl rfl) ?_
    clear hf a; intro a hf
    rcases Bool.eq_false_or_eq_true (triviaT false ls[i] true) with hbt | hbt
    refine st_c hf rfl rfl rfl (by kernel_rfl) (bool_is (calls_eq (triviaL ls[i] true _ (by omega))) hbt) ?_
    rintro _ w22 ⟨rfl, hx21⟩
    refine ⟨_, rfl, ?_⟩
    clear hf a; intro a hf
    replace hB1 := hB1.c0 hx21
    replace hE := hE.t0 hx21
    refine sV hf rfl (ex_not (c := false) hf rfl rfl) ?_
    clear hf a; intro a hf
    refine sN ?_
    refine hK20 _ _ ?_
    refine cF hf rfl ?_
    refine wp_skip ?_
    refine hK18 _ _ ?_
    refine wR ?_
    refine sV hf rfl (ex_addI hf rfl rfl rfl (by omega)) ?_
    clear hf a; intro a hf
    refine sM hf rfl rfl ?_
    clear hf a; intro a hf
    refine sN ?_
    exact ⟨_, (by omega : ls.length - (i + 1) < ls.length - i), i + 1, hf.pick ⟨rfl, rfl, rfl, rfl, trivial⟩, hE, hB1, by omega, rfl, by rw [← hm, hmm]; simp [h28, h31, hbt]⟩
    refine st_c hf rfl rfl rfl (by kernel_rfl) (bool_is (calls_eq (triviaL ls[i] true _ (by omega))) hbt) ?_
    rintro _ w23 ⟨rfl, hx21⟩
    refine ⟨_, rfl, ?_⟩
    clear hf a; intro a hf
    replace hB1 := hB1.c0 hx21
    replace hE := hE.t0 hx21
    refine sV hf rfl (ex_not (c := true) hf rfl rfl) ?_
    clear hf a; intro a hf
    refine sN ?_
    refine hK20 _ _ ?_
    refine cT hf rfl ?_
    refine wS fun K24 hK24 => ?_
    refine wR ?_
    refine sA hf rfl rfl ?_
    clear hf a; intro a hf
    refine sN ?_
    refine hK24 _ _ ?_
    refine wp_ret ?_
    try simp only [Exit.then, Exit.inBlock]
    exact ret_of (rs := [.tmp 2]) hf rfl ⟨_, _, rfl, rfl, rfl⟩ ⟨ret_b (by rw [leadedT, ← hm, hmm]; simp [h28, h31, hbt]), hE⟩
    clear hf a; intro h31 a hf
    refine sV hf rfl (ex_pickT hf rfl rfl) ?_
    clear hf a; intro a hf
    rcases Bool.eq_false_or_eq_true (triviaT false ls[i] false) with hbt | hbt
    refine st_c hf rfl rfl rfl (by kernel_rfl) (bool_is (calls_eq (triviaL ls[i] false _ (by omega))) hbt) ?_
    rintro _ w26 ⟨rfl, hx25⟩
    refine ⟨_, rfl, ?_⟩
    clear hf a; intro a hf
    replace hB1 := hB1.c0 hx25
    replace hE := hE.t0 hx25
    refine sV hf rfl (ex_not (c := false) hf rfl rfl) ?_
    clear hf a; intro a hf
    refine sN ?_
    refine hK20 _ _ ?_
    refine cF hf rfl ?_
    refine wp_skip ?_
    refine hK18 _ _ ?_
    refine wR ?_
    refine sV hf rfl (ex_addI hf rfl rfl rfl (by omega)) ?_
    clear hf a; intro a hf
    refine sM hf rfl rfl ?_
    clear hf a; intro a hf
    refine sN ?_
    exact ⟨_, (by omega : ls.length - (i + 1) < ls.length - i), i + 1, hf.pick ⟨rfl, rfl, rfl, rfl, trivial⟩, hE, hB1, by omega, rfl, by rw [← hm, hmm]; simp [h28, h31, hbt]⟩
    refine st_c hf rfl rfl rfl (by kernel_rfl) (bool_is (calls_eq (triviaL ls[i] false _ (by omega))) hbt) ?_
    rintro _ w27 ⟨rfl, hx25⟩
    refine ⟨_, rfl, ?_⟩
    clear hf a; intro a hf
    replace hB1 := hB1.c0 hx25
    replace hE := hE.t0 hx25
    refine sV hf rfl (ex_not (c := true) hf rfl rfl) ?_
    clear hf a; intro a hf
    refine sN ?_
    refine hK20 _ _ ?_
    refine cT hf rfl ?_
    refine wS fun K28 hK28 => ?_
    refine wR ?_
    refine sA hf rfl rfl ?_
    clear hf a; intro a hf
    refine sN ?_
    refine hK28 _ _ ?_
    refine wp_ret ?_
    try simp only [Exit.then, Exit.inBlock]
    exact ret_of (rs := [.tmp 2]) hf rfl ⟨_, _, rfl, rfl, rfl⟩ ⟨ret_b (by rw [leadedT, ← hm, hmm]; simp [h28, h31, hbt]), hE⟩
    clear hf a; intro h28 a hf
    refine sM hf rfl rfl ?_
    clear hf a; intro a hf
    refine st_k hf rfl rfl ?_
    clear hf a; intro a hf
    refine st_k hf rfl rfl ?_
    clear hf a; intro a hf
    refine sV hf rfl (ex_pickF hf rfl rfl) ?_
    clear hf a; intro a hf
    rcases Bool.eq_false_or_eq_true (triviaT false ls[i] false) with hbt | hbt
    refine st_c hf rfl rfl rfl (by kernel_rfl) (bool_is (calls_eq (triviaL ls[i] false _ (by omega))) hbt) ?_
    rintro _ w30 ⟨rfl, hx29⟩
    refine ⟨_, rfl, ?_⟩
    clear hf a; intro a hf
    replace hB1 := hB1.c0 hx29
    replace hE := hE.t0 hx29
    refine sV hf rfl (ex_not (c := false) hf rfl rfl) ?_
    clear hf a; intro a hf
    refine sN ?_
    refine hK20 _ _ ?_
    refine cF hf rfl ?_
    refine wp_skip ?_
    refine hK18 _ _ ?_
    refine wR ?_
    refine sV hf rfl (ex_addI hf rfl rfl rfl (by omega)) ?_
    clear hf a; intro a hf
    refine sM hf rfl rfl ?_
    clear hf a; intro a hf
    refine sN ?_
    exact ⟨_, (by omega : ls.length - (i + 1) < ls.length - i), i + 1, hf.pick ⟨rfl, rfl, rfl, rfl, trivial⟩, hE, hB1, by omega, rfl, by rw [← hm, hmm]; simp [h28, hbt]⟩
    refine st_c hf rfl rfl rfl (by kernel_rfl) (bool_is (calls_eq (triviaL ls[i] false _ (by omega))) hbt) ?_
    rintro _ w31 ⟨rfl, hx29⟩
    refine ⟨_, rfl, ?_⟩
    clear hf a; intro a hf
    replace hB1 := hB1.c0 hx29
    replace hE := hE.t0 hx29
    refine sV hf rfl (ex_not (c := true) hf rfl rfl) ?_
    clear hf a; intro a hf
    refine sN ?_
    refine hK20 _ _ ?_
    refine cT hf rfl ?_
    refine wS fun K32 hK32 => ?_
    refine wR ?_
    refine sA hf rfl rfl ?_
    clear hf a; intro a hf
    refine sN ?_
    refine hK32 _ _ ?_
    refine wp_ret ?_
    try simp only [Exit.then, Exit.inBlock]
    exact ret_of (rs := [.tmp 2]) hf rfl ⟨_, _, rfl, rfl, rfl⟩ ⟨ret_b (by rw [leadedT, ← hm, hmm]; simp [h28, hbt]), hE⟩
    have hz : ls.drop i = [] := List.drop_of_length_le (by omega)
    rw [hz, trivsT] at hm
    refine wS fun K33 hK33 => ?_
    refine wR ?_
    refine sV hf rfl (ex_ltI (c := false) hf rfl rfl (by simp; omega)) ?_
    clear hf a; intro a hf
    refine sN ?_
    refine hK33 _ _ ?_
    refine wS fun K34 hK34 => ?_
    refine cF hf rfl ?_
    refine wp_exit ?_
    simp only [Exit.then, Exit.inBlock, ↓reduceIte, Nat.reduceEqDiff]
    refine hK14 _ _ ?_
    refine wS fun K35 hK35 => ?_
    refine wS fun K36 hK36 => ?_
    refine wR ?_
    refine sV hf rfl (ex_fa (k := 3) (r := 3) hf rfl (by kernel_rfl) rfl) ?_
    clear hf a; intro a hf
    refine sV hf rfl (ex_loadB hf rfl (by kernel_rfl) hB1 rfl) ?_
    clear hf a; intro a hf
    refine sV hf rfl (ex_len hf Try.underlying24 rfl) ?_
    clear hf a; intro a hf
    refine sM hf rfl rfl ?_
    clear hf a; intro a hf
    refine sN ?_
    refine hK36 _ _ ?_
    refine wp_block ?_
    refine wp_loop_ghost (fun g a w' => ∃ i, Fr a 47 (fm [(37, .slice B ks.length n), (38, .int .i64 (ks.length : Nat)), (39, .int .i64 (i : Nat))]) ∧ Chg [] w w' ∧ i ≤ ks.length ∧ g = ks.length - i ∧ leadedsT (ks.drop i) = leadedsT ks) _ ⟨0, hf.pick ⟨rfl, rfl, rfl, trivial⟩, hE, Nat.zero_le _, rfl, rfl⟩ ?_
    clear hf a; intro g0 a w' hI
    obtain ⟨i, hf, hE, hi, rfl, hm2⟩ := hI
    by_cases hlt : i < ks.length
    obtain ⟨kb, ko, rfl, _, hkb, hcell⟩ := hrow.2 (by omega)
    obtain ⟨d0, d1, d2, d3, hT, hK⟩ := kid_cells hkids hkb hcell hlt hE
    have on_T := hT.one
    have htt := kbulk_at hlt
    have hts := tsize_at hlt
    have hmm := leadedsT_step hlt
    have lt_kb := hE.lt hkb
    obtain ⟨hi0, ehi0⟩ : ∃ x, x = w'.heap.size := ⟨_, rfl⟩
    replace hT := hT.keepB (S' := fun b => b < hi0) (fun b _ hb => by omega) (fun _ _ _ => rfl)
    refine wS fun K37 hK37 => ?_
    refine wR ?_
    refine sV hf rfl (ex_ltI (c := true) hf rfl rfl (by simp; omega)) ?_
    clear hf a; intro a hf
    refine sN ?_
    refine hK37 _ _ ?_
    refine wS fun K38 hK38 => ?_
    refine cT hf rfl ?_
    refine wp_skip ?_
    refine hK38 _ _ ?_
    refine wS fun K39 hK39 => ?_
    refine wp_block ?_
    refine wS fun K40 hK40 => ?_
    refine wR ?_
    refine sV hf rfl (ex_index (sz := 4) (k := i) (r := ko + i * 4) hf Try.underlying24 (by kernel_rfl) rfl rfl rfl hlt rfl) ?_
    clear hf a; intro a hf
    refine sV hf rfl (ex_loadN (cs := [d0, d1, d2, d3]) (m := 4) hf rfl (by kernel_rfl) rfl hK) ?_
    clear hf a; intro a hf
    obtain ⟨w41, b42, he, hB43, hx44, eb45, lb46⟩ := eT a w' 0
    refine sV hf rfl he ?_
    clear he hf a; intro a hf
    have ge_b42 := ge_new hE eb45
    have tb_b42 : hi0 ≤ b42 := by omega
    replace hT := hT.chg hx44 (fun b hb hlt2 => nm0)
    replace hE := hE.t0 hx44
    clear eb45 lb46
    obtain ⟨w47, he, hB48, hx49⟩ := eN (.tmp 6) (.tmp 42) hf rfl rfl rfl on_T hB43 rfl 0
    refine st_s hf rfl rfl he ?_
    clear he hf a; intro a hf
    replace hT := hT.chg hx49 (fun b hb hlt2 => (nmc (by omega) nm0))
    replace hE := hE.trans hx49 (allc (.inr ge_b42) all0)
    clear hB43
    refine sN ?_
    refine hK40 _ _ ?_
    refine wS fun K50 hK50 => ?_
    refine wR ?_
    refine sV hf rfl (ex_loadBN (m := 4) hf rfl (by kernel_rfl) hB48 rfl) ?_
    clear hf a; intro a hf
    rcases Bool.eq_false_or_eq_true (leadedT ks[i]) with hbk | hbk
    refine st_c hf rfl rfl rfl (by kernel_rfl) (bool_is (ih _ _ _ _ _ _ _ (by omega) (by omega) hT) hbk) ?_
    rintro _ w52 ⟨rfl, hx51⟩
    refine ⟨_, rfl, ?_⟩
    clear hf a; intro a hf
    replace hB48 := hB48.c0 hx51
    replace hT := hT.chg hx51 (fun b hb hlt2 => nm0)
    replace hE := hE.t0 hx51
    refine sV hf rfl (ex_not (c := false) hf rfl rfl) ?_
    clear hf a; intro a hf
    refine sN ?_
    refine hK50 _ _ ?_
    refine cF hf rfl ?_
    refine wp_skip ?_
    refine hK39 _ _ ?_
    refine wR ?_
    refine sV hf rfl (ex_addI hf rfl rfl rfl (by omega)) ?_
    clear hf a; intro a hf
    refine sM hf rfl rfl ?_
    clear hf a; intro a hf
    refine sN ?_
    exact ⟨_, (by omega : ks.length - (i + 1) < ks.length - i), i + 1, hf.pick ⟨rfl, rfl, rfl, trivial⟩, hE, by omega, rfl, by rw [← hm2, hmm, hbk]; rfl⟩
    refine st_c hf rfl rfl rfl (by kernel_rfl) (bool_is (ih _ _ _ _ _ _ _ (by omega) (by omega) hT) hbk) ?_
    rintro _ w53 ⟨rfl, hx51⟩
    refine ⟨_, rfl, ?_⟩
    clear hf a; intro a hf
    replace hB48 := hB48.c0 hx51
    replace hT := hT.chg hx51 (fun b hb hlt2 => nm0)
    replace hE := hE.t0 hx51
    refine sV hf rfl (ex_not (c := true) hf rfl rfl) ?_
    clear hf a; intro a hf
    refine sN ?_
    refine hK50 _ _ ?_
    refine cT hf rfl ?_
    refine wS fun K54 hK54 => ?_
    refine wR ?_
    refine sA hf rfl rfl ?_
    clear hf a; intro a hf
    refine sN ?_
    refine hK54 _ _ ?_
    refine wp_ret ?_
    try simp only [Exit.then, Exit.inBlock]
    exact ret_of (rs := [.tmp 2]) hf rfl ⟨_, _, rfl, rfl, rfl⟩ ⟨ret_b (by rw [leadedT, ← hm2, hmm, hbk]; simp), hE⟩
    have hz : ks.drop i = [] := List.drop_of_length_le (by omega)
    rw [hz, leadedsT] at hm2
    refine wS fun K55 hK55 => ?_
    refine wR ?_
    refine sV hf rfl (ex_ltI (c := false) hf rfl rfl (by simp; omega)) ?_
    clear hf a; intro a hf
    refine sN ?_
    refine hK55 _ _ ?_
    refine wS fun K56 hK56 => ?_
    refine cF hf rfl ?_
    refine wp_exit ?_
    simp only [Exit.then, Exit.inBlock, ↓reduceIte, Nat.reduceEqDiff]
    refine hK35 _ _ ?_
    refine wS fun K57 hK57 => ?_
    refine wR ?_
    refine sA hf rfl rfl ?_
    clear hf a; intro a hf
    refine sN ?_
    refine hK57 _ _ ?_
    refine wp_ret ?_
    try simp only [Exit.then, Exit.inBlock]
    exact ret_of (rs := [.tmp 2]) hf rfl ⟨_, _, rfl, rfl, rfl⟩ ⟨ret_b (by rw [leadedT, ← hm, ← hm2]; simp [hne]), hE⟩
  · skip
    refine enter_fr 47 Try.func32 rfl rfl rfl ?_
    intro a hf
    have hE := Chg.refl [] w
    refine wS fun K1 hK1 => wR ?_
    obtain ⟨w2, b3, he, hB4, hx5, eb6, lb7⟩ := ef_box (P := Try.prog) (t := 26) (x := (.tmp 0)) hf rfl rfl w 0
    refine sV hf rfl he fun a hf => ?_
    have ge_b3 := ge_new hE eb6
    replace hE := hE.t0 hx5
    clear eb6 lb7
    refine sA hf rfl rfl fun a hf => sN <| hK1 _ _ <| wS fun K8 hK8 => wS fun K9 hK9 => ?_
    have s_hB4 := hB4
    refine dl_start (fun x => x.cell? ⟨b3, 2, none⟩ = w2.cell? ⟨b3, 2, none⟩ ∧ x.cell? ⟨b3, 0, none⟩ = w2.cell? ⟨b3, 0, none⟩ ∧ x.cell? ⟨b3, 3, none⟩ = w2.cell? ⟨b3, 3, none⟩) 10 10 rfl (by kernel_rfl) (by kernel_rfl) ?_
    intro w10 hx11 hsel
    replace hB4 := hB4.c0 hx11
    replace hE := hE.t0 hx11
    have hS0 : w10.cell? ⟨b3, 2, none⟩ = w2.cell? ⟨b3, 2, none⟩ ∧ w10.cell? ⟨b3, 0, none⟩ = w2.cell? ⟨b3, 0, none⟩ ∧ w10.cell? ⟨b3, 3, none⟩ = w2.cell? ⟨b3, 3, none⟩ := ⟨(hB4.cell 2).trans (s_hB4.cell 2).symm, (hB4.cell 0).trans (s_hB4.cell 0).symm, (hB4.cell 3).trans (s_hB4.cell 3).symm⟩
    refine dV 0 rfl rfl hsel (by kernel_rfl) hf rfl (.inl hS0) (fun x => ex_fa (k := 2) (r := 2) hf rfl (by kernel_rfl) rfl) fun a hf => dL 1 rfl rfl hsel (by kernel_rfl) hf rfl hS0 (fun x hS => ex_load hf rfl (by kernel_rfl) (hS.1.trans ((s_hB4.cell 2).trans rfl))) fun a hf => dV 2 rfl rfl hsel (by kernel_rfl) hf rfl (.inl hS0) (fun x => ex_len hf Try.underlying23 rfl) fun a hf => dV 3 rfl rfl hsel (by kernel_rfl) hf rfl (.inl hS0) (fun x => ex_fa (k := 0) (r := 0) hf rfl (by kernel_rfl) rfl) fun a hf => dL 4 rfl rfl hsel (by kernel_rfl) hf rfl hS0 (fun x hS => ex_load hf rfl (by kernel_rfl) (hS.2.1.trans ((s_hB4.cell 0).trans rfl))) fun a hf => dV 5 rfl rfl hsel (by kernel_rfl) hf rfl (.inl hS0) (fun x => ex_fa (k := 3) (r := 3) hf rfl (by kernel_rfl) rfl) fun a hf => dL 6 rfl rfl hsel (by kernel_rfl) hf rfl hS0 (fun x hS => ex_load hf rfl (by kernel_rfl) (hS.2.2.trans ((s_hB4.cell 3).trans rfl))) fun a hf => dV 7 rfl rfl hsel (by kernel_rfl) hf rfl (.inl hS0) (fun x => ex_len hf Try.underlying24 rfl) fun a hf => dl_c 8 (by kernel_rfl) rfl hf rfl rfl rfl (by kernel_rfl) (leadsL (by omega)) ?_
    rintro _ w13 ⟨rfl, hx12⟩
    refine ⟨_, rfl, fun a hf => ?_⟩
    replace hB4 := hB4.c0 hx12
    replace hE := hE.t0 hx12
    clear hS0
    have hS0 : w13.cell? ⟨b3, 2, none⟩ = w2.cell? ⟨b3, 2, none⟩ ∧ w13.cell? ⟨b3, 0, none⟩ = w2.cell? ⟨b3, 0, none⟩ ∧ w13.cell? ⟨b3, 3, none⟩ = w2.cell? ⟨b3, 3, none⟩ := ⟨(hB4.cell 2).trans (s_hB4.cell 2).symm, (hB4.cell 0).trans (s_hB4.cell 0).symm, (hB4.cell 3).trans (s_hB4.cell 3).symm⟩
    refine ⟨.inl hS0, ?_⟩
    refine dV 9 rfl rfl hsel (by kernel_rfl) hf rfl (.inl hS0) (fun x => ex_neI (c := true) hf rfl rfl (by simp [hne])) fun a hf => dl_done (by kernel_rfl) ?_
    clear hS0 hsel
    refine hK9 _ _ <| cT hf rfl <| wS fun K14 hK14 => wR <| sA hf rfl rfl fun a hf => sN <| hK14 _ _ <| wp_ret ?_
    try simp only [Exit.then, Exit.inBlock]
    exact ret_of (rs := [.tmp 2]) hf rfl ⟨_, _, rfl, rfl, rfl⟩ ⟨ret_b (by rw [leadedT]; simp [hne]), hE⟩
theorem leadedL : ∀ N, LeadedOk N
  | 0 => fun t _ _ _ _ _ _ hN => by cases t; simp only [tsize] at hN; omega
  | N + 1 => leaded_step (leadedL N)
end Go.Proofs.Ythpjpngfghcmcaa
namespace Go.Proofs.Ythpjpngfghcmcaa
open Go.RowKit
set_option maxRecDepth 100000
def BdV (T Bs b : Nat) (p v : Value) (tl : List Value) (l : List UInt8) (w : World) : Prop :=
  Bs ≤ b ∧ w.heap[b]? = some (.cells (p :: v :: tl).toArray T (0, 0)) ∧ w.ownsRow Bs 5 1 v l.length (Lib.byteCells l)
def Bd (T Bs b : Nat) (tl : List Value) (l : List UInt8) (w : World) : Prop :=
  ∃ p v, (p = .pointer none ∨ p = .pointer (some ⟨b, 0, none⟩)) ∧ BdV T Bs b p v tl l w
def FrB (b : Nat) (w w' : World) : Prop :=
  w.heap.size ≤ w'.heap.size ∧ ∀ k, k < w.heap.size → k ≠ b → (∀ cs fr, w.heap[k]? ≠ some (.cells cs 5 fr)) → w'.heap[k]? = w.heap[k]?
theorem FrB.refl (b : Nat) (w : World) : FrB b w w := ⟨Nat.le_refl _, fun _ _ _ _ => rfl⟩
theorem FrB.trans {b : Nat} {w w1 w2 : World} (h : FrB b w w1) (k : FrB b w1 w2) : FrB b w w2 :=
  ⟨Nat.le_trans h.1 k.1, fun i hi hb hn => by
    have e := h.2 i hi hb hn
    rw [k.2 i (Nat.lt_of_lt_of_le hi h.1) hb (by rw [e]; exact hn), e]⟩
theorem FrB.keep {b : Nat} {w w' : World} (h : FrB b w w') {k : Nat} {cs : Array Value} {T : TypeId} {fr : Nat × Nat} (hk : w.heap[k]? = some (.cells cs T fr)) (hT : T ≠ 5) (hb : k ≠ b) : w'.heap[k]? = some (.cells cs T fr) := by
  have hlt : k < w.heap.size := by
    rcases Nat.lt_or_ge k w.heap.size with h' | h'
    · exact h'
    · simp [Array.getElem?_eq_none h'] at hk
  rw [h.2 k hlt hb (fun cs' fr' e => hT (by rw [hk] at e; simp at e; exact e.2.1)), hk]
theorem heap_lt {w : World} {b : Nat} {o : Obj} (h : w.heap[b]? = some o) : b < w.heap.size := by
  rcases Nat.lt_or_ge b w.heap.size with h' | h'
  · exact h'
  · simp [Array.getElem?_eq_none h'] at h
theorem bdInfo : (Try.prog.info? 78).map (·.size) = some 2 := by kernel_rfl
theorem byteInfo : (Try.prog.info? 5).map (fun i => (i.zero, i.size, i.bytes)) = some (some (.int .u8 0), 1, 1) := by kernel_rfl
theorem cellsByte : Try.prog.cellsOf 5 = 1 := by kernel_rfl
def HeadB (T : TypeId) (n : Nat) : Prop := T ≠ 5 ∧ liesAt Try.prog Try.prog.depth T ((n + 2) / Try.prog.cellsOf T) 0 78 1 = true
set_option maxHeartbeats 1000000 in
set_option maxRecDepth 100000 in
theorem copyCheck_used (b : Nat) (w : World) (h0 : w.cell? ⟨b, 0, none⟩ = some (.pointer (some ⟨b, 0, none⟩))) :
    Calls Try.prog 122 #[.pointer (some ⟨b, 0, none⟩)] w fun e w' => e = .returned (.tuple #[]) ∧ w = w' := by
  obtain ⟨j, hj, _⟩ := Option.map_eq_some_iff.1 bdInfo
  go_enter Try.func122, Try.ntmps122
  go_wp2
  rw [Lib.run_neq_ptr_same w _ Try.underlying75 hj]
  go_wp2
  go_end0
  exact ⟨rfl, rfl⟩
set_option maxHeartbeats 1000000 in
set_option maxRecDepth 100000 in
theorem copyCheck_fresh (T n b : Nat) (w : World) (hT : HeadB T n) (h0 : w.cell? ⟨b, 0, none⟩ = some (.pointer none)) (hsh : w.shape? b = some (T, n + 2)) (hfz : w.frozen? ⟨b, 0, none⟩ = false) :
    Calls Try.prog 122 #[.pointer (some ⟨b, 0, none⟩)] w fun e w' => e = .returned (.tuple #[]) ∧ w' = w.setCell ⟨b, 0, none⟩ (.pointer (some ⟨b, 0, none⟩)) := by
  obtain ⟨j, hj, hjs⟩ := Option.map_eq_some_iff.1 bdInfo
  have HT := Lib.hid hT; clear hT
  go_enter Try.func122, Try.ntmps122
  go_wp2
  rw [Lib.run_to_unsafe w ⟨b, 0, none⟩ Try.underlying75 Try.underlying109 hj (by rw [hjs]; decide) hsh (Nat.succ_pos _)]
  simp only [Result.andThen]
  rw [Oper.upon_value]
  go_wp2
  rw [run_callFunc_extern Try.func127 (by kernel_rfl) (by kernel_rfl) (by kernel_rfl) (e := Extern.AbiNoEscape.same) (by kernel_rfl)]
  rw [Lib.run_noEscape]
  simp only [Result.andThen]
  rw [Oper.upon_value]
  go_wp2
  rw [Lib.run_from_unsafe w ⟨b, 0, none⟩ Try.underlying109 Try.underlying75 hj hsh HT.out.2]
  simp only [Result.andThen]
  rw [Oper.upon_value]
  go_wp2
  go_end0
  exact ⟨rfl, rfl⟩
theorem copyCheck (T Bs b : Nat) (tl : List Value) (l : List UInt8) (w : World) (hT : HeadB T tl.length) (h : Bd T Bs b tl l w) :
    Calls Try.prog 122 #[.pointer (some ⟨b, 0, none⟩)] w fun e w' => e = .returned (.tuple #[]) ∧ ((∃ v, BdV T Bs b (.pointer (some ⟨b, 0, none⟩)) v tl l w') ∧ FrB b w w' ∧ Below Bs w w') := by
  obtain ⟨p, v, hp, hB, hbk, hown⟩ := h
  have hc0 : w.cell? ⟨b, 0, none⟩ = some p := by rw [Lib.cell_of_heap hbk]; rfl
  have hne : v.ownBlock ≠ some b := Lib.ownBlock_ne hown hbk hT.1
  rcases hp with rfl | rfl
  · refine (copyCheck_fresh T tl.length b w hT hc0 (by simp [World.shape?, hbk]) (Lib.frozen_of_heap hbk 0)).mono ?_
    rintro e w' ⟨rfl, rfl⟩
    refine ⟨rfl, ⟨v, hB, ?_, ?_⟩, ⟨by simp [World.setCell], fun k _ hk _ => Below.heap_setCell _ _ _ _ hk⟩, (Below.refl Bs w).setCell (p := ⟨b, 0, none⟩) hB _⟩
    · simp [World.setCell, Array.getElem?_modify, hbk]
    · exact hown.kept (row := some b) ⟨rfl, rfl, rfl, by simp [World.setCell], fun k _ hk => Below.heap_setCell _ _ _ _ (fun e => hk (by simp [e]))⟩ (Or.inr hne)
  · refine (copyCheck_used b w hc0).mono ?_
    rintro e w' ⟨rfl, rfl⟩
    exact ⟨rfl, ⟨v, hB, hbk, hown⟩, FrB.refl _ _, Below.refl _ _⟩
set_option maxHeartbeats 2000000 in
set_option maxRecDepth 100000 in
theorem writeString (T Bs b : Nat) (tl : List Value) (l s : List UInt8) (w : World) (hT : HeadB T tl.length) (h : Bd T Bs b tl l w) (hlen : l.length + s.length ≤ 140737488355328) (hBw : Bs ≤ w.heap.size) :
    Calls Try.prog 114 #[.pointer (some ⟨b, 0, none⟩), .string ⟨s.toArray⟩] w fun e w' => e = .returned (.tuple #[.int .i64 s.length, .nilIface]) ∧ (Bd T Bs b tl (l ++ s) w' ∧ FrB b w w' ∧ Below Bs w w') := by
  obtain ⟨i0, hi, hz0, hz1, hz2⟩ := info_parts' byteInfo
  have HT := Lib.hid hT; clear hT
  go_enter Try.func114, Try.ntmps114
  go_wp2_with (go_at_call 122; refine (copyCheck T Bs b tl l _ HT.out h).mono ?_)
  rintro e w1 ⟨rfl, ⟨v, hB, hbk, hown⟩, hfr, hb1⟩
  have hne : v.ownBlock ≠ some b := Lib.ownBlock_ne hown hbk HT.out.1
  have HBk := Lib.hid hbk
  have HFr := Lib.hid hfr; clear hfr h
  have c1 : w1.cell? ⟨b, 1, none⟩ = some v := by rw [Lib.cell_of_heap hbk]; rfl
  have hs1 := hb1.size
  have HB1 := Lib.hid hb1; clear hb1 hbk
  go_wp2_with (at_builtin; refine Lib.wpList_append_own_string _ rfl _ _ 76 9 rfl Bs 5 i0 Try.underlying76 Try.underlying9 hi hz0 hz1 hz2 _ _ _ rfl hown ⟨s.toArray⟩ rfl ?c3 ?c4 ?c5 ?_)
  case c3 => unfold maxLen; simp only [List.size_toArray, ByteArray.size]; omega
  case c4 => simp only [List.size_toArray, ByteArray.size]; omega
  case c5 => omega
  intro v' w2 hown' hgrow _
  have hlt : b < w1.heap.size := heap_lt HBk.out
  have hb2 : w2.heap[b]? = some (.cells (.pointer (some ⟨b, 0, none⟩) :: v :: tl).toArray T (0, 0)) := by
    rw [hgrow.block b hlt (fun e => hne e.symm)]
    exact HBk.out
  have d1 : w2.cell? ⟨b, 1, none⟩ = some v := by rw [Lib.cell_of_heap hb2]; rfl
  have f1 : w2.frozen? ⟨b, 1, none⟩ = false := Lib.frozen_of_heap hb2 1
  have hown2 : w2.ownsRow Bs 5 1 v' (l ++ s).length (Lib.byteCells (l ++ s)) := by
    have e1 : Lib.byteCells (l ++ s) = Lib.byteCells l ++ Lib.strCells ⟨s.toArray⟩ := by simp [Lib.byteCells, Lib.strCells]
    rw [e1, List.length_append]; exact hown'
  obtain ⟨ao, n', cap, hv'⟩ : ∃ ao n' cap, v' = .slice ao n' cap := by
    rcases hown'.2 with ⟨hv, _⟩ | ⟨g, cap, cur, hv, _⟩
    · exact ⟨_, _, _, hv⟩
    · exact ⟨_, _, _, hv⟩
  subst hv'
  have hne2 := Lib.ownBlock_ne hown2 hb2 HT.out.1
  have HG := Lib.hid hgrow
  have HO := Lib.hid hown
  have HO2 := Lib.hid hown2
  have HB2 := Lib.hid hb2
  clear hgrow hown hown' hown2 hb2
  go_wp2
  go_ret2
  refine ⟨by simp, ⟨_, .slice ao n' cap, .inr rfl, hB, ?_, ?_⟩, ?_, ?_⟩
  · simp [World.setCell, Array.getElem?_modify, HB2.out]
  · exact HO2.out.kept (row := some b) ⟨rfl, rfl, rfl, by simp [World.setCell], fun k _ hk => Below.heap_setCell _ _ _ _ (fun e => hk (by simp [e]))⟩ (Or.inr hne2)
  · refine HFr.out.trans ⟨by simp [World.setCell]; exact HG.out.size, fun k hk hkb hn => ?_⟩
    rw [Below.heap_setCell _ _ _ _ hkb, HG.out.block k hk (fun e => ?_)]
    rcases HO.out.2 with ⟨hv, _⟩ | ⟨g, cap, cur, hv, _, hg, _⟩
    · rw [hv] at e; simp [Value.ownBlock] at e
    · rw [hv] at e
      simp only [Value.ownBlock, Option.some.injEq] at e
      subst e
      exact hn _ _ hg
  · exact (HB1.out.grown HG.out (by omega) (fun k hk => (HO.out.lt k hk).1)).setCell (p := ⟨b, 1, none⟩) hB _
theorem unsafeString_none (W : World) (q : Option Addr) : (Builtin.unsafeString_ #[97, 3] 9 #[.pointer q, .int .i64 0]).run Try.prog W = .ok (.string .empty) W :=
  Lib.run_unsafeString_none W _ _ _ q
set_option maxHeartbeats 2000000 in
set_option maxRecDepth 100000 in
theorem builderString (T Bs b : Nat) (tl : List Value) (l : List UInt8) (w : World) (h : Bd T Bs b tl l w) (hBw : Bs ≤ w.heap.size) :
    Calls Try.prog 62 #[.pointer (some ⟨b, 0, none⟩)] w fun e w' => e = .returned (.string ⟨l.toArray⟩) ∧ Below Bs w w' := by
  obtain ⟨p, v, hp, hB, hbk, hown⟩ := h
  have hlt : b < w.heap.size := heap_lt hbk
  clear hp
  by_cases h0 : l = []
  · subst h0
    have hUS := unsafeString_none
    rcases hown.2 with ⟨rfl, _⟩ | ⟨g, cap, cur, rfl, hbg, hg, _⟩
    · have c1 : w.drew.cell? ⟨b, 1, none⟩ = some (.slice none 0 0) := by
        have : w.drew.heap[b]? = some (.cells (p :: .slice none 0 0 :: tl).toArray T (0, 0)) := hbk
        rw [Lib.cell_of_heap this]; rfl
      have hSD : (Builtin.unsafeSliceData_ #[76] 97 #[.slice none 0 0]).run Try.prog w.drew = .ok (.pointer none) w.drew := rfl
      clear hbk hown
      go_enter Try.func62, Try.ntmps62
      go_wp2
      go_region
      all_goals (go_wp2; go_ret; exact ⟨rfl, Below.drew (Below.refl Bs w)⟩)
    · by_cases hc0 : cap = 0
      · subst hc0
        have c1 : w.drew.cell? ⟨b, 1, none⟩ = some (.slice (some ⟨g, 0, none⟩) 0 0) := by
          have : w.drew.heap[b]? = some (.cells (p :: .slice (some ⟨g, 0, none⟩) 0 0 :: tl).toArray T (0, 0)) := hbk
          rw [Lib.cell_of_heap this]; rfl
        have hSD : (Builtin.unsafeSliceData_ #[76] 97 #[.slice (some ⟨g, 0, none⟩) 0 0]).run Try.prog w.drew = .ok (.pointer (some ⟨w.drew.heap.size, 0, none⟩)) (w.drew.alloc (.view ⟨g, 0, none⟩ 5)) :=
          Lib.run_unsafeSliceData_zero w.drew _ _ 5 Try.underlying97 ⟨g, 0, none⟩ 0 (5, cur.size) (by have hg' : w.drew.heap[g]? = some (.cells cur 5 (0, 0)) := hg; simp [World.shape?, hg'])
        have c2 : (w.drew.alloc (.view ⟨g, 0, none⟩ 5)).cell? ⟨b, 1, none⟩ = some (.slice (some ⟨g, 0, none⟩) 0 0) := by
          have : (w.drew.alloc (.view ⟨g, 0, none⟩ 5)).heap[b]? = _ := (Below.heap_alloc w.drew _ b hlt).trans hbk
          rw [Lib.cell_of_heap this]; rfl
        have c3 : (w.alloc (.view ⟨g, 0, none⟩ 5)).drew.cell? ⟨b, 1, none⟩ = some (.slice (some ⟨g, 0, none⟩) 0 0) := c2
        have c0 : w.cell? ⟨b, 1, none⟩ = some (.slice (some ⟨g, 0, none⟩) 0 0) := c1
        clear hbk hown hg
        go_enter Try.func62, Try.ntmps62
        go_wp2
        go_region
        all_goals (go_wp2; go_ret; exact ⟨rfl, (Below.drew (Below.refl Bs w)).alloc hBw _⟩)
      · have c1 : w.drew.cell? ⟨b, 1, none⟩ = some (.slice (some ⟨g, 0, none⟩) 0 cap) := by
          have : w.drew.heap[b]? = some (.cells (p :: .slice (some ⟨g, 0, none⟩) 0 cap :: tl).toArray T (0, 0)) := hbk
          rw [Lib.cell_of_heap this]; rfl
        have hSD : (Builtin.unsafeSliceData_ #[76] 97 #[.slice (some ⟨g, 0, none⟩) 0 cap]).run Try.prog w.drew = .ok (.pointer (some ⟨g, 0, none⟩)) w.drew :=
          Lib.run_unsafeSliceData_row _ _ _ _ _ _ hc0
        clear hbk hown hg hc0
        go_enter Try.func62, Try.ntmps62
        go_wp2
        go_region
        all_goals (go_wp2; go_ret; exact ⟨rfl, Below.drew (Below.refl Bs w)⟩)
  · have hl0 : l.length ≠ 0 := by simpa using h0
    obtain ⟨g, cap, cur, rfl, hbg, hg, hnc, hcm, hcs, htake⟩ : ∃ g cap cur, v = .slice (some ⟨g, 0, none⟩) l.length cap ∧ Bs ≤ g ∧ w.heap[g]? = some (.cells cur 5 (0, 0)) ∧ l.length ≤ cap ∧ cap ≤ maxLen ∧ cur.size = cap * 1 ∧ cur.toList.take (l.length * 1) = Lib.byteCells l := by
      rcases hown.2 with ⟨_, hz⟩ | ⟨g, cap, cur, hv, r⟩
      · exact absurd hz hl0
      · exact ⟨g, cap, cur, hv, r⟩
    have c1 : w.drew.cell? ⟨b, 1, none⟩ = some (.slice (some ⟨g, 0, none⟩) l.length cap) := by
      have : w.drew.heap[b]? = some (.cells (p :: .slice (some ⟨g, 0, none⟩) l.length cap :: tl).toArray T (0, 0)) := hbk
      rw [Lib.cell_of_heap this]; rfl
    have hSD : (Builtin.unsafeSliceData_ #[76] 97 #[.slice (some ⟨g, 0, none⟩) l.length cap]).run Try.prog w.drew = .ok (.pointer (some ⟨g, 0, none⟩)) w.drew :=
      Lib.run_unsafeSliceData_row _ _ _ _ _ _ (by omega)
    have hUS : (Builtin.unsafeString_ #[97, 3] 9 #[.pointer (some ⟨g, 0, none⟩), .int .i64 l.length]).run Try.prog w.drew = .ok (.string ⟨l.toArray⟩) (w.drew.freeze ⟨g, 0, none⟩ l.length) := by
      refine Lib.run_unsafeString_row w.drew 97 3 9 5 Try.underlying97 cellsByte g cur.size (by have hg' : w.drew.heap[g]? = some (.cells cur 5 (0, 0)) := hg; simp [World.shape?, hg']) l h0 (by omega) (by unfold maxLen at hcm; omega) ?_
      intro j x hx
      have := hown.cells (g := g) rfl j (.int .u8 x.toNat) (by simp [Lib.byteCells, hx])
      exact this
    clear hbk hown hg htake hcs
    go_enter Try.func62, Try.ntmps62
    go_wp2
    go_region
    all_goals (go_wp2; go_ret; exact ⟨rfl, Lib.below_freeze (Below.drew (Below.refl Bs w)) (p := ⟨g, 0, none⟩) hbg _⟩)
end Go.Proofs.Ythpjpngfghcmcaa
namespace Go.Proofs.Ythpjpngfghcmcaa
open Go.RowKit Lx Sx
set_option maxRecDepth 100000
set_option maxHeartbeats 4000000
def isByteB (w : World) (k : Nat) : Bool := match w.heap[k]? with | some (.cells _ t _) => t == 5 | _ => false
def prX (Bs b : Nat) (w : World) : List Nat := (List.range w.heap.size).filter fun k => decide (Bs ≤ k) && (k == b || isByteB w k)
structure Prn (Bs b : Nat) (w w' : World) : Prop where
  base : Bs ≤ w.heap.size
  below : Below Bs w w'
  fr : FrB b w w'
theorem isByteB_of {w : World} {k : Nat} (h : isByteB w k = false) (cs : Array Value) (fr : Nat × Nat) : w.heap[k]? ≠ some (.cells cs 5 fr) := by
  intro e; simp [isByteB, e] at h
theorem isByteB_no {w : World} {k : Nat} (h : ∀ cs fr, w.heap[k]? ≠ some (.cells cs 5 fr)) : isByteB w k = false := by
  unfold isByteB
  split
  · rename_i cs t fr e
    rw [beq_eq_false_iff_ne]; rintro rfl; exact h _ _ e
  · rfl
theorem mem_prX {Bs b : Nat} {w : World} {k : Nat} : k ∈ prX Bs b w ↔ k < w.heap.size ∧ Bs ≤ k ∧ (k = b ∨ isByteB w k = true) := by
  simp [prX]
theorem Prn.chg {Bs b : Nat} {w w' : World} (h : Prn Bs b w w') : Chg (prX Bs b w) w w' :=
  ⟨h.below.os, h.below.tape, h.below.output, h.below.size, fun k hk hX => by
    rcases Nat.lt_or_ge k Bs with hB | hB
    · exact h.below.block k hB
    · have hn : ¬ (k = b ∨ isByteB w k = true) := fun hc => hX (mem_prX.2 ⟨hk, hB, hc⟩)
      refine h.fr.2 k hk (fun e => hn (.inl e)) (isByteB_of ?_)
      cases hb : isByteB w k
      · rfl
      · exact absurd (.inr hb) hn⟩
theorem Prn.refl {Bs b : Nat} {w : World} (h : Bs ≤ w.heap.size) : Prn Bs b w w := ⟨h, Below.refl _ _, FrB.refl _ _⟩
theorem Prn.trans {Bs b : Nat} {w w1 w2 : World} {X : List Nat} (h : Prn Bs b w w1) (k : Chg X w1 w2) (hX : ∀ x, x ∈ X → x ∈ prX Bs b w1 ∨ w.heap.size ≤ x) : Prn Bs b w w2 :=
  ⟨h.base, ⟨k.os.trans h.below.os, k.tape.trans h.below.tape, k.output.trans h.below.output, Nat.le_trans h.below.size k.size, fun i hi => by
      have hlt : i < w.heap.size := Nat.lt_of_lt_of_le hi h.base
      rw [k.block i (Nat.lt_of_lt_of_le hlt h.below.size) (fun hc => ?_), h.below.block i hi]
      rcases hX i hc with h1 | h1
      · have := (mem_prX.1 h1).2.1; omega
      · omega⟩, ⟨Nat.le_trans h.fr.1 k.size, fun i hi hb hn => by
      have e := h.fr.2 i hi hb hn
      rw [k.block i (Nat.lt_of_lt_of_le hi h.fr.1) (fun hc => ?_), e]
      rcases hX i hc with h1 | h1
      · rcases (mem_prX.1 h1).2.2 with h2 | h2
        · exact hb h2
        · rw [isByteB_no (by rw [e]; exact hn)] at h2; cases h2
      · omega⟩⟩
theorem Prn.ge_new {Bs b : Nat} {w w1 : World} {c : Nat} (h : Prn Bs b w w1) (e : c = w1.heap.size) : w.heap.size ≤ c := e ▸ h.below.size
theorem nm_low {Bs b : Nat} {w : World} {k : Nat} (h : k < Bs) : k ∉ prX Bs b w := fun hc => by have := (mem_prX.1 hc).2.1; omega
theorem nm_blk {Bs b : Nat} {w : World} {k : Nat} {t : TypeId} {cs : List Value} (h : Blk w k t cs) (ht : (t == 5) = false) (hk : k ≠ b) : k ∉ prX Bs b w := fun hc => by
  rcases (mem_prX.1 hc).2.2 with h2 | h2
  · exact hk h2
  · unfold Blk at h; rw [isByteB, h] at h2; simp only [ht] at h2; cases h2
end Go.Proofs.Ythpjpngfghcmcaa
namespace Go.Proofs.Ythpjpngfghcmcaa
theorem Prn.t0 {Bs b : Nat} {w w1 w2 : World} (h : Prn Bs b w w1) (k : Chg [] w1 w2) : Prn Bs b w w2 := h.trans k all0
end Go.Proofs.Ythpjpngfghcmcaa
namespace Go.Proofs.Ythpjpngfghcmcaa
open Go.RowKit Lx Sx
set_option maxRecDepth 100000
set_option maxHeartbeats 4000000
theorem headP : HeadB 80 1 := ⟨by decide, by kernel_rfl⟩
abbrev Pr (Bs b : Nat) (x l : List UInt8) (w : World) : Prop := Bd 80 Bs b [strV x] l w
theorem Pr.chg0 {Bs b : Nat} {x l : List UInt8} {w w' : World} (h : Pr Bs b x l w) (hx : Chg [] w w') : Pr Bs b x l w' := by
  obtain ⟨p, v, hp, hB, hbk, hown⟩ := h
  exact ⟨p, v, hp, hB, (show Blk w b _ [p, v, strV x] from hbk).chg hx nm0, own_chg hown hx (fun _ _ => nm0)⟩
theorem Pr.open_ {Bs b : Nat} {x l : List UInt8} {w : World} (h : Pr Bs b x l w) : ∃ p v, Blk w b 80 [p, v, strV x] ∧ Bs ≤ b ∧ ∀ y w', Blk w' b 80 [p, v, strV y] → Chg [b] w w' → Pr Bs b y l w' := by
  obtain ⟨p, v, hp, hB, hbk, hown⟩ := h
  have hne : v.ownBlock ≠ some b := Lib.ownBlock_ne hown hbk headP.1
  exact ⟨p, v, hbk, hB, fun y w' hb hx => ⟨p, v, hp, hB, hb, own_chg hown hx (fun g hg => nmc (fun e => hne (e ▸ hg)) nm0)⟩⟩
theorem wsL {Bs b : Nat} {x l s : List UInt8} {w : World} (h : Pr Bs b x l w) (hlen : l.length + s.length ≤ 140737488355328) (hBw : Bs ≤ w.heap.size) :
    Calls Try.prog 114 [.pointer (some ⟨b, 0, none⟩), strV s].toArray w fun e w' => e = .returned (.tuple #[.int .i64 s.length, .nilIface]) ∧ Pr Bs b x (l ++ s) w' ∧ Chg (prX Bs b w) w w' ∧ Bs ≤ w'.heap.size :=
  (writeString _ Bs b [strV x] l s w headP h hlen hBw).mono fun _ _ ⟨e, h1, h2, h3⟩ => ⟨e, h1, (Prn.mk hBw h3 h2).chg, nlt hBw h3.size⟩
def glueT (last lead tok : List UInt8) : List UInt8 := if lead = [] ∧ last ≠ [] ∧ fusesT last tok = true then [32] else lead
theorem putL {Bs b : Nat} {last l lead tok : List UInt8} {w : World} (hP : Pr Bs b last l w) (hl : l.length + lead.length + tok.length + 1 ≤ 1000000000000) (hl2 : last.length ≤ 1000000000000) (hBw : Bs ≤ w.heap.size) :
    Calls Try.prog 92 [.pointer (some ⟨b, 0, none⟩), strV lead, strV tok].toArray w fun e w' => e = .returned (.tuple #[]) ∧ Pr Bs b tok (l ++ glueT last lead tok ++ tok) w' ∧ Prn Bs b w w' := by
  obtain ⟨p, v, hB, hBs, hcl⟩ := hP.open_
  have hE := Prn.refl (b := b) hBw
  refine enter_fr 37 Try.func92 rfl rfl rfl ?_
  intro a hf
  refine wS fun K1 hK1 => wS fun K2 hK2 => wR <| sM hf rfl rfl fun a hf => st_b hf rfl rfl (fun c hc => ex_eqS hf rfl rfl hc) ?_ ?_
  clear hf a; intro h7 a hf
  refine sM hf rfl rfl fun a hf => sM hf rfl rfl fun a hf => sV hf rfl (ex_nil hf rfl) fun a hf => sV hf rfl (ex_fa (k := 2) (r := 2) hf rfl (by kernel_rfl) rfl) fun a hf => sV hf rfl (ex_loadB hf rfl (by kernel_rfl) hB rfl) fun a hf => st_b hf rfl rfl (fun c hc => ex_neS hf rfl rfl hc) ?_ ?_
  clear hf a; intro h13 a hf
  refine sV hf rfl (ex_pickT hf rfl rfl) fun a hf => sM hf rfl rfl fun a hf => sM hf rfl rfl fun a hf => sV hf rfl (ex_nil hf rfl) fun a hf => sV hf rfl (ex_fa (k := 2) (r := 2) hf rfl (by kernel_rfl) rfl) fun a hf => sV hf rfl (ex_loadB hf rfl (by kernel_rfl) hB rfl) fun a hf => sM hf rfl rfl fun a hf => ?_
  rcases Bool.eq_false_or_eq_true (fusesT last tok) with hbf | hbf
  refine st_c hf rfl rfl rfl (by kernel_rfl) (bool_is (calls_ext (fusesL last tok _ (by omega) (by omega))) hbf) ?_
  rintro _ w4 ⟨rfl, hx3⟩
  refine ⟨_, rfl, fun a hf => ?_⟩
  replace hB := hB.c0 hx3
  replace hP := hP.chg0 hx3
  replace hBw := nlt hBw hx3.size
  replace hE := hE.t0 hx3
  refine sV hf rfl (ex_pickT hf rfl rfl) fun a hf => sN <| hK2 _ _ <| cT hf rfl <| wR <| sA hf rfl rfl fun a hf => sN <| hK1 _ _ <| wS fun K5 hK5 => wR <| sM hf rfl rfl fun a hf => sV hf rfl (ex_nil hf rfl) fun a hf => sV hf rfl (ex_fa (k := 0) (r := 0) hf rfl (by kernel_rfl) rfl) fun a hf => sM hf rfl rfl fun a hf => st_c hf rfl rfl rfl (by kernel_rfl) (wsL (s := [32]) hP (by (try simp only [List.length_append, List.length_cons, List.length_nil]); omega) hBw) ?_
  rintro _ w7 ⟨rfl, hPn, hx6, _⟩
  refine ⟨_, rfl, fun a hf => ?_⟩
  replace hE := hE.trans hx6 (fun _ h => .inl h)
  clear hP hB hBw hcl p v; rename_i hBw; have hP := hPn; clear hPn
  obtain ⟨p, v, hB, _, hcl⟩ := hP.open_
  have hPm : b ∈ prX Bs b w7 := mem_prX.2 ⟨hB.lt, hBs, .inl rfl⟩
  refine sN <| hK5 _ _ <| wS fun K8 hK8 => wR <| sM hf rfl rfl fun a hf => sV hf rfl (ex_nil hf rfl) fun a hf => sV hf rfl (ex_fa (k := 0) (r := 0) hf rfl (by kernel_rfl) rfl) fun a hf => sM hf rfl rfl fun a hf => st_c hf rfl rfl rfl (by kernel_rfl) (wsL (s := tok) hP (by (try simp only [List.length_append, List.length_cons, List.length_nil]); omega) hBw) ?_
  rintro _ w10 ⟨rfl, hPn, hx9, _⟩
  refine ⟨_, rfl, fun a hf => ?_⟩
  replace hE := hE.trans hx9 (fun _ h => .inl h)
  clear hP hB hBw hcl p v; rename_i hBw; have hP := hPn; clear hPn
  obtain ⟨p, v, hB, _, hcl⟩ := hP.open_
  have hPm : b ∈ prX Bs b w10 := mem_prX.2 ⟨hB.lt, hBs, .inl rfl⟩
  refine sN <| hK8 _ _ <| wR <| sM hf rfl rfl fun a hf => sM hf rfl rfl fun a hf => sV hf rfl (ex_nil hf rfl) fun a hf => sV hf rfl (ex_fa (k := 2) (r := 2) hf rfl (by kernel_rfl) rfl) fun a hf => ?_
  obtain ⟨w11, he, hB12, hx13⟩ := ef_store (P := Try.prog) (t := 9) (x := (.tmp 36)) (y := (.tmp 34)) hf rfl rfl (by kernel_rfl) rfl hB (Nat.le_of_ble_eq_true rfl) 0
  refine st_s hf rfl rfl he fun a hf => ?_
  replace hE := hE.trans hx13 (allc (.inl hPm) all0)
  clear hB
  refine sN ?_
  have eg : glueT last lead tok = [32] := by simp at h7 h13 hbf; simp [glueT, h7, h13, hbf]
  rw [eg]
  try simp only [Exit.then, Exit.inBlock]
  exact end_of (rs := []) hf rfl rfl ⟨rfl, hcl _ _ hB12 hx13, hE⟩
  refine st_c hf rfl rfl rfl (by kernel_rfl) (bool_is (calls_ext (fusesL last tok _ (by omega) (by omega))) hbf) ?_
  rintro _ w14 ⟨rfl, hx3⟩
  refine ⟨_, rfl, fun a hf => ?_⟩
  replace hB := hB.c0 hx3
  replace hP := hP.chg0 hx3
  replace hBw := nlt hBw hx3.size
  replace hE := hE.t0 hx3
  refine sV hf rfl (ex_pickT hf rfl rfl) fun a hf => sN <| hK2 _ _ <| cF hf rfl <| wp_skip <| hK1 _ _ <| wS fun K15 hK15 => wR <| sM hf rfl rfl fun a hf => sV hf rfl (ex_nil hf rfl) fun a hf => sV hf rfl (ex_fa (k := 0) (r := 0) hf rfl (by kernel_rfl) rfl) fun a hf => sM hf rfl rfl fun a hf => st_c hf rfl rfl rfl (by kernel_rfl) (wsL (s := lead) hP (by (try simp only [List.length_append, List.length_cons, List.length_nil]); omega) hBw) ?_
  rintro _ w17 ⟨rfl, hPn, hx16, _⟩
  refine ⟨_, rfl, fun a hf => ?_⟩
  replace hE := hE.trans hx16 (fun _ h => .inl h)
  clear hP hB hBw hcl p v; rename_i hBw; have hP := hPn; clear hPn
  obtain ⟨p, v, hB, _, hcl⟩ := hP.open_
  have hPm : b ∈ prX Bs b w17 := mem_prX.2 ⟨hB.lt, hBs, .inl rfl⟩
  refine sN <| hK15 _ _ <| wS fun K18 hK18 => wR <| sM hf rfl rfl fun a hf => sV hf rfl (ex_nil hf rfl) fun a hf => sV hf rfl (ex_fa (k := 0) (r := 0) hf rfl (by kernel_rfl) rfl) fun a hf => sM hf rfl rfl fun a hf => st_c hf rfl rfl rfl (by kernel_rfl) (wsL (s := tok) hP (by (try simp only [List.length_append, List.length_cons, List.length_nil]); omega) hBw) ?_
  rintro _ w20 ⟨rfl, hPn, hx19, _⟩
  refine ⟨_, rfl, fun a hf => ?_⟩
  replace hE := hE.trans hx19 (fun _ h => .inl h)
  clear hP hB hBw hcl p v; rename_i hBw; have hP := hPn; clear hPn
  obtain ⟨p, v, hB, _, hcl⟩ := hP.open_
  have hPm : b ∈ prX Bs b w20 := mem_prX.2 ⟨hB.lt, hBs, .inl rfl⟩
  refine sN <| hK18 _ _ <| wR <| sM hf rfl rfl fun a hf => sM hf rfl rfl fun a hf => sV hf rfl (ex_nil hf rfl) fun a hf => sV hf rfl (ex_fa (k := 2) (r := 2) hf rfl (by kernel_rfl) rfl) fun a hf => ?_
  obtain ⟨w21, he, hB22, hx23⟩ := ef_store (P := Try.prog) (t := 9) (x := (.tmp 36)) (y := (.tmp 34)) hf rfl rfl (by kernel_rfl) rfl hB (Nat.le_of_ble_eq_true rfl) 0
  refine st_s hf rfl rfl he fun a hf => ?_
  replace hE := hE.trans hx23 (allc (.inl hPm) all0)
  clear hB
  refine sN ?_
  have eg : glueT last lead tok = lead := by simp at h7 h13 hbf; simp [glueT, h7, h13, hbf]
  rw [eg]
  try simp only [Exit.then, Exit.inBlock]
  exact end_of (rs := []) hf rfl rfl ⟨rfl, hcl _ _ hB22 hx23, hE⟩
  clear hf a; intro h13 a hf
  refine sV hf rfl (ex_pickT hf rfl rfl) fun a hf => sM hf rfl rfl fun a hf => st_k hf rfl rfl fun a hf => st_k hf rfl rfl fun a hf => st_k hf rfl rfl fun a hf => st_k hf rfl rfl fun a hf => st_k hf rfl rfl fun a hf => st_k hf rfl rfl fun a hf => sV hf rfl (ex_pickF hf rfl rfl) fun a hf => sN <| hK2 _ _ <| cF hf rfl <| wp_skip <| hK1 _ _ <| wS fun K24 hK24 => wR <| sM hf rfl rfl fun a hf => sV hf rfl (ex_nil hf rfl) fun a hf => sV hf rfl (ex_fa (k := 0) (r := 0) hf rfl (by kernel_rfl) rfl) fun a hf => sM hf rfl rfl fun a hf => st_c hf rfl rfl rfl (by kernel_rfl) (wsL (s := lead) hP (by (try simp only [List.length_append, List.length_cons, List.length_nil]); omega) hBw) ?_
  rintro _ w26 ⟨rfl, hPn, hx25, _⟩
  refine ⟨_, rfl, fun a hf => ?_⟩
  replace hE := hE.trans hx25 (fun _ h => .inl h)
  clear hP hB hBw hcl p v; rename_i hBw; have hP := hPn; clear hPn
  obtain ⟨p, v, hB, _, hcl⟩ := hP.open_
  have hPm : b ∈ prX Bs b w26 := mem_prX.2 ⟨hB.lt, hBs, .inl rfl⟩
  refine sN <| hK24 _ _ <| wS fun K27 hK27 => wR <| sM hf rfl rfl fun a hf => sV hf rfl (ex_nil hf rfl) fun a hf => sV hf rfl (ex_fa (k := 0) (r := 0) hf rfl (by kernel_rfl) rfl) fun a hf => sM hf rfl rfl fun a hf => st_c hf rfl rfl rfl (by kernel_rfl) (wsL (s := tok) hP (by (try simp only [List.length_append, List.length_cons, List.length_nil]); omega) hBw) ?_
  rintro _ w29 ⟨rfl, hPn, hx28, _⟩
  refine ⟨_, rfl, fun a hf => ?_⟩
  replace hE := hE.trans hx28 (fun _ h => .inl h)
  clear hP hB hBw hcl p v; rename_i hBw; have hP := hPn; clear hPn
  obtain ⟨p, v, hB, _, hcl⟩ := hP.open_
  have hPm : b ∈ prX Bs b w29 := mem_prX.2 ⟨hB.lt, hBs, .inl rfl⟩
  refine sN <| hK27 _ _ <| wR <| sM hf rfl rfl fun a hf => sM hf rfl rfl fun a hf => sV hf rfl (ex_nil hf rfl) fun a hf => sV hf rfl (ex_fa (k := 2) (r := 2) hf rfl (by kernel_rfl) rfl) fun a hf => ?_
  obtain ⟨w30, he, hB31, hx32⟩ := ef_store (P := Try.prog) (t := 9) (x := (.tmp 36)) (y := (.tmp 34)) hf rfl rfl (by kernel_rfl) rfl hB (Nat.le_of_ble_eq_true rfl) 0
  refine st_s hf rfl rfl he fun a hf => ?_
  replace hE := hE.trans hx32 (allc (.inl hPm) all0)
  clear hB
  refine sN ?_
  have eg : glueT last lead tok = lead := by simp at h7 h13; simp [glueT, h7, h13]
  rw [eg]
  try simp only [Exit.then, Exit.inBlock]
  exact end_of (rs := []) hf rfl rfl ⟨rfl, hcl _ _ hB31 hx32, hE⟩
  clear hf a; intro h7 a hf
  refine sM hf rfl rfl fun a hf => st_k hf rfl rfl fun a hf => st_k hf rfl rfl fun a hf => st_k hf rfl rfl fun a hf => st_k hf rfl rfl fun a hf => st_k hf rfl rfl fun a hf => sV hf rfl (ex_pickF hf rfl rfl) fun a hf => sM hf rfl rfl fun a hf => st_k hf rfl rfl fun a hf => st_k hf rfl rfl fun a hf => st_k hf rfl rfl fun a hf => st_k hf rfl rfl fun a hf => st_k hf rfl rfl fun a hf => st_k hf rfl rfl fun a hf => sV hf rfl (ex_pickF hf rfl rfl) fun a hf => sN <| hK2 _ _ <| cF hf rfl <| wp_skip <| hK1 _ _ <| wS fun K33 hK33 => wR <| sM hf rfl rfl fun a hf => sV hf rfl (ex_nil hf rfl) fun a hf => sV hf rfl (ex_fa (k := 0) (r := 0) hf rfl (by kernel_rfl) rfl) fun a hf => sM hf rfl rfl fun a hf => st_c hf rfl rfl rfl (by kernel_rfl) (wsL (s := lead) hP (by (try simp only [List.length_append, List.length_cons, List.length_nil]); omega) hBw) ?_
  rintro _ w35 ⟨rfl, hPn, hx34, _⟩
  refine ⟨_, rfl, fun a hf => ?_⟩
  replace hE := hE.trans hx34 (fun _ h => .inl h)
  clear hP hB hBw hcl p v; rename_i hBw; have hP := hPn; clear hPn
  obtain ⟨p, v, hB, _, hcl⟩ := hP.open_
  have hPm : b ∈ prX Bs b w35 := mem_prX.2 ⟨hB.lt, hBs, .inl rfl⟩
  refine sN <| hK33 _ _ <| wS fun K36 hK36 => wR <| sM hf rfl rfl fun a hf => sV hf rfl (ex_nil hf rfl) fun a hf => sV hf rfl (ex_fa (k := 0) (r := 0) hf rfl (by kernel_rfl) rfl) fun a hf => sM hf rfl rfl fun a hf => st_c hf rfl rfl rfl (by kernel_rfl) (wsL (s := tok) hP (by (try simp only [List.length_append, List.length_cons, List.length_nil]); omega) hBw) ?_
  rintro _ w38 ⟨rfl, hPn, hx37, _⟩
  refine ⟨_, rfl, fun a hf => ?_⟩
  replace hE := hE.trans hx37 (fun _ h => .inl h)
  clear hP hB hBw hcl p v; rename_i hBw; have hP := hPn; clear hPn
  obtain ⟨p, v, hB, _, hcl⟩ := hP.open_
  have hPm : b ∈ prX Bs b w38 := mem_prX.2 ⟨hB.lt, hBs, .inl rfl⟩
  refine sN <| hK36 _ _ <| wR <| sM hf rfl rfl fun a hf => sM hf rfl rfl fun a hf => sV hf rfl (ex_nil hf rfl) fun a hf => sV hf rfl (ex_fa (k := 2) (r := 2) hf rfl (by kernel_rfl) rfl) fun a hf => ?_
  obtain ⟨w39, he, hB40, hx41⟩ := ef_store (P := Try.prog) (t := 9) (x := (.tmp 36)) (y := (.tmp 34)) hf rfl rfl (by kernel_rfl) rfl hB (Nat.le_of_ble_eq_true rfl) 0
  refine st_s hf rfl rfl he fun a hf => ?_
  replace hE := hE.trans hx41 (allc (.inl hPm) all0)
  clear hB
  refine sN ?_
  have eg : glueT last lead tok = lead := by simp at h7; simp [glueT, h7]
  rw [eg]
  try simp only [Exit.then, Exit.inBlock]
  exact end_of (rs := []) hf rfl rfl ⟨rfl, hcl _ _ hB40 hx41, hE⟩
end Go.Proofs.Ythpjpngfghcmcaa
namespace Go.Proofs.Ythpjpngfghcmcaa
open Go.RowKit Lx Sx
set_option maxRecDepth 100000
set_option maxHeartbeats 4000000
def singleT (k : Int) (s : List UInt8) : List UInt8 :=
  if k = 5 then [73, 110, 116] else if k = 6 then [84, 101, 120, 116] else if k = 7 then [66, 111, 111, 108] else if k = 13 then [116, 114, 117, 101] else if k = 14 then [102, 97, 108, 115, 101] else if k = 15 then [63] else s
theorem ret_s {x y : List UInt8} (h : x = y) : (Ending.returned (strV y)) = .returned (strV x) := by rw [h]
theorem singleL {k : Int} {tx : List UInt8} {A B : Option Addr} {n1 m1 n2 m2 : Nat} {w : World} : Calls Try.prog 94 [.agg #[.int .i64 k, strV tx, .slice A n1 m1, .slice B n2 m2]].toArray w fun e w' => e = .returned (strV (singleT k tx)) ∧ Chg [] w w' := by
  refine enter_fr 19 Try.func94 rfl rfl rfl ?_
  intro a hf
  have hE := Chg.refl [] w
  refine wS fun K1 hK1 => wR ?_
  obtain ⟨w2, b3, he, hB4, hx5, eb6, lb7⟩ := ef_box (P := Try.prog) (t := 26) (x := (.tmp 0)) hf rfl rfl w 0
  refine sV hf rfl he fun a hf => ?_
  have ge_b3 := ge_new hE eb6
  replace hE := hE.t0 hx5
  clear eb6 lb7
  refine sA hf rfl rfl fun a hf => sN <| hK1 _ _ <| wS fun K8 hK8 => wS fun K9 hK9 => wR <| sV hf rfl (ex_fa (k := 0) (r := 0) hf rfl (by kernel_rfl) rfl) fun a hf => sV hf rfl (ex_loadB hf rfl (by kernel_rfl) hB4 rfl) fun a hf => sN <| hK9 _ _ <| wp_block <| wS fun K10 hK10 => wR <| st_b hf rfl rfl (fun c hc => ex_eqI hf rfl rfl hc) ?_ ?_
  clear hf a; intro h6 a hf
  refine sA hf rfl rfl fun a hf => sN <| hK10 _ _ <| cT hf rfl <| wS fun K11 hK11 => wR <| sA hf rfl rfl fun a hf => sN <| hK11 _ _ <| wp_ret ?_
  try simp only [Exit.then, Exit.inBlock]
  exact ret_of (rs := [.tmp 2]) hf rfl ⟨_, _, rfl, rfl, rfl⟩ ⟨ret_s (by simp only [beq_eq_false_iff_ne, beq_iff_eq, bne_iff_ne, bne_eq_false_iff_eq, decide_eq_true_eq, decide_eq_false_iff_not, ne_eq, Int.not_lt, Int.not_le, Decidable.not_not] at h6; simp [singleT, h6]), hE⟩
  clear hf a; intro h6 a hf
  refine sA hf rfl rfl fun a hf => sN <| hK10 _ _ <| cF hf rfl <| wS fun K12 hK12 => wR <| st_b hf rfl rfl (fun c hc => ex_eqI hf rfl rfl hc) ?_ ?_
  clear hf a; intro h8 a hf
  refine sA hf rfl rfl fun a hf => sN <| hK12 _ _ <| cT hf rfl <| wS fun K13 hK13 => wR <| sA hf rfl rfl fun a hf => sN <| hK13 _ _ <| wp_ret ?_
  try simp only [Exit.then, Exit.inBlock]
  exact ret_of (rs := [.tmp 2]) hf rfl ⟨_, _, rfl, rfl, rfl⟩ ⟨ret_s (by simp only [beq_eq_false_iff_ne, beq_iff_eq, bne_iff_ne, bne_eq_false_iff_eq, decide_eq_true_eq, decide_eq_false_iff_not, ne_eq, Int.not_lt, Int.not_le, Decidable.not_not] at h6 h8; simp [singleT, h6, h8]), hE⟩
  clear hf a; intro h8 a hf
  refine sA hf rfl rfl fun a hf => sN <| hK12 _ _ <| cF hf rfl <| wS fun K14 hK14 => wR <| st_b hf rfl rfl (fun c hc => ex_eqI hf rfl rfl hc) ?_ ?_
  clear hf a; intro h10 a hf
  refine sA hf rfl rfl fun a hf => sN <| hK14 _ _ <| cT hf rfl <| wS fun K15 hK15 => wR <| sA hf rfl rfl fun a hf => sN <| hK15 _ _ <| wp_ret ?_
  try simp only [Exit.then, Exit.inBlock]
  exact ret_of (rs := [.tmp 2]) hf rfl ⟨_, _, rfl, rfl, rfl⟩ ⟨ret_s (by simp only [beq_eq_false_iff_ne, beq_iff_eq, bne_iff_ne, bne_eq_false_iff_eq, decide_eq_true_eq, decide_eq_false_iff_not, ne_eq, Int.not_lt, Int.not_le, Decidable.not_not] at h6 h8 h10; simp [singleT, h6, h8, h10]), hE⟩
  clear hf a; intro h10 a hf
  refine sA hf rfl rfl fun a hf => sN <| hK14 _ _ <| cF hf rfl <| wS fun K16 hK16 => wR <| st_b hf rfl rfl (fun c hc => ex_eqI hf rfl rfl hc) ?_ ?_
  clear hf a; intro h12 a hf
  refine sA hf rfl rfl fun a hf => sN <| hK16 _ _ <| cT hf rfl <| wS fun K17 hK17 => wR <| sA hf rfl rfl fun a hf => sN <| hK17 _ _ <| wp_ret ?_
  try simp only [Exit.then, Exit.inBlock]
  exact ret_of (rs := [.tmp 2]) hf rfl ⟨_, _, rfl, rfl, rfl⟩ ⟨ret_s (by simp only [beq_eq_false_iff_ne, beq_iff_eq, bne_iff_ne, bne_eq_false_iff_eq, decide_eq_true_eq, decide_eq_false_iff_not, ne_eq, Int.not_lt, Int.not_le, Decidable.not_not] at h6 h8 h10 h12; simp [singleT, h6, h8, h10, h12]), hE⟩
  clear hf a; intro h12 a hf
  refine sA hf rfl rfl fun a hf => sN <| hK16 _ _ <| cF hf rfl <| wS fun K18 hK18 => wR <| st_b hf rfl rfl (fun c hc => ex_eqI hf rfl rfl hc) ?_ ?_
  clear hf a; intro h14 a hf
  refine sA hf rfl rfl fun a hf => sN <| hK18 _ _ <| cT hf rfl <| wS fun K19 hK19 => wR <| sA hf rfl rfl fun a hf => sN <| hK19 _ _ <| wp_ret ?_
  try simp only [Exit.then, Exit.inBlock]
  exact ret_of (rs := [.tmp 2]) hf rfl ⟨_, _, rfl, rfl, rfl⟩ ⟨ret_s (by simp only [beq_eq_false_iff_ne, beq_iff_eq, bne_iff_ne, bne_eq_false_iff_eq, decide_eq_true_eq, decide_eq_false_iff_not, ne_eq, Int.not_lt, Int.not_le, Decidable.not_not] at h6 h8 h10 h12 h14; simp [singleT, h6, h8, h10, h12, h14]), hE⟩
  clear hf a; intro h14 a hf
  refine sA hf rfl rfl fun a hf => sN <| hK18 _ _ <| cF hf rfl <| wS fun K20 hK20 => wR <| st_b hf rfl rfl (fun c hc => ex_eqI hf rfl rfl hc) ?_ ?_
  clear hf a; intro h16 a hf
  refine sA hf rfl rfl fun a hf => sN <| hK20 _ _ <| cT hf rfl <| wS fun K21 hK21 => wR <| sA hf rfl rfl fun a hf => sN <| hK21 _ _ <| wp_ret ?_
  try simp only [Exit.then, Exit.inBlock]
  exact ret_of (rs := [.tmp 2]) hf rfl ⟨_, _, rfl, rfl, rfl⟩ ⟨ret_s (by simp only [beq_eq_false_iff_ne, beq_iff_eq, bne_iff_ne, bne_eq_false_iff_eq, decide_eq_true_eq, decide_eq_false_iff_not, ne_eq, Int.not_lt, Int.not_le, Decidable.not_not] at h6 h8 h10 h12 h14 h16; simp [singleT, h6, h8, h10, h12, h14, h16]), hE⟩
  clear hf a; intro h16 a hf
  refine sA hf rfl rfl fun a hf => sN <| hK20 _ _ <| cF hf rfl <| wp_skip <| hK8 _ _ <| wS fun K22 hK22 => wR <| sV hf rfl (ex_fa (k := 1) (r := 1) hf rfl (by kernel_rfl) rfl) fun a hf => sV hf rfl (ex_loadB hf rfl (by kernel_rfl) hB4 rfl) fun a hf => sA hf rfl rfl fun a hf => sN <| hK22 _ _ <| wp_ret ?_
  try simp only [Exit.then, Exit.inBlock]
  exact ret_of (rs := [.tmp 2]) hf rfl ⟨_, _, rfl, rfl, rfl⟩ ⟨ret_s (by simp only [beq_eq_false_iff_ne, beq_iff_eq, bne_iff_ne, bne_eq_false_iff_eq, decide_eq_true_eq, decide_eq_false_iff_not, ne_eq, Int.not_lt, Int.not_le, Decidable.not_not] at h6 h8 h10 h12 h14 h16; simp [singleT, h6, h8, h10, h12, h14, h16]), hE⟩
end Go.Proofs.Ythpjpngfghcmcaa
namespace Go.Proofs.Ythpjpngfghcmcaa
open Go.RowKit Lx Sx
abbrev WS := List UInt8 × List UInt8
def putP (lead tok : List UInt8) (s : WS) : WS := (tok, s.2 ++ glueT s.1 lead tok ++ tok)
def listP (ls : List (List UInt8)) (c : Nat) : List (WS → WS) → Nat → WS → WS
  | [], _, s => s
  | f :: r, i, s => listP ls c r (i + 1) (f (if 0 < i then putP (ls.getD (c + i - 1) []) [44] s else s))
def defnP (k : Int) (x : List UInt8) (ls : List (List UInt8)) (fs : List (WS → WS)) (s : WS) : WS :=
  let L := fun i => ls.getD i []
  let F := fun (i : Nat) => fs.getD i id
  if k = 1 then
    let s := fs.foldl (fun s f => f s) (putP (L 1) x (putP (L 0) [109, 111, 100, 117, 108, 101] s)); (s.1, s.2 ++ L 2)
  else if k = 2 then
    let n := fs.length
    F (n - 1) (putP (L 5) [61] (F (n - 2) (putP (L 4) [58] (putP (L 3) [41] (listP ls 6 (fs.take (n - 2)) 0 (putP (L 2) [40] (putP (L 1) x (putP (L 0) [100, 101, 102] s))))))))
  else if k = 3 then F 0 (putP (L 2) [61] (putP (L 1) x (putP (L 0) [116, 121, 112, 101] s)))
  else F 0 (putP (L 1) [58] (putP (L 0) x s))
def nodeP (k : Int) (x : List UInt8) (ls : List (List UInt8)) (fs : List (WS → WS)) (s : WS) : WS :=
  let L := fun i => ls.getD i []
  let F := fun (i : Nat) => fs.getD i id
  if k = 1 ∨ k = 2 ∨ k = 3 ∨ k = 4 then defnP k x ls fs s
  else if k = 17 then F 0 s
  else if k = 8 then putP (L 1) [93] (F 0 (putP (L 0) [91] s))
  else if k = 16 then putP (L 2) [41] (listP ls 3 fs 0 (putP (L 1) [40] (putP (L 0) x s)))
  else if k = 18 then putP (L 1) [93] (listP ls 2 fs 0 (putP (L 0) [91] s))
  else if k = 19 then F 2 (putP (L 2) [101, 108, 115, 101] (F 1 (putP (L 1) [116, 104, 101, 110] (F 0 (putP (L 0) [105, 102] s)))))
  else if k = 20 then F 1 (putP (L 3) [105, 110] (F 0 (putP (L 2) [61] (putP (L 1) x (putP (L 0) [108, 101, 116] s)))))
  else if k = 21 then F 1 (putP (L 0) x (F 0 s))
  else if k = 22 then putP (L 1) [41] (F 0 (putP (L 0) [40] s))
  else putP (L 0) (singleT k x) s
mutual
def treeP : Tree → WS → WS
  | .node k x ls ks => nodeP k x ls (treesP ks)
def treesP : List Tree → List (WS → WS)
  | [] => []
  | t :: r => treeP t :: treesP r
end
def textT (t : Tree) : List UInt8 := (treeP t ([], [])).2
def printT (t : Tree) : List UInt8 := if shapedT t && leadedT t then textT t else []
theorem treesP_length : ∀ ks : List Tree, (treesP ks).length = ks.length
  | [] => rfl
  | t :: r => by simp [treesP, treesP_length r]
theorem treesP_at : ∀ {ks : List Tree} {i : Nat} (h : i < ks.length), (treesP ks).getD i id = treeP ks[i]
  | t :: r, 0, _ => rfl
  | t :: r, i + 1, h => by have := treesP_at (ks := r) (i := i) (by simpa using h); simpa [treesP] using this
end Go.Proofs.Ythpjpngfghcmcaa
namespace Go.Proofs.Ythpjpngfghcmcaa
open Go.RowKit Lx Sx
def Gw (n : Nat) (s s' : WS) : Prop := s'.2.length ≤ s.2.length + n ∧ s'.1.length ≤ s.1.length + n
theorem Gw.refl (s : WS) : Gw 0 s s := ⟨Nat.le_refl _, Nat.le_refl _⟩
theorem Gw.le {n m : Nat} {s s' : WS} (h : Gw n s s') (hm : n ≤ m) : Gw m s s' := ⟨by have := h.1; omega, by have := h.2; omega⟩
theorem glueT_len (a b c : List UInt8) : (glueT a b c).length ≤ b.length + 1 := by unfold glueT; split <;> simp
theorem Gw.put {n : Nat} {s s' : WS} {a b : List UInt8} (h : Gw n s s') : Gw (n + (a.length + 1 + b.length)) s (putP a b s') := by
  have := glueT_len s'.1 a b
  refine ⟨?_, ?_⟩
  · have := h.1; simp only [putP, List.length_append]; omega
  · simp only [putP]; omega
theorem Gw.app {n m : Nat} {s s' : WS} {f : WS → WS} (h : Gw n s s') (hf : ∀ s, Gw m s (f s)) : Gw (n + m) s (f s') := by
  have h1 := h.1; have h2 := h.2; have h3 := (hf s').1; have h4 := (hf s').2
  exact ⟨by omega, by omega⟩
theorem lsum_getD : ∀ (ls : List (List UInt8)) (i : Nat), (ls.getD i []).length + lsum (ls.drop (i + 1)) ≤ lsum (ls.drop i)
  | [], i => by simp [lsum]
  | l :: r, 0 => by simp [lsum]
  | l :: r, i + 1 => by have := lsum_getD r i; simpa using this
theorem lsum_drop : ∀ (ls : List (List UInt8)) (i : Nat), lsum (ls.drop i) ≤ lsum ls
  | [], i => by simp [lsum]
  | l :: r, 0 => by simp
  | l :: r, i + 1 => by have := lsum_drop r i; simp only [List.drop_succ_cons, lsum]; omega
theorem lsum_get (ls : List (List UInt8)) (i : Nat) : (ls.getD i []).length ≤ lsum ls := by have := lsum_getD ls i; have := lsum_drop ls i; omega
theorem treesP_take : ∀ (ks : List Tree) (n : Nat), treesP (ks.take n) = (treesP ks).take n
  | [], n => by simp [treesP]
  | t :: r, 0 => by simp [treesP]
  | t :: r, n + 1 => by simp [treesP, treesP_take r n]
theorem kbulk_take : ∀ (ks : List Tree) (n : Nat), kbulk (ks.take n) ≤ kbulk ks
  | [], n => by simp [kbulk]
  | t :: r, 0 => by simp [kbulk]
  | t :: r, n + 1 => by have := kbulk_take r n; simp only [List.take_succ_cons, kbulk]; omega
theorem Gw.list {ls : List (List UInt8)} {c : Nat} (hc : 1 ≤ c) : ∀ (ks : List Tree) (i : Nat), (∀ t, t ∈ ks → ∀ s, Gw (100 * tbulk t) s (treeP t s)) → ∀ s, Gw (lsum (ls.drop (c + i - 1)) + 2 * ks.length + 100 * kbulk ks) s (listP ls c (treesP ks) i s)
  | [], i, _, s => by simp only [treesP, listP]; exact (Gw.refl s).le (Nat.zero_le _)
  | t :: r, i, h, s => by
    have ht := h t (by simp)
    have hr := Gw.list (ls := ls) hc r (i + 1) (fun u hu => h u (by simp [hu]))
    have e := lsum_getD ls (c + i - 1)
    rw [show c + i - 1 + 1 = c + (i + 1) - 1 from by omega] at e
    simp only [treesP, listP, kbulk, List.length_cons]
    split
    · refine ((((Gw.refl s).put).app ht).app hr).le ?_
      simp only [List.length_cons, List.length_nil]; omega
    · exact (((Gw.refl s).app ht).app hr).le (by omega)
theorem Gw.fold : ∀ (ks : List Tree), (∀ t, t ∈ ks → ∀ s, Gw (100 * tbulk t) s (treeP t s)) → ∀ s, Gw (100 * kbulk ks) s ((treesP ks).foldl (fun s f => f s) s)
  | [], _, s => (Gw.refl s)
  | t :: r, h, s => by
    have ht := h t (by simp)
    have hr := Gw.fold r (fun u hu => h u (by simp [hu]))
    simp only [treesP, List.foldl_cons, kbulk]
    exact (((Gw.refl s).app ht).app hr).le (by omega)
def qb (ks : List Tree) (i : Nat) : Nat := if h : i < ks.length then tbulk ks[i] else 0
theorem Gw.kid {ks : List Tree} (h : ∀ t, t ∈ ks → ∀ s, Gw (100 * tbulk t) s (treeP t s)) (i : Nat) (s : WS) : Gw (100 * qb ks i) s ((treesP ks).getD i id s) := by
  by_cases hi : i < ks.length
  · rw [treesP_at hi, qb, dif_pos hi]; exact h _ (List.getElem_mem hi) s
  · rw [qb, dif_neg hi, show (treesP ks).getD i id = id from by simp [List.getD_eq_getElem?_getD, List.getElem?_eq_none (show (treesP ks).length ≤ i from by rw [treesP_length]; omega)]]; exact Gw.refl s
theorem qb_take : ∀ (ks : List Tree) (i : Nat), kbulk (ks.take i) + qb ks i ≤ kbulk (ks.take (i + 1))
  | [], i => by simp [kbulk, qb]
  | t :: r, 0 => by simp [kbulk, qb]
  | t :: r, i + 1 => by
    have := qb_take r i
    simp only [List.take_succ_cons, kbulk]
    have e : qb (t :: r) (i + 1) = qb r i := by simp [qb]
    omega
theorem qb3 (ks : List Tree) : qb ks 0 + qb ks 1 + qb ks 2 ≤ kbulk ks := by
  have a0 : kbulk (ks.take 0) + qb ks 0 ≤ kbulk (ks.take 1) := qb_take ks 0
  have a1 : kbulk (ks.take 1) + qb ks 1 ≤ kbulk (ks.take 2) := qb_take ks 1
  have a2 : kbulk (ks.take 2) + qb ks 2 ≤ kbulk (ks.take 3) := qb_take ks 2
  have a3 := kbulk_take ks 3
  omega
theorem Gw.defn {k : Int} {x : List UInt8} {ls : List (List UInt8)} {ks : List Tree} (hs : (ls.length : Int) = leadsT k ks.length) (h : ∀ t, t ∈ ks → ∀ s, Gw (100 * tbulk t) s (treeP t s)) (s : WS) : Gw (100 * (x.length + lsum ls + kbulk ks + 1)) s (defnP k x ls (treesP ks) s) := by
  have L0 := lsum_get ls 0; have L1 := lsum_get ls 1; have L2 := lsum_get ls 2; have L3 := lsum_get ls 3; have L4 := lsum_get ls 4; have L5 := lsum_get ls 5
  have Q0 := qb3 ks
  have LL := lsum_len ls
  unfold defnP
  dsimp only
  split
  · have g := (((Gw.refl s).put (a := ls.getD 0 []) (b := [109, 111, 100, 117, 108, 101])).put (a := ls.getD 1 []) (b := x)).app (Gw.fold ks h)
    have g1 := g.1; have g2 := g.2
    simp only [List.length_cons, List.length_nil] at g1 g2
    exact ⟨by simp only [List.length_append]; omega, by dsimp only; omega⟩
  · split
    · rename_i hk
      have hn : 2 ≤ ks.length := by
        subst hk; unfold leadsT at hs
        rcases Nat.lt_or_ge ks.length 2 with h2 | h2
        · rw [if_neg (by decide), if_pos rfl, if_pos (by omega)] at hs; omega
        · exact h2
      have hn2 : ks.length ≤ ls.length := by
        subst hk; unfold leadsT at hs
        rw [if_neg (by decide), if_pos rfl, if_neg (by omega)] at hs
        split at hs <;> omega
      have hl := Gw.list (ls := ls) (c := 6) (by decide) (ks.take (ks.length - 2)) 0 (fun t ht => h t (List.mem_of_mem_take ht))
      rw [treesP_take] at hl
      have A1 := qb_take ks (ks.length - 2); have A2 := qb_take ks (ks.length - 1)
      rw [show ks.length - 2 + 1 = ks.length - 1 from by omega] at A1
      rw [show ks.length - 1 + 1 = ks.length from by omega, List.take_length] at A2
      have A3 := lsum_drop ls (6 + 0 - 1)
      have A4 := kbulk_len ks
      rw [treesP_length]
      refine ((((((((((Gw.refl s).put).put).put).app hl).put).put).app (Gw.kid h _)).put).app (Gw.kid h _)).le ?_
      simp only [List.length_cons, List.length_nil, List.length_take]
      omega
    · split
      · refine (((((Gw.refl s).put).put).put).app (Gw.kid h _)).le ?_
        simp only [List.length_cons, List.length_nil]; omega
      · refine ((((Gw.refl s).put).put).app (Gw.kid h _)).le ?_
        simp only [List.length_cons, List.length_nil]; omega
theorem singleT_len (k : Int) (x : List UInt8) : (singleT k x).length ≤ x.length + 5 := by
  unfold singleT
  repeat' split
  all_goals simp
theorem Gw.node {k : Int} {x : List UInt8} {ls : List (List UInt8)} {ks : List Tree} (hs : (ls.length : Int) = leadsT k ks.length) (h : ∀ t, t ∈ ks → ∀ s, Gw (100 * tbulk t) s (treeP t s)) (s : WS) : Gw (100 * (x.length + lsum ls + kbulk ks + 1)) s (nodeP k x ls (treesP ks) s) := by
  have L0 := lsum_get ls 0; have L1 := lsum_get ls 1; have L2 := lsum_get ls 2; have L3 := lsum_get ls 3
  have Q0 := qb3 ks
  have LL := lsum_len ls
  have SL := singleT_len k x
  unfold nodeP
  dsimp only
  split
  · exact Gw.defn hs h s
  · split
    · exact ((Gw.refl s).app (Gw.kid h _)).le (by omega)
    · split
      · refine ((((Gw.refl s).put).app (Gw.kid h _)).put).le ?_
        simp only [List.length_cons, List.length_nil]; omega
      · split
        · rename_i hk
          have hl := Gw.list (ls := ls) (c := 3) (by decide) ks 0 h
          have A3 := lsum_drop ls (3 + 0 - 1)
          have hn2 : ks.length ≤ ls.length := by
            subst hk; unfold leadsT at hs
            rw [if_neg (by decide), if_neg (by decide), if_pos rfl] at hs
            split at hs
            · omega
            · split at hs <;> omega
          refine (((((Gw.refl s).put).put).app hl).put).le ?_
          simp only [List.length_cons, List.length_nil]; omega
        · split
          · rename_i hk
            have hl := Gw.list (ls := ls) (c := 2) (by decide) ks 0 h
            have A3 := lsum_drop ls (2 + 0 - 1)
            have hn2 : ks.length ≤ ls.length := by
              subst hk; unfold leadsT at hs
              rw [if_neg (by decide), if_neg (by decide), if_neg (by decide), if_pos rfl] at hs
              split at hs <;> omega
            refine ((((Gw.refl s).put).app hl).put).le ?_
            simp only [List.length_cons, List.length_nil]; omega
          · split
            · refine (((((((Gw.refl s).put).app (Gw.kid h _)).put).app (Gw.kid h _)).put).app (Gw.kid h _)).le ?_
              simp only [List.length_cons, List.length_nil]; omega
            · split
              · refine (((((((Gw.refl s).put).put).put).app (Gw.kid h _)).put).app (Gw.kid h _)).le ?_
                simp only [List.length_cons, List.length_nil]; omega
              · split
                · refine ((((Gw.refl s).app (Gw.kid h _)).put).app (Gw.kid h _)).le ?_
                  omega
                · split
                  · refine ((((Gw.refl s).put).app (Gw.kid h _)).put).le ?_
                    simp only [List.length_cons, List.length_nil]; omega
                  · refine ((Gw.refl s).put).le ?_
                    omega
theorem leaded_of : ∀ {ks : List Tree} {t : Tree}, leadedsT ks = true → t ∈ ks → leadedT t = true
  | u :: r, t, h, ht => by
    simp only [leadedsT, Bool.and_eq_true] at h
    rcases List.mem_cons.1 ht with e | e
    · exact e ▸ h.1
    · exact leaded_of h.2 e
theorem tsize_mem : ∀ {ks : List Tree} {t : Tree}, t ∈ ks → tsize t ≤ tsizes ks
  | u :: r, t, ht => by
    simp only [tsizes]
    rcases List.mem_cons.1 ht with e | e
    · subst e; omega
    · have := tsize_mem e; omega
theorem Gw.tree : ∀ (N : Nat) (t : Tree), tsize t ≤ N → leadedT t = true → ∀ s, Gw (100 * tbulk t) s (treeP t s)
  | 0, t, hN, _, s => by cases t; simp only [tsize] at hN; omega
  | N + 1, .node k x ls ks, hN, hl, s => by
    simp only [leadedT, Bool.and_eq_true, decide_eq_true_eq] at hl
    simp only [tsize] at hN
    simp only [treeP, tbulk]
    exact Gw.node hl.1.1 (fun t ht s => Gw.tree N t (by have := tsize_mem ht; omega) (leaded_of hl.2 ht) s) s
end Go.Proofs.Ythpjpngfghcmcaa
namespace Go.Proofs.Ythpjpngfghcmcaa
open Go.RowKit Lx Sx
set_option maxRecDepth 100000
set_option maxHeartbeats 4000000
def TreeOk (N : Nat) : Prop := ∀ (t : Tree) (w : World) (Bs b : Nat) (s : WS) (c0 c1 c2 c3 : Value), tsize t ≤ N → shapedT t = true → leadedT t = true → s.2.length + 100 * tbulk t ≤ 1000000000000 → s.1.length + 100 * tbulk t ≤ 1000000000000 → Pr Bs b s.1 s.2 w → TreeIs (fun b => b < Bs) w t [c0, c1, c2, c3] → Bs ≤ w.heap.size →
  Calls Try.prog 61 [.pointer (some ⟨b, 0, none⟩), .agg #[c0, c1, c2, c3]].toArray w fun e w' => e = .returned (.tuple #[]) ∧ Pr Bs b (treeP t s).1 (treeP t s).2 w' ∧ Prn Bs b w w'
theorem listP_snoc (ls : List (List UInt8)) (c : Nat) : ∀ (fs : List (WS → WS)) (g : WS → WS) (i : Nat) (s : WS), listP ls c (fs ++ [g]) i s = g (if 0 < i + fs.length then putP (ls.getD (c + (i + fs.length) - 1) []) [44] (listP ls c fs i s) else listP ls c fs i s)
  | [], g, i, s => by simp only [List.nil_append, listP, List.length_nil, Nat.add_zero]
  | f :: r, g, i, s => by
    simp only [List.cons_append, listP, List.length_cons]
    rw [listP_snoc ls c r g (i + 1), show i + 1 + r.length = i + (r.length + 1) from by omega]
theorem treesP_app : ∀ (a b : List Tree), treesP (a ++ b) = treesP a ++ treesP b
  | [], b => rfl
  | t :: r, b => by simp only [List.cons_append, treesP, treesP_app r b]
theorem lst_step {ls : List (List UInt8)} {c : Nat} {ks : List Tree} {i : Nat} (s : WS) (h : i < ks.length) : listP ls c (treesP (ks.take (i + 1))) 0 s = treeP ks[i] (if 0 < i then putP (ls.getD (c + i - 1) []) [44] (listP ls c (treesP (ks.take i)) 0 s) else listP ls c (treesP (ks.take i)) 0 s) := by
  rw [List.take_succ_eq_append_getElem h, treesP_app, treesP, treesP, listP_snoc, treesP_length, List.length_take, Nat.min_eq_left (Nat.le_of_lt h), Nat.zero_add]
theorem Pr.lt {Bs b : Nat} {x l : List UInt8} {w : World} (h : Pr Bs b x l w) : b < w.heap.size := by
  obtain ⟨p, v, hp, hB, hbk, hown⟩ := h
  exact Blk.lt (show Blk w b _ [p, v, strV x] from hbk)
theorem Pr.chgN {Bs b : Nat} {x l : List UInt8} {w w' : World} {c : Nat} {t : TypeId} {cs : List Value} (h : Pr Bs b x l w) (hc : Blk w c t cs) (ht : t ≠ 5) (hne : b ≠ c) (hx : Chg [c] w w') : Pr Bs b x l w' := by
  obtain ⟨p, v, hp, hB, hbk, hown⟩ := h
  have hv : v.ownBlock ≠ some c := Lib.ownBlock_ne hown hc ht
  exact ⟨p, v, hp, hB, (show Blk w b _ [p, v, strV x] from hbk).chg hx (nmc hne nm0), own_chg hown hx (fun g hg => nmc (fun e => hv (e ▸ hg)) nm0)⟩
theorem Prn.now {Bs b : Nat} {w w' : World} (h : Prn Bs b w w') : Bs ≤ w'.heap.size := nlt h.base h.below.size
theorem lead_now {Bs b : Nat} {w w' : World} {lb lo n : Nat} {ls : List (List UInt8)} {x : List UInt8} {j : Nat} (hL : RowIn (fun b => b < Bs) w 1 (some ⟨lb, lo, none⟩) n (ls.map strV)) (hE : Prn Bs b w w') (hj : ls[j]? = some x) : w'.cell? ⟨lb, lo + j, none⟩ = some (strV x) := by
  have hl := hL.1
  simp only [List.length_map, Nat.mul_one] at hl
  have hjl : j < ls.length := by rw [List.getElem?_eq_some_iff] at hj; exact hj.1
  obtain ⟨b', off, e, hS, hlt, hc⟩ := hL.2 (by omega)
  injection e with e
  injection e with e1 e2
  subst e1 e2
  rw [hE.chg.cell hlt (nm_low hS), hc j (by omega)]
  simp [hj]
theorem kid_now {Bs b : Nat} {w w' : World} {ks : List Tree} {cs : List Value} {kb ko n : Nat} {t : Tree} {i : Nat} (hK : KidsAre (fun b => b < Bs) w ks cs) (hR : RowIn (fun b => b < Bs) w 4 (some ⟨kb, ko, none⟩) n cs) (hE : Prn Bs b w w') (hi : ks[i]? = some t) :
    ∃ c0 c1 c2 c3, TreeIs (fun b => b < Bs) w' t [c0, c1, c2, c3] ∧ ∀ j, j < 4 → w'.cell? ⟨kb, ko + i * 4 + j, none⟩ = ([c0, c1, c2, c3] : List Value)[j]? := by
  obtain ⟨hil, rfl⟩ := List.getElem?_eq_some_iff.1 hi
  have hcl := hK.length
  have hl := hR.1
  obtain ⟨b', off, e, hS, hlt, hc⟩ := hR.2 (by omega)
  injection e with e
  injection e with e1 e2
  subst e1 e2
  obtain ⟨c0, c1, c2, c3, hT, h0, h1, h2, h3⟩ := hK.at_ hil
  refine ⟨c0, c1, c2, c3, hT.chg hE.chg (fun _ hb _ => nm_low hb), fun j hj => ?_⟩
  rw [hE.chg.cell hlt (nm_low hS), Nat.add_assoc, hc _ (by omega)]
  rcases (by omega : j = 0 ∨ j = 1 ∨ j = 2 ∨ j = 3) with rfl | rfl | rfl | rfl
  · exact h0
  · exact h1
  · exact h2
  · exact h3
theorem put_len (a b : List UInt8) (s : WS) : (putP a b s).2.length ≤ s.2.length + (a.length + 1 + b.length) ∧ (putP a b s).1.length ≤ s.1.length + (a.length + 1 + b.length) := by
  have := (Gw.refl s).put (a := a) (b := b); exact ⟨by have := this.1; omega, by have := this.2; omega⟩
theorem kbulk_step {ks : List Tree} {i : Nat} (h : i < ks.length) : kbulk (ks.take i) + tbulk ks[i] ≤ kbulk ks := by
  have a := qb_take ks i
  have b := kbulk_take ks (i + 1)
  rw [qb, dif_pos h] at a
  omega
theorem plistL {N : Nat} (ih : TreeOk N) {w : World} {Bs b c : Nat} {s : WS} {ls : List (List UInt8)} {ks : List Tree} {cs : List Value} {k : Int} {x : List UInt8} {A B B2 : Option Addr} {m n n2 m2 : Nat} (h1c : 1 ≤ c) (hc6 : c ≤ 6) (hcl : c + ks.length ≤ ls.length + 1) (hks : ∀ t, t ∈ ks → tsize t ≤ N ∧ shapedT t = true ∧ leadedT t = true) (hl1 : s.2.length + 10 * lsum ls + 100 * kbulk ks + 10 ≤ 1000000000000) (hl2 : s.1.length + 10 * lsum ls + 100 * kbulk ks + 10 ≤ 1000000000000)
    (hP : Pr Bs b s.1 s.2 w) (hL : RowIn (fun b => b < Bs) w 1 A ls.length (ls.map strV)) (hK : KidsAre (fun b => b < Bs) w ks cs) (hR : RowIn (fun b => b < Bs) w 4 B ks.length cs) (hBw : Bs ≤ w.heap.size) :
    Calls Try.prog 93 [.pointer (some ⟨b, 0, none⟩), .agg #[.int .i64 k, strV x, .slice A ls.length m, .slice B2 n2 m2], .slice B ks.length n, .int .i64 (c : Nat)].toArray w fun e w' => e = .returned (.tuple #[]) ∧ Pr Bs b (listP ls c (treesP ks) 0 s).1 (listP ls c (treesP ks) 0 s).2 w' ∧ Prn Bs b w w' := by
  have hgk : ∀ t, t ∈ ks → ∀ s, Gw (100 * tbulk t) s (treeP t s) := fun t ht s => Gw.tree _ t (Nat.le_refl _) (hks t ht).2.2 s
  have hE := Prn.refl (b := b) hBw
  refine enter_fr 33 Try.func93 rfl rfl rfl ?_
  intro a hf
  refine wS fun K1 hK1 => ?_
  refine wR ?_
  obtain ⟨w2, b3, he, hB4, hx5, eb6, lb7⟩ := ef_box (P := Try.prog) (t := 26) (x := (.tmp 1)) hf rfl rfl w 0
  refine sV hf rfl he ?_
  clear he hf a; intro a hf
  have ge_b3 := Prn.ge_new hE eb6
  have ne_b_b3 : b ≠ b3 := ne_new hP.lt eb6
  replace hP := hP.chg0 hx5
  replace hE := hE.t0 hx5
  clear eb6 lb7
  refine sN ?_
  refine hK1 _ _ ?_
  refine wS fun K8 hK8 => ?_
  refine wR ?_
  refine sM hf rfl rfl ?_
  clear hf a; intro a hf
  refine sV hf rfl (ex_len hf Try.underlying24 rfl) ?_
  clear hf a; intro a hf
  refine sM hf rfl rfl ?_
  clear hf a; intro a hf
  refine sN ?_
  refine hK8 _ _ ?_
  refine wp_block ?_
  refine wp_loop_ghost (fun g a w' => ∃ i, Fr a 33 (fm [(0, .pointer (some ⟨b, 0, none⟩)), (3, .int .i64 (c : Nat)), (5, .pointer (some ⟨b3, 0, none⟩)), (10, .slice B ks.length n), (11, .int .i64 (ks.length : Nat)), (12, .int .i64 (i : Nat))]) ∧ Prn Bs b w w' ∧ Blk w' b3 26 [.int .i64 k, strV x, .slice A ls.length m, .slice B2 n2 m2] ∧ Pr Bs b (listP ls c (treesP (ks.take i)) 0 s).1 (listP ls c (treesP (ks.take i)) 0 s).2 w' ∧ i ≤ ks.length ∧ g = ks.length - i) _ ⟨0, hf.pick ⟨rfl, rfl, rfl, rfl, rfl, rfl, trivial⟩, hE, hB4, by simpa [treesP, listP] using hP, Nat.zero_le _, rfl⟩ ?_
  obtain ⟨b5, eb5⟩ : ∃ x, b3 = x := ⟨_, rfl⟩
  rw [eb5]
  have ge_b5 : w.heap.size ≤ b5 := eb5 ▸ ge_b3
  have ne_b_b5 : b ≠ b5 := eb5 ▸ ne_b_b3
  clear eb5 hf a hP
  intro g0 a w' hI
  obtain ⟨i, hf, hE, hB5, hP, hi, rfl⟩ := hI
  by_cases hlt : i < ks.length
  obtain ⟨kb, ko, rfl, _, hkb, _⟩ := hR.2 (by omega)
  have hki : ks[i]? = some ks[i] := List.getElem?_eq_getElem hlt
  obtain ⟨d0, d1, d2, d3, hT, hK4⟩ := kid_now hK hR hE hki
  have on_T := hT.one
  have hmem : ks[i] ∈ ks := List.getElem_mem hlt
  have htt := kbulk_step hlt
  have hst := lst_step (ls := ls) (c := c) s hlt
  have hG := Gw.list (ls := ls) (c := c) h1c (ks.take i) 0 (fun t ht => hgk t (List.mem_of_mem_take ht)) s
  have hG1 := hG.1
  have hG2 := hG.2
  simp only [List.length_take] at hG1 hG2
  have hd0 := lsum_drop ls (c + 0 - 1)
  have hmin : min i ks.length = i := Nat.min_eq_left hi
  have hLL := lsum_len ls
  have hKL := kbulk_len ks
  refine wS fun K9 hK9 => ?_
  refine wR ?_
  refine sV hf rfl (ex_ltI (c := true) hf rfl rfl (by simp; omega)) ?_
  clear hf a; intro a hf
  refine sN ?_
  refine hK9 _ _ ?_
  refine wS fun K10 hK10 => ?_
  refine cT hf rfl ?_
  refine wp_skip ?_
  refine hK10 _ _ ?_
  refine wS fun K11 hK11 => ?_
  refine wp_block ?_
  refine wS fun K12 hK12 => ?_
  refine wR ?_
  refine sM hf rfl rfl ?_
  clear hf a; intro a hf
  refine sV hf rfl (ex_index (sz := 4) (k := i) (r := ko + i * 4) hf Try.underlying24 (by kernel_rfl) rfl rfl rfl hlt rfl) ?_
  clear hf a; intro a hf
  refine sV hf rfl (ex_loadN (cs := [d0, d1, d2, d3]) (m := 4) hf rfl (by kernel_rfl) rfl hK4) ?_
  clear hf a; intro a hf
  obtain ⟨w13, b14, he, hB15, hx16, eb17, lb18⟩ := eT a w' 0
  refine sV hf rfl he ?_
  clear he hf a; intro a hf
  have ne_b5_b14 : b5 ≠ b14 := ne_new hB5.lt eb17
  have ge_b14 := Prn.ge_new hE eb17
  have ne_b_b14 : b ≠ b14 := ne_new hP.lt eb17
  replace hB5 := hB5.c0 hx16
  replace hP := hP.chg0 hx16
  replace hT := hT.chg hx16 (fun k hb hlt2 => nm0)
  replace hE := hE.t0 hx16
  clear eb17 lb18
  refine sA hf rfl rfl ?_
  clear hf a; intro a hf
  obtain ⟨w19, he, hB20, hx21⟩ := eN (.tmp 9) (.tmp 16) hf rfl rfl rfl on_T hB15 rfl 0
  refine st_s hf rfl rfl he ?_
  clear he hf a; intro a hf
  replace hB5 := hB5.chg hx21 (nmc ne_b5_b14 nm0)
  replace hP := hP.chgN hB15 (by decide) ne_b_b14 hx21
  replace hT := hT.chg hx21 (fun k hb hlt2 => (nmc (by have := hE.base; omega) nm0))
  replace hE := hE.trans hx21 (allc (.inr ge_b14) all0)
  clear hB15
  refine sN ?_
  refine hK12 _ _ ?_
  refine wS fun K22 hK22 => ?_
  refine wS fun K23 hK23 => ?_
  refine wR ?_
  refine sM hf rfl rfl ?_
  clear hf a; intro a hf
  refine st_b hf rfl rfl (fun c hc => ex_gtI hf rfl rfl hc) ?_ ?_
  clear hf a; intro h18 a hf
  have hip : 0 < i := by simp at h18; omega
  refine sN ?_
  refine hK23 _ _ ?_
  refine cT hf rfl ?_
  refine wR ?_
  refine sM hf rfl rfl ?_
  clear hf a; intro a hf
  refine sV hf rfl (ex_fa (k := 2) (r := 2) hf rfl (by kernel_rfl) rfl) ?_
  clear hf a; intro a hf
  obtain ⟨lb, lo, rfl, _, hlb, _⟩ := hL.2 (by omega)
  have hlj : ls[c + i - 1]? = some (ls.getD (c + i - 1) []) := by rw [List.getD_eq_getElem?_getD, List.getElem?_eq_getElem (by omega)]; rfl
  have hlg := lsum_get ls (c + i - 1)
  refine sV hf rfl (ex_loadB hf rfl (by kernel_rfl) hB5 rfl) ?_
  clear hf a; intro a hf
  refine sM hf rfl rfl ?_
  clear hf a; intro a hf
  refine sM hf rfl rfl ?_
  clear hf a; intro a hf
  refine sV hf rfl (ex_addI hf rfl rfl rfl (by omega)) ?_
  clear hf a; intro a hf
  refine sV hf rfl (ex_subI hf rfl rfl rfl (by omega)) ?_
  clear hf a; intro a hf
  refine sV hf rfl (ex_index (sz := 1) (k := (c + i - 1)) (r := lo + (c + i - 1) * 1) hf Try.underlying23 (by kernel_rfl) rfl rfl (by omega) (by omega) rfl) ?_
  clear hf a; intro a hf
  refine sV hf rfl (ex_load hf rfl (by kernel_rfl) (by rw [Nat.mul_one]; exact lead_now hL hE hlj)) ?_
  clear hf a; intro a hf
  refine st_c hf rfl rfl rfl (by kernel_rfl) (putL (lead := (ls.getD (c + i - 1) [])) (tok := [44]) hP (by (try simp only [putP, List.length_append, List.length_cons, List.length_nil]); omega) (by (try simp only [putP, List.length_append, List.length_cons, List.length_nil]); omega) hE.now) ?_
  rintro _ w25 ⟨rfl, hPn, hEn⟩
  refine ⟨_, rfl, ?_⟩
  clear hf a; intro a hf
  have hx24 := hEn.chg
  replace hB5 := hB5.chg hx24 (nm_blk hB5 rfl (Ne.symm ne_b_b5))
  replace hB20 := hB20.chg hx24 (nm_blk hB20 rfl (Ne.symm ne_b_b14))
  replace hT := hT.chg hx24 (fun k hb hlt2 => (nm_low hb))
  replace hE := hE.trans hx24 (fun _ h => .inl h)
  clear hP; have hP : Pr Bs b (putP (ls.getD (c + i - 1) []) [44] (listP ls c (treesP (ks.take i)) 0 s)).1 (putP (ls.getD (c + i - 1) []) [44] (listP ls c (treesP (ks.take i)) 0 s)).2 w25 := hPn; clear hPn hEn
  refine sN ?_
  refine hK22 _ _ ?_
  refine wR ?_
  refine sM hf rfl rfl ?_
  clear hf a; intro a hf
  refine sV hf rfl (ex_loadBN (m := 4) hf rfl (by kernel_rfl) hB20 rfl) ?_
  clear hf a; intro a hf
  rw [if_pos hip] at hst
  obtain ⟨hp1, hp2⟩ := put_len (ls.getD (c + i - 1) []) [44] (listP ls c (treesP (ks.take i)) 0 s)
  simp only [List.length_cons, List.length_nil] at hp1 hp2
  refine st_c hf rfl rfl rfl (by kernel_rfl) (ih ks[i] _ Bs b (putP (ls.getD (c + i - 1) []) [44] (listP ls c (treesP (ks.take i)) 0 s)) d0 d1 d2 d3 (hks _ hmem).1 (hks _ hmem).2.1 (hks _ hmem).2.2 (by omega) (by omega) hP hT hE.now) ?_
  rintro _ w27 ⟨rfl, hPn, hEn⟩
  refine ⟨_, rfl, ?_⟩
  clear hf a; intro a hf
  have hx26 := hEn.chg
  replace hB5 := hB5.chg hx26 (nm_blk hB5 rfl (Ne.symm ne_b_b5))
  replace hB20 := hB20.chg hx26 (nm_blk hB20 rfl (Ne.symm ne_b_b14))
  replace hT := hT.chg hx26 (fun k hb hlt2 => (nm_low hb))
  replace hE := hE.trans hx26 (fun _ h => .inl h)
  clear hP; have hP : Pr Bs b (treeP ks[i] (putP (ls.getD (c + i - 1) []) [44] (listP ls c (treesP (ks.take i)) 0 s))).1 (treeP ks[i] (putP (ls.getD (c + i - 1) []) [44] (listP ls c (treesP (ks.take i)) 0 s))).2 w27 := hPn; clear hPn hEn
  refine sN ?_
  refine hK11 _ _ ?_
  refine wR ?_
  refine sV hf rfl (ex_addI hf rfl rfl rfl (by omega)) ?_
  clear hf a; intro a hf
  refine sM hf rfl rfl ?_
  clear hf a; intro a hf
  refine sN ?_
  rw [← hst] at hP
  exact ⟨_, (by omega : ks.length - (i + 1) < ks.length - i), i + 1, hf.pick ⟨rfl, rfl, rfl, rfl, rfl, rfl, trivial⟩, hE, hB5, hP, by omega, rfl⟩
  clear hf a; intro h18 a hf
  have hip : i = 0 := by simp at h18; omega
  refine sN ?_
  refine hK23 _ _ ?_
  refine cF hf rfl ?_
  refine wp_skip ?_
  refine hK22 _ _ ?_
  refine wR ?_
  refine sM hf rfl rfl ?_
  clear hf a; intro a hf
  refine sV hf rfl (ex_loadBN (m := 4) hf rfl (by kernel_rfl) hB20 rfl) ?_
  clear hf a; intro a hf
  rw [if_neg (by omega)] at hst
  refine st_c hf rfl rfl rfl (by kernel_rfl) (ih ks[i] _ Bs b (listP ls c (treesP (ks.take i)) 0 s) d0 d1 d2 d3 (hks _ hmem).1 (hks _ hmem).2.1 (hks _ hmem).2.2 (by omega) (by omega) hP hT hE.now) ?_
  rintro _ w29 ⟨rfl, hPn, hEn⟩
  refine ⟨_, rfl, ?_⟩
  clear hf a; intro a hf
  have hx28 := hEn.chg
  replace hB5 := hB5.chg hx28 (nm_blk hB5 rfl (Ne.symm ne_b_b5))
  replace hB20 := hB20.chg hx28 (nm_blk hB20 rfl (Ne.symm ne_b_b14))
  replace hT := hT.chg hx28 (fun k hb hlt2 => (nm_low hb))
  replace hE := hE.trans hx28 (fun _ h => .inl h)
  clear hP; have hP : Pr Bs b (treeP ks[i] (listP ls c (treesP (ks.take i)) 0 s)).1 (treeP ks[i] (listP ls c (treesP (ks.take i)) 0 s)).2 w29 := hPn; clear hPn hEn
  refine sN ?_
  refine hK11 _ _ ?_
  refine wR ?_
  refine sV hf rfl (ex_addI hf rfl rfl rfl (by omega)) ?_
  clear hf a; intro a hf
  refine sM hf rfl rfl ?_
  clear hf a; intro a hf
  refine sN ?_
  rw [← hst] at hP
  exact ⟨_, (by omega : ks.length - (i + 1) < ks.length - i), i + 1, hf.pick ⟨rfl, rfl, rfl, rfl, rfl, rfl, trivial⟩, hE, hB5, hP, by omega, rfl⟩
  refine wS fun K30 hK30 => ?_
  refine wR ?_
  refine sV hf rfl (ex_ltI (c := false) hf rfl rfl (by simp; omega)) ?_
  clear hf a; intro a hf
  refine sN ?_
  refine hK30 _ _ ?_
  refine wS fun K31 hK31 => ?_
  refine cF hf rfl ?_
  refine wp_exit ?_
  simp only [Exit.then, Exit.inBlock, ↓reduceIte, Nat.reduceEqDiff]
  have hz : ks.take i = ks := List.take_of_length_le (by omega)
  rw [hz] at hP
  try simp only [Exit.then, Exit.inBlock]
  exact end_of (rs := []) hf rfl rfl ⟨rfl, hP, hE⟩
theorem plistI {N : Nat} (ih : TreeOk N) {w : World} {Bs b c : Nat} {s : WS} {ls : List (List UInt8)} {ks : List Tree} {cs : List Value} {k : Int} {x : List UInt8} {A B B2 : Option Addr} {m n n2 m2 : Nat} {ci : Int} (hci : ci = c) (h1c : 1 ≤ c) (hc6 : c ≤ 6) (hcl : c + ks.length ≤ ls.length + 1) (hks : ∀ t, t ∈ ks → tsize t ≤ N ∧ shapedT t = true ∧ leadedT t = true) (hl1 : s.2.length + 10 * lsum ls + 100 * kbulk ks + 10 ≤ 1000000000000) (hl2 : s.1.length + 10 * lsum ls + 100 * kbulk ks + 10 ≤ 1000000000000)
    (hP : Pr Bs b s.1 s.2 w) (hL : RowIn (fun b => b < Bs) w 1 A ls.length (ls.map strV)) (hK : KidsAre (fun b => b < Bs) w ks cs) (hR : RowIn (fun b => b < Bs) w 4 B ks.length cs) (hBw : Bs ≤ w.heap.size) :
    Calls Try.prog 93 [.pointer (some ⟨b, 0, none⟩), .agg #[.int .i64 k, strV x, .slice A ls.length m, .slice B2 n2 m2], .slice B ks.length n, .int .i64 ci].toArray w fun e w' => e = .returned (.tuple #[]) ∧ Pr Bs b (listP ls c (treesP ks) 0 s).1 (listP ls c (treesP ks) 0 s).2 w' ∧ Prn Bs b w w' := by
  subst hci; exact plistL ih h1c hc6 hcl hks hl1 hl2 hP hL hK hR hBw
end Go.Proofs.Ythpjpngfghcmcaa
namespace Go.Proofs.Ythpjpngfghcmcaa
open Go.RowKit Lx Sx
set_option maxRecDepth 100000
set_option maxHeartbeats 4000000
theorem tree_len {t : Tree} (h : leadedT t = true) (s : WS) : (treeP t s).2.length ≤ s.2.length + 100 * tbulk t ∧ (treeP t s).1.length ≤ s.1.length + 100 * tbulk t := Gw.tree _ t (Nat.le_refl _) h s
theorem list_len {ls : List (List UInt8)} {c : Nat} (hc : 1 ≤ c) {ks : List Tree} (h : ∀ t, t ∈ ks → ∀ s, Gw (100 * tbulk t) s (treeP t s)) (s : WS) : (listP ls c (treesP ks) 0 s).2.length ≤ s.2.length + (lsum ls + 2 * ks.length + 100 * kbulk ks) ∧ (listP ls c (treesP ks) 0 s).1.length ≤ s.1.length + (lsum ls + 2 * ks.length + 100 * kbulk ks) := by
  have h1 := Gw.list (ls := ls) hc ks 0 h s
  have h2 := lsum_drop ls (c + 0 - 1)
  exact ⟨by have := h1.1; omega, by have := h1.2; omega⟩
theorem t17 {N : Nat} (ih : TreeOk N) {w : World} {Bs b : Nat} {s : WS} {x : List UInt8} {k0 : Tree} {cs : List Value} {A B : Option Addr} {m n : Nat} (hks : ∀ t, t ∈ [k0] → tsize t ≤ N ∧ shapedT t = true ∧ leadedT t = true)
    (hl1 : s.2.length + 100 * (x.length + lsum ([] : List (List UInt8)) + kbulk [k0] + 1) ≤ 1000000000000) (hl2 : s.1.length + 100 * (x.length + lsum ([] : List (List UInt8)) + kbulk [k0] + 1) ≤ 1000000000000) (hP : Pr Bs b s.1 s.2 w) (hL : RowIn (fun b => b < Bs) w 1 A ([] : List (List UInt8)).length (([] : List (List UInt8)).map strV)) (hn : [k0].length ≤ n) (hn2 : n ≤ maxLen) (hK : KidsAre (fun b => b < Bs) w [k0] cs) (hR : RowIn (fun b => b < Bs) w 4 B [k0].length cs) (hBw : Bs ≤ w.heap.size) :
    Calls Try.prog 61 [.pointer (some ⟨b, 0, none⟩), .agg #[.int .i64 17, strV x, .slice A ([] : List (List UInt8)).length m, .slice B [k0].length n]].toArray w fun e w' => e = .returned (.tuple #[]) ∧ Pr Bs b (treeP (.node 17 x ([] : List (List UInt8)) [k0]) s).1 (treeP (.node 17 x ([] : List (List UInt8)) [k0]) s).2 w' ∧ Prn Bs b w w' := by
  simp only [lsum, kbulk] at hl1 hl2
  have hE := Prn.refl (b := b) hBw
  have hG : s.2.length ≤ s.2.length := Nat.le_refl _
  have hG' : s.1.length ≤ s.1.length := Nat.le_refl _
  obtain ⟨kb, ko, rfl, _, hkb, _⟩ := hR.2 (by simp)
  refine enter_fr 216 Try.func61 rfl rfl rfl ?_
  intro a hf
  refine wS fun K1 hK1 => wR ?_
  obtain ⟨w2, b3, he, hB4, hx5, eb6, lb7⟩ := ef_box (P := Try.prog) (t := 26) (x := (.tmp 1)) hf rfl rfl w 0
  refine sV hf rfl he fun a hf => ?_
  have ge_b3 := Prn.ge_new hE eb6
  have ne_b_b3 : b ≠ b3 := ne_new hP.lt eb6
  replace hP := hP.chg0 hx5
  replace hE := hE.t0 hx5
  clear eb6 lb7
  refine sN <| hK1 _ _ <| wS fun K8 hK8 => wR <| sV hf rfl (ex_fa (k := 0) (r := 0) hf rfl (by kernel_rfl) rfl) fun a hf => sV hf rfl (ex_loadB hf rfl (by kernel_rfl) hB4 rfl) fun a hf => sN <| hK8 _ _ <| wp_block <| wS fun K9 hK9 => wS fun K10 hK10 => wR <| sV hf rfl (ex_eqI (c := false) hf rfl rfl (by decide)) fun a hf => sA hf rfl rfl fun a hf => sN <| hK10 _ _ <| cF hf rfl <| wS fun K11 hK11 => wR <| sV hf rfl (ex_eqI (c := false) hf rfl rfl (by decide)) fun a hf => sA hf rfl rfl fun a hf => sN <| hK11 _ _ <| cF hf rfl <| wS fun K12 hK12 => wR <| sV hf rfl (ex_eqI (c := false) hf rfl rfl (by decide)) fun a hf => sA hf rfl rfl fun a hf => sN <| hK12 _ _ <| cF hf rfl <| wR <| sV hf rfl (ex_eqI (c := false) hf rfl rfl (by decide)) fun a hf => sA hf rfl rfl fun a hf => sN <| hK9 _ _ <| cF hf rfl <| wS fun K13 hK13 => wR <| sV hf rfl (ex_eqI (c := true) hf rfl rfl (by decide)) fun a hf => sA hf rfl rfl fun a hf => sN <| hK13 _ _ <| cT hf rfl <| wR <| sM hf rfl rfl fun a hf => sV hf rfl (ex_fa (k := 3) (r := 3) hf rfl (by kernel_rfl) rfl) fun a hf => sV hf rfl (ex_loadB hf rfl (by kernel_rfl) hB4 rfl) fun a hf => sV hf rfl (ex_index (sz := 4) (k := 0) (r := ko) hf Try.underlying24 (by kernel_rfl) rfl rfl rfl (by simp) rfl) fun a hf => ?_
  obtain ⟨d0, d1, d2, d3, hT, hK4⟩ := kid_now hK hR hE (i := 0) (t := k0) rfl
  have on_T := hT.one
  refine sV hf rfl (ex_loadN (cs := [d0, d1, d2, d3]) (m := 4) hf rfl (by kernel_rfl) rfl hK4) fun a hf => st_c hf rfl rfl rfl (by kernel_rfl) (ih k0 _ Bs b s d0 d1 d2 d3 (hks _ (by simp)).1 (hks _ (by simp)).2.1 (hks _ (by simp)).2.2 (by (try simp only [putP, List.length_append, List.length_cons, List.length_nil]); omega) (by (try simp only [putP, List.length_append, List.length_cons, List.length_nil]); omega) hP hT hE.now) ?_
  rintro _ w16 ⟨rfl, hPn, hEn⟩
  refine ⟨_, rfl, fun a hf => ?_⟩
  have hx15 := hEn.chg
  replace hB4 := hB4.chg hx15 (nm_blk hB4 rfl (Ne.symm ne_b_b3))
  replace hE := hE.trans hx15 (fun _ h => .inl h)
  obtain ⟨s14, es14⟩ : ∃ z, z = treeP k0 s := ⟨_, rfl⟩
  replace hPn : Pr Bs b (treeP k0 s).1 (treeP k0 s).2 w16 := hPn
  rw [← es14] at hPn
  have gs14 := tree_len (t := k0) (hks _ (by simp)).2.2 s
  rw [← es14] at gs14
  obtain ⟨gs14, gs14'⟩ := gs14
  (try simp only [List.length_cons, List.length_nil, lsum] at gs14 gs14')
  replace hG := nlt gs14 (Nat.add_le_add_right hG _)
  replace hG' := nlt gs14' (Nat.add_le_add_right hG' _)
  clear gs14 gs14'
  clear hP; have hP := hPn; clear hPn hEn
  refine sN ?_
  have eq : treeP (.node 17 x ([] : List (List UInt8)) [k0]) s = s14 := by subst es14; rfl
  rw [eq]
  try simp only [Exit.then, Exit.inBlock]
  exact end_of (rs := []) hf rfl rfl ⟨rfl, hP, hE⟩
theorem t8 {N : Nat} (ih : TreeOk N) {w : World} {Bs b : Nat} {s : WS} {x : List UInt8} {l0 l1 : List UInt8} {k0 : Tree} {cs : List Value} {A B : Option Addr} {m n : Nat} (hks : ∀ t, t ∈ [k0] → tsize t ≤ N ∧ shapedT t = true ∧ leadedT t = true)
    (hl1 : s.2.length + 100 * (x.length + lsum [l0, l1] + kbulk [k0] + 1) ≤ 1000000000000) (hl2 : s.1.length + 100 * (x.length + lsum [l0, l1] + kbulk [k0] + 1) ≤ 1000000000000) (hP : Pr Bs b s.1 s.2 w) (hL : RowIn (fun b => b < Bs) w 1 A [l0, l1].length ([l0, l1].map strV)) (hn : [k0].length ≤ n) (hn2 : n ≤ maxLen) (hK : KidsAre (fun b => b < Bs) w [k0] cs) (hR : RowIn (fun b => b < Bs) w 4 B [k0].length cs) (hBw : Bs ≤ w.heap.size) :
    Calls Try.prog 61 [.pointer (some ⟨b, 0, none⟩), .agg #[.int .i64 8, strV x, .slice A [l0, l1].length m, .slice B [k0].length n]].toArray w fun e w' => e = .returned (.tuple #[]) ∧ Pr Bs b (treeP (.node 8 x [l0, l1] [k0]) s).1 (treeP (.node 8 x [l0, l1] [k0]) s).2 w' ∧ Prn Bs b w w' := by
  simp only [lsum, kbulk] at hl1 hl2
  have hE := Prn.refl (b := b) hBw
  have hG : s.2.length ≤ s.2.length := Nat.le_refl _
  have hG' : s.1.length ≤ s.1.length := Nat.le_refl _
  obtain ⟨lb, lo, rfl, _, hlb, _⟩ := hL.2 (by simp)
  obtain ⟨kb, ko, rfl, _, hkb, _⟩ := hR.2 (by simp)
  refine enter_fr 216 Try.func61 rfl rfl rfl ?_
  intro a hf
  refine wS fun K1 hK1 => wR ?_
  obtain ⟨w2, b3, he, hB4, hx5, eb6, lb7⟩ := ef_box (P := Try.prog) (t := 26) (x := (.tmp 1)) hf rfl rfl w 0
  refine sV hf rfl he fun a hf => ?_
  have ge_b3 := Prn.ge_new hE eb6
  have ne_b_b3 : b ≠ b3 := ne_new hP.lt eb6
  replace hP := hP.chg0 hx5
  replace hE := hE.t0 hx5
  clear eb6 lb7
  refine sN <| hK1 _ _ <| wS fun K8 hK8 => wR <| sV hf rfl (ex_fa (k := 0) (r := 0) hf rfl (by kernel_rfl) rfl) fun a hf => sV hf rfl (ex_loadB hf rfl (by kernel_rfl) hB4 rfl) fun a hf => sN <| hK8 _ _ <| wp_block <| wS fun K9 hK9 => wS fun K10 hK10 => wR <| sV hf rfl (ex_eqI (c := false) hf rfl rfl (by decide)) fun a hf => sA hf rfl rfl fun a hf => sN <| hK10 _ _ <| cF hf rfl <| wS fun K11 hK11 => wR <| sV hf rfl (ex_eqI (c := false) hf rfl rfl (by decide)) fun a hf => sA hf rfl rfl fun a hf => sN <| hK11 _ _ <| cF hf rfl <| wS fun K12 hK12 => wR <| sV hf rfl (ex_eqI (c := false) hf rfl rfl (by decide)) fun a hf => sA hf rfl rfl fun a hf => sN <| hK12 _ _ <| cF hf rfl <| wR <| sV hf rfl (ex_eqI (c := false) hf rfl rfl (by decide)) fun a hf => sA hf rfl rfl fun a hf => sN <| hK9 _ _ <| cF hf rfl <| wS fun K13 hK13 => wR <| sV hf rfl (ex_eqI (c := false) hf rfl rfl (by decide)) fun a hf => sA hf rfl rfl fun a hf => sN <| hK13 _ _ <| cF hf rfl <| wS fun K14 hK14 => wR <| sV hf rfl (ex_eqI (c := true) hf rfl rfl (by decide)) fun a hf => sA hf rfl rfl fun a hf => sN <| hK14 _ _ <| cT hf rfl <| wS fun K15 hK15 => wR <| sM hf rfl rfl fun a hf => sV hf rfl (ex_fa (k := 2) (r := 2) hf rfl (by kernel_rfl) rfl) fun a hf => sV hf rfl (ex_loadB hf rfl (by kernel_rfl) hB4 rfl) fun a hf => sV hf rfl (ex_index (sz := 1) (k := 0) (r := lo) hf Try.underlying23 (by kernel_rfl) rfl rfl rfl (by simp) rfl) fun a hf => sV hf rfl (ex_load hf rfl (by kernel_rfl) (lead_now hL hE (j := 0) rfl)) fun a hf => st_c hf rfl rfl rfl (by kernel_rfl) (putL (lead := l0) (tok := [91]) hP (by (try simp only [putP, List.length_append, List.length_cons, List.length_nil]); omega) (by (try simp only [putP, List.length_append, List.length_cons, List.length_nil]); omega) hE.now) ?_
  rintro _ w18 ⟨rfl, hPn, hEn⟩
  refine ⟨_, rfl, fun a hf => ?_⟩
  have hx17 := hEn.chg
  replace hB4 := hB4.chg hx17 (nm_blk hB4 rfl (Ne.symm ne_b_b3))
  replace hE := hE.trans hx17 (fun _ h => .inl h)
  obtain ⟨s16, es16⟩ : ∃ z, z = putP l0 [91] s := ⟨_, rfl⟩
  replace hPn : Pr Bs b (putP l0 [91] s).1 (putP l0 [91] s).2 w18 := hPn
  rw [← es16] at hPn
  have gs16 := put_len l0 [91] s
  rw [← es16] at gs16
  obtain ⟨gs16, gs16'⟩ := gs16
  (try simp only [List.length_cons, List.length_nil, lsum] at gs16 gs16')
  replace hG := nlt gs16 (Nat.add_le_add_right hG _)
  replace hG' := nlt gs16' (Nat.add_le_add_right hG' _)
  clear gs16 gs16'
  clear hP; have hP := hPn; clear hPn hEn
  refine sN <| hK15 _ _ <| wS fun K19 hK19 => wR <| sM hf rfl rfl fun a hf => sV hf rfl (ex_fa (k := 3) (r := 3) hf rfl (by kernel_rfl) rfl) fun a hf => sV hf rfl (ex_loadB hf rfl (by kernel_rfl) hB4 rfl) fun a hf => sV hf rfl (ex_index (sz := 4) (k := 0) (r := ko) hf Try.underlying24 (by kernel_rfl) rfl rfl rfl (by simp) rfl) fun a hf => ?_
  obtain ⟨d0, d1, d2, d3, hT, hK4⟩ := kid_now hK hR hE (i := 0) (t := k0) rfl
  have on_T := hT.one
  refine sV hf rfl (ex_loadN (cs := [d0, d1, d2, d3]) (m := 4) hf rfl (by kernel_rfl) rfl hK4) fun a hf => st_c hf rfl rfl rfl (by kernel_rfl) (ih k0 _ Bs b s16 d0 d1 d2 d3 (hks _ (by simp)).1 (hks _ (by simp)).2.1 (hks _ (by simp)).2.2 (by (try simp only [putP, List.length_append, List.length_cons, List.length_nil]); omega) (by (try simp only [putP, List.length_append, List.length_cons, List.length_nil]); omega) hP hT hE.now) ?_
  rintro _ w22 ⟨rfl, hPn, hEn⟩
  refine ⟨_, rfl, fun a hf => ?_⟩
  have hx21 := hEn.chg
  replace hB4 := hB4.chg hx21 (nm_blk hB4 rfl (Ne.symm ne_b_b3))
  replace hE := hE.trans hx21 (fun _ h => .inl h)
  obtain ⟨s20, es20⟩ : ∃ z, z = treeP k0 s16 := ⟨_, rfl⟩
  replace hPn : Pr Bs b (treeP k0 s16).1 (treeP k0 s16).2 w22 := hPn
  rw [← es20] at hPn
  have gs20 := tree_len (t := k0) (hks _ (by simp)).2.2 s16
  rw [← es20] at gs20
  obtain ⟨gs20, gs20'⟩ := gs20
  (try simp only [List.length_cons, List.length_nil, lsum] at gs20 gs20')
  replace hG := nlt gs20 (Nat.add_le_add_right hG _)
  replace hG' := nlt gs20' (Nat.add_le_add_right hG' _)
  clear gs20 gs20'
  clear hP; have hP := hPn; clear hPn hEn
  refine sN <| hK19 _ _ <| wR <| sM hf rfl rfl fun a hf => sV hf rfl (ex_fa (k := 2) (r := 2) hf rfl (by kernel_rfl) rfl) fun a hf => sV hf rfl (ex_loadB hf rfl (by kernel_rfl) hB4 rfl) fun a hf => sV hf rfl (ex_index (sz := 1) (k := 1) (r := lo + 1) hf Try.underlying23 (by kernel_rfl) rfl rfl rfl (by simp) rfl) fun a hf => sV hf rfl (ex_load hf rfl (by kernel_rfl) (lead_now hL hE (j := 1) rfl)) fun a hf => st_c hf rfl rfl rfl (by kernel_rfl) (putL (lead := l1) (tok := [93]) hP (by (try simp only [putP, List.length_append, List.length_cons, List.length_nil]); omega) (by (try simp only [putP, List.length_append, List.length_cons, List.length_nil]); omega) hE.now) ?_
  rintro _ w25 ⟨rfl, hPn, hEn⟩
  refine ⟨_, rfl, fun a hf => ?_⟩
  have hx24 := hEn.chg
  replace hB4 := hB4.chg hx24 (nm_blk hB4 rfl (Ne.symm ne_b_b3))
  replace hE := hE.trans hx24 (fun _ h => .inl h)
  obtain ⟨s23, es23⟩ : ∃ z, z = putP l1 [93] s20 := ⟨_, rfl⟩
  replace hPn : Pr Bs b (putP l1 [93] s20).1 (putP l1 [93] s20).2 w25 := hPn
  rw [← es23] at hPn
  have gs23 := put_len l1 [93] s20
  rw [← es23] at gs23
  obtain ⟨gs23, gs23'⟩ := gs23
  (try simp only [List.length_cons, List.length_nil, lsum] at gs23 gs23')
  replace hG := nlt gs23 (Nat.add_le_add_right hG _)
  replace hG' := nlt gs23' (Nat.add_le_add_right hG' _)
  clear gs23 gs23'
  clear hP; have hP := hPn; clear hPn hEn
  refine sN ?_
  have eq : treeP (.node 8 x [l0, l1] [k0]) s = s23 := by subst es23; subst es20; subst es16; rfl
  rw [eq]
  try simp only [Exit.then, Exit.inBlock]
  exact end_of (rs := []) hf rfl rfl ⟨rfl, hP, hE⟩
theorem t19 {N : Nat} (ih : TreeOk N) {w : World} {Bs b : Nat} {s : WS} {x : List UInt8} {l0 l1 l2 : List UInt8} {k0 k1 k2 : Tree} {cs : List Value} {A B : Option Addr} {m n : Nat} (hks : ∀ t, t ∈ [k0, k1, k2] → tsize t ≤ N ∧ shapedT t = true ∧ leadedT t = true)
    (hl1 : s.2.length + 100 * (x.length + lsum [l0, l1, l2] + kbulk [k0, k1, k2] + 1) ≤ 1000000000000) (hl2 : s.1.length + 100 * (x.length + lsum [l0, l1, l2] + kbulk [k0, k1, k2] + 1) ≤ 1000000000000) (hP : Pr Bs b s.1 s.2 w) (hL : RowIn (fun b => b < Bs) w 1 A [l0, l1, l2].length ([l0, l1, l2].map strV)) (hn : [k0, k1, k2].length ≤ n) (hn2 : n ≤ maxLen) (hK : KidsAre (fun b => b < Bs) w [k0, k1, k2] cs) (hR : RowIn (fun b => b < Bs) w 4 B [k0, k1, k2].length cs) (hBw : Bs ≤ w.heap.size) :
    Calls Try.prog 61 [.pointer (some ⟨b, 0, none⟩), .agg #[.int .i64 19, strV x, .slice A [l0, l1, l2].length m, .slice B [k0, k1, k2].length n]].toArray w fun e w' => e = .returned (.tuple #[]) ∧ Pr Bs b (treeP (.node 19 x [l0, l1, l2] [k0, k1, k2]) s).1 (treeP (.node 19 x [l0, l1, l2] [k0, k1, k2]) s).2 w' ∧ Prn Bs b w w' := by
  simp only [lsum, kbulk] at hl1 hl2
  have hE := Prn.refl (b := b) hBw
  have hG : s.2.length ≤ s.2.length := Nat.le_refl _
  have hG' : s.1.length ≤ s.1.length := Nat.le_refl _
  obtain ⟨lb, lo, rfl, _, hlb, _⟩ := hL.2 (by simp)
  obtain ⟨kb, ko, rfl, _, hkb, _⟩ := hR.2 (by simp)
  refine enter_fr 216 Try.func61 rfl rfl rfl ?_
  intro a hf
  refine wS fun K1 hK1 => wR ?_
  obtain ⟨w2, b3, he, hB4, hx5, eb6, lb7⟩ := ef_box (P := Try.prog) (t := 26) (x := (.tmp 1)) hf rfl rfl w 0
  refine sV hf rfl he fun a hf => ?_
  have ge_b3 := Prn.ge_new hE eb6
  have ne_b_b3 : b ≠ b3 := ne_new hP.lt eb6
  replace hP := hP.chg0 hx5
  replace hE := hE.t0 hx5
  clear eb6 lb7
  refine sN <| hK1 _ _ <| wS fun K8 hK8 => wR <| sV hf rfl (ex_fa (k := 0) (r := 0) hf rfl (by kernel_rfl) rfl) fun a hf => sV hf rfl (ex_loadB hf rfl (by kernel_rfl) hB4 rfl) fun a hf => sN <| hK8 _ _ <| wp_block <| wS fun K9 hK9 => wS fun K10 hK10 => wR <| sV hf rfl (ex_eqI (c := false) hf rfl rfl (by decide)) fun a hf => sA hf rfl rfl fun a hf => sN <| hK10 _ _ <| cF hf rfl <| wS fun K11 hK11 => wR <| sV hf rfl (ex_eqI (c := false) hf rfl rfl (by decide)) fun a hf => sA hf rfl rfl fun a hf => sN <| hK11 _ _ <| cF hf rfl <| wS fun K12 hK12 => wR <| sV hf rfl (ex_eqI (c := false) hf rfl rfl (by decide)) fun a hf => sA hf rfl rfl fun a hf => sN <| hK12 _ _ <| cF hf rfl <| wR <| sV hf rfl (ex_eqI (c := false) hf rfl rfl (by decide)) fun a hf => sA hf rfl rfl fun a hf => sN <| hK9 _ _ <| cF hf rfl <| wS fun K13 hK13 => wR <| sV hf rfl (ex_eqI (c := false) hf rfl rfl (by decide)) fun a hf => sA hf rfl rfl fun a hf => sN <| hK13 _ _ <| cF hf rfl <| wS fun K14 hK14 => wR <| sV hf rfl (ex_eqI (c := false) hf rfl rfl (by decide)) fun a hf => sA hf rfl rfl fun a hf => sN <| hK14 _ _ <| cF hf rfl <| wS fun K15 hK15 => wR <| sV hf rfl (ex_eqI (c := false) hf rfl rfl (by decide)) fun a hf => sA hf rfl rfl fun a hf => sN <| hK15 _ _ <| cF hf rfl <| wS fun K16 hK16 => wR <| sV hf rfl (ex_eqI (c := false) hf rfl rfl (by decide)) fun a hf => sA hf rfl rfl fun a hf => sN <| hK16 _ _ <| cF hf rfl <| wS fun K17 hK17 => wR <| sV hf rfl (ex_eqI (c := true) hf rfl rfl (by decide)) fun a hf => sA hf rfl rfl fun a hf => sN <| hK17 _ _ <| cT hf rfl <| wS fun K18 hK18 => wR <| sM hf rfl rfl fun a hf => sV hf rfl (ex_fa (k := 2) (r := 2) hf rfl (by kernel_rfl) rfl) fun a hf => sV hf rfl (ex_loadB hf rfl (by kernel_rfl) hB4 rfl) fun a hf => sV hf rfl (ex_index (sz := 1) (k := 0) (r := lo) hf Try.underlying23 (by kernel_rfl) rfl rfl rfl (by simp) rfl) fun a hf => sV hf rfl (ex_load hf rfl (by kernel_rfl) (lead_now hL hE (j := 0) rfl)) fun a hf => ?_
  refine st_c hf rfl rfl rfl (by kernel_rfl) (putL (lead := l0) (tok := [105, 102]) hP (by (try simp only [putP, List.length_append, List.length_cons, List.length_nil]); omega) (by (try simp only [putP, List.length_append, List.length_cons, List.length_nil]); omega) hE.now) ?_
  rintro _ w21 ⟨rfl, hPn, hEn⟩
  refine ⟨_, rfl, fun a hf => ?_⟩
  have hx20 := hEn.chg
  replace hB4 := hB4.chg hx20 (nm_blk hB4 rfl (Ne.symm ne_b_b3))
  replace hE := hE.trans hx20 (fun _ h => .inl h)
  obtain ⟨s19, es19⟩ : ∃ z, z = putP l0 [105, 102] s := ⟨_, rfl⟩
  replace hPn : Pr Bs b (putP l0 [105, 102] s).1 (putP l0 [105, 102] s).2 w21 := hPn
  rw [← es19] at hPn
  have gs19 := put_len l0 [105, 102] s
  rw [← es19] at gs19
  obtain ⟨gs19, gs19'⟩ := gs19
  (try simp only [List.length_cons, List.length_nil, lsum] at gs19 gs19')
  replace hG := nlt gs19 (Nat.add_le_add_right hG _)
  replace hG' := nlt gs19' (Nat.add_le_add_right hG' _)
  clear gs19 gs19'
  clear hP; have hP := hPn; clear hPn hEn
  refine sN <| hK18 _ _ <| wS fun K22 hK22 => wR <| sM hf rfl rfl fun a hf => sV hf rfl (ex_fa (k := 3) (r := 3) hf rfl (by kernel_rfl) rfl) fun a hf => sV hf rfl (ex_loadB hf rfl (by kernel_rfl) hB4 rfl) fun a hf => sV hf rfl (ex_index (sz := 4) (k := 0) (r := ko) hf Try.underlying24 (by kernel_rfl) rfl rfl rfl (by simp) rfl) fun a hf => ?_
  obtain ⟨d0, d1, d2, d3, hT, hK4⟩ := kid_now hK hR hE (i := 0) (t := k0) rfl
  have on_T := hT.one
  refine sV hf rfl (ex_loadN (cs := [d0, d1, d2, d3]) (m := 4) hf rfl (by kernel_rfl) rfl hK4) fun a hf => st_c hf rfl rfl rfl (by kernel_rfl) (ih k0 _ Bs b s19 d0 d1 d2 d3 (hks _ (by simp)).1 (hks _ (by simp)).2.1 (hks _ (by simp)).2.2 (by (try simp only [putP, List.length_append, List.length_cons, List.length_nil]); omega) (by (try simp only [putP, List.length_append, List.length_cons, List.length_nil]); omega) hP hT hE.now) ?_
  rintro _ w25 ⟨rfl, hPn, hEn⟩
  refine ⟨_, rfl, fun a hf => ?_⟩
  have hx24 := hEn.chg
  replace hB4 := hB4.chg hx24 (nm_blk hB4 rfl (Ne.symm ne_b_b3))
  replace hE := hE.trans hx24 (fun _ h => .inl h)
  obtain ⟨s23, es23⟩ : ∃ z, z = treeP k0 s19 := ⟨_, rfl⟩
  replace hPn : Pr Bs b (treeP k0 s19).1 (treeP k0 s19).2 w25 := hPn
  rw [← es23] at hPn
  have gs23 := tree_len (t := k0) (hks _ (by simp)).2.2 s19
  rw [← es23] at gs23
  obtain ⟨gs23, gs23'⟩ := gs23
  (try simp only [List.length_cons, List.length_nil, lsum] at gs23 gs23')
  replace hG := nlt gs23 (Nat.add_le_add_right hG _)
  replace hG' := nlt gs23' (Nat.add_le_add_right hG' _)
  clear gs23 gs23'
  clear hP; have hP := hPn; clear hPn hEn
  refine sN <| hK22 _ _ <| wS fun K26 hK26 => wR <| sM hf rfl rfl fun a hf => sV hf rfl (ex_fa (k := 2) (r := 2) hf rfl (by kernel_rfl) rfl) fun a hf => sV hf rfl (ex_loadB hf rfl (by kernel_rfl) hB4 rfl) fun a hf => sV hf rfl (ex_index (sz := 1) (k := 1) (r := lo + 1) hf Try.underlying23 (by kernel_rfl) rfl rfl rfl (by simp) rfl) fun a hf => sV hf rfl (ex_load hf rfl (by kernel_rfl) (lead_now hL hE (j := 1) rfl)) fun a hf => st_c hf rfl rfl rfl (by kernel_rfl) (putL (lead := l1) (tok := [116, 104, 101, 110]) hP (by (try simp only [putP, List.length_append, List.length_cons, List.length_nil]); omega) (by (try simp only [putP, List.length_append, List.length_cons, List.length_nil]); omega) hE.now) ?_
  rintro _ w29 ⟨rfl, hPn, hEn⟩
  refine ⟨_, rfl, fun a hf => ?_⟩
  have hx28 := hEn.chg
  replace hB4 := hB4.chg hx28 (nm_blk hB4 rfl (Ne.symm ne_b_b3))
  replace hE := hE.trans hx28 (fun _ h => .inl h)
  obtain ⟨s27, es27⟩ : ∃ z, z = putP l1 [116, 104, 101, 110] s23 := ⟨_, rfl⟩
  replace hPn : Pr Bs b (putP l1 [116, 104, 101, 110] s23).1 (putP l1 [116, 104, 101, 110] s23).2 w29 := hPn
  rw [← es27] at hPn
  have gs27 := put_len l1 [116, 104, 101, 110] s23
  rw [← es27] at gs27
  obtain ⟨gs27, gs27'⟩ := gs27
  (try simp only [List.length_cons, List.length_nil, lsum] at gs27 gs27')
  replace hG := nlt gs27 (Nat.add_le_add_right hG _)
  replace hG' := nlt gs27' (Nat.add_le_add_right hG' _)
  clear gs27 gs27'
  clear hP; have hP := hPn; clear hPn hEn
  refine sN <| hK26 _ _ <| wS fun K30 hK30 => wR <| sM hf rfl rfl fun a hf => sV hf rfl (ex_fa (k := 3) (r := 3) hf rfl (by kernel_rfl) rfl) fun a hf => sV hf rfl (ex_loadB hf rfl (by kernel_rfl) hB4 rfl) fun a hf => sV hf rfl (ex_index (sz := 4) (k := 1) (r := ko + 4) hf Try.underlying24 (by kernel_rfl) rfl rfl rfl (by simp) rfl) fun a hf => ?_
  obtain ⟨d0, d1, d2, d3, hT, hK4⟩ := kid_now hK hR hE (i := 1) (t := k1) rfl
  have on_T := hT.one
  refine sV hf rfl (ex_loadN (cs := [d0, d1, d2, d3]) (m := 4) hf rfl (by kernel_rfl) rfl hK4) fun a hf => st_c hf rfl rfl rfl (by kernel_rfl) (ih k1 _ Bs b s27 d0 d1 d2 d3 (hks _ (by simp)).1 (hks _ (by simp)).2.1 (hks _ (by simp)).2.2 (by (try simp only [putP, List.length_append, List.length_cons, List.length_nil]); omega) (by (try simp only [putP, List.length_append, List.length_cons, List.length_nil]); omega) hP hT hE.now) ?_
  rintro _ w33 ⟨rfl, hPn, hEn⟩
  refine ⟨_, rfl, fun a hf => ?_⟩
  have hx32 := hEn.chg
  replace hB4 := hB4.chg hx32 (nm_blk hB4 rfl (Ne.symm ne_b_b3))
  replace hE := hE.trans hx32 (fun _ h => .inl h)
  obtain ⟨s31, es31⟩ : ∃ z, z = treeP k1 s27 := ⟨_, rfl⟩
  replace hPn : Pr Bs b (treeP k1 s27).1 (treeP k1 s27).2 w33 := hPn
  rw [← es31] at hPn
  have gs31 := tree_len (t := k1) (hks _ (by simp)).2.2 s27
  rw [← es31] at gs31
  obtain ⟨gs31, gs31'⟩ := gs31
  (try simp only [List.length_cons, List.length_nil, lsum] at gs31 gs31')
  replace hG := nlt gs31 (Nat.add_le_add_right hG _)
  replace hG' := nlt gs31' (Nat.add_le_add_right hG' _)
  clear gs31 gs31'
  clear hP; have hP := hPn; clear hPn hEn
  refine sN <| hK30 _ _ <| wS fun K34 hK34 => wR <| sM hf rfl rfl fun a hf => sV hf rfl (ex_fa (k := 2) (r := 2) hf rfl (by kernel_rfl) rfl) fun a hf => sV hf rfl (ex_loadB hf rfl (by kernel_rfl) hB4 rfl) fun a hf => sV hf rfl (ex_index (sz := 1) (k := 2) (r := lo + 2) hf Try.underlying23 (by kernel_rfl) rfl rfl rfl (by simp) rfl) fun a hf => sV hf rfl (ex_load hf rfl (by kernel_rfl) (lead_now hL hE (j := 2) rfl)) fun a hf => st_c hf rfl rfl rfl (by kernel_rfl) (putL (lead := l2) (tok := [101, 108, 115, 101]) hP (by (try simp only [putP, List.length_append, List.length_cons, List.length_nil]); omega) (by (try simp only [putP, List.length_append, List.length_cons, List.length_nil]); omega) hE.now) ?_
  rintro _ w37 ⟨rfl, hPn, hEn⟩
  refine ⟨_, rfl, fun a hf => ?_⟩
  have hx36 := hEn.chg
  replace hB4 := hB4.chg hx36 (nm_blk hB4 rfl (Ne.symm ne_b_b3))
  replace hE := hE.trans hx36 (fun _ h => .inl h)
  obtain ⟨s35, es35⟩ : ∃ z, z = putP l2 [101, 108, 115, 101] s31 := ⟨_, rfl⟩
  replace hPn : Pr Bs b (putP l2 [101, 108, 115, 101] s31).1 (putP l2 [101, 108, 115, 101] s31).2 w37 := hPn
  rw [← es35] at hPn
  have gs35 := put_len l2 [101, 108, 115, 101] s31
  rw [← es35] at gs35
  obtain ⟨gs35, gs35'⟩ := gs35
  (try simp only [List.length_cons, List.length_nil, lsum] at gs35 gs35')
  replace hG := nlt gs35 (Nat.add_le_add_right hG _)
  replace hG' := nlt gs35' (Nat.add_le_add_right hG' _)
  clear gs35 gs35'
  clear hP; have hP := hPn; clear hPn hEn
  refine sN <| hK34 _ _ <| wR <| sM hf rfl rfl fun a hf => sV hf rfl (ex_fa (k := 3) (r := 3) hf rfl (by kernel_rfl) rfl) fun a hf => sV hf rfl (ex_loadB hf rfl (by kernel_rfl) hB4 rfl) fun a hf => sV hf rfl (ex_index (sz := 4) (k := 2) (r := ko + 8) hf Try.underlying24 (by kernel_rfl) rfl rfl rfl (by simp) rfl) fun a hf => ?_
  obtain ⟨d0, d1, d2, d3, hT, hK4⟩ := kid_now hK hR hE (i := 2) (t := k2) rfl
  have on_T := hT.one
  refine sV hf rfl (ex_loadN (cs := [d0, d1, d2, d3]) (m := 4) hf rfl (by kernel_rfl) rfl hK4) fun a hf => st_c hf rfl rfl rfl (by kernel_rfl) (ih k2 _ Bs b s35 d0 d1 d2 d3 (hks _ (by simp)).1 (hks _ (by simp)).2.1 (hks _ (by simp)).2.2 (by (try simp only [putP, List.length_append, List.length_cons, List.length_nil]); omega) (by (try simp only [putP, List.length_append, List.length_cons, List.length_nil]); omega) hP hT hE.now) ?_
  rintro _ w40 ⟨rfl, hPn, hEn⟩
  refine ⟨_, rfl, fun a hf => ?_⟩
  have hx39 := hEn.chg
  replace hB4 := hB4.chg hx39 (nm_blk hB4 rfl (Ne.symm ne_b_b3))
  replace hE := hE.trans hx39 (fun _ h => .inl h)
  obtain ⟨s38, es38⟩ : ∃ z, z = treeP k2 s35 := ⟨_, rfl⟩
  replace hPn : Pr Bs b (treeP k2 s35).1 (treeP k2 s35).2 w40 := hPn
  rw [← es38] at hPn
  have gs38 := tree_len (t := k2) (hks _ (by simp)).2.2 s35
  rw [← es38] at gs38
  obtain ⟨gs38, gs38'⟩ := gs38
  (try simp only [List.length_cons, List.length_nil, lsum] at gs38 gs38')
  replace hG := nlt gs38 (Nat.add_le_add_right hG _)
  replace hG' := nlt gs38' (Nat.add_le_add_right hG' _)
  clear gs38 gs38'
  clear hP; have hP := hPn; clear hPn hEn
  refine sN ?_
  have eq : treeP (.node 19 x [l0, l1, l2] [k0, k1, k2]) s = s38 := by subst es38; subst es35; subst es31; subst es27; subst es23; subst es19; rfl
  rw [eq]
  try simp only [Exit.then, Exit.inBlock]
  exact end_of (rs := []) hf rfl rfl ⟨rfl, hP, hE⟩
theorem t20 {N : Nat} (ih : TreeOk N) {w : World} {Bs b : Nat} {s : WS} {x : List UInt8} {l0 l1 l2 l3 : List UInt8} {k0 k1 : Tree} {cs : List Value} {A B : Option Addr} {m n : Nat} (hks : ∀ t, t ∈ [k0, k1] → tsize t ≤ N ∧ shapedT t = true ∧ leadedT t = true)
    (hl1 : s.2.length + 100 * (x.length + lsum [l0, l1, l2, l3] + kbulk [k0, k1] + 1) ≤ 1000000000000) (hl2 : s.1.length + 100 * (x.length + lsum [l0, l1, l2, l3] + kbulk [k0, k1] + 1) ≤ 1000000000000) (hP : Pr Bs b s.1 s.2 w) (hL : RowIn (fun b => b < Bs) w 1 A [l0, l1, l2, l3].length ([l0, l1, l2, l3].map strV)) (hn : [k0, k1].length ≤ n) (hn2 : n ≤ maxLen) (hK : KidsAre (fun b => b < Bs) w [k0, k1] cs) (hR : RowIn (fun b => b < Bs) w 4 B [k0, k1].length cs) (hBw : Bs ≤ w.heap.size) :
    Calls Try.prog 61 [.pointer (some ⟨b, 0, none⟩), .agg #[.int .i64 20, strV x, .slice A [l0, l1, l2, l3].length m, .slice B [k0, k1].length n]].toArray w fun e w' => e = .returned (.tuple #[]) ∧ Pr Bs b (treeP (.node 20 x [l0, l1, l2, l3] [k0, k1]) s).1 (treeP (.node 20 x [l0, l1, l2, l3] [k0, k1]) s).2 w' ∧ Prn Bs b w w' := by
  simp only [lsum, kbulk] at hl1 hl2
  have hE := Prn.refl (b := b) hBw
  have hG : s.2.length ≤ s.2.length := Nat.le_refl _
  have hG' : s.1.length ≤ s.1.length := Nat.le_refl _
  obtain ⟨lb, lo, rfl, _, hlb, _⟩ := hL.2 (by simp)
  obtain ⟨kb, ko, rfl, _, hkb, _⟩ := hR.2 (by simp)
  refine enter_fr 216 Try.func61 rfl rfl rfl ?_
  intro a hf
  refine wS fun K1 hK1 => wR ?_
  obtain ⟨w2, b3, he, hB4, hx5, eb6, lb7⟩ := ef_box (P := Try.prog) (t := 26) (x := (.tmp 1)) hf rfl rfl w 0
  refine sV hf rfl he fun a hf => ?_
  have ge_b3 := Prn.ge_new hE eb6
  have ne_b_b3 : b ≠ b3 := ne_new hP.lt eb6
  replace hP := hP.chg0 hx5
  replace hE := hE.t0 hx5
  clear eb6 lb7
  refine sN <| hK1 _ _ <| wS fun K8 hK8 => wR <| sV hf rfl (ex_fa (k := 0) (r := 0) hf rfl (by kernel_rfl) rfl) fun a hf => sV hf rfl (ex_loadB hf rfl (by kernel_rfl) hB4 rfl) fun a hf => sN <| hK8 _ _ <| wp_block <| wS fun K9 hK9 => wS fun K10 hK10 => wR <| sV hf rfl (ex_eqI (c := false) hf rfl rfl (by decide)) fun a hf => sA hf rfl rfl fun a hf => sN <| hK10 _ _ <| cF hf rfl <| wS fun K11 hK11 => wR <| sV hf rfl (ex_eqI (c := false) hf rfl rfl (by decide)) fun a hf => sA hf rfl rfl fun a hf => sN <| hK11 _ _ <| cF hf rfl <| wS fun K12 hK12 => wR <| sV hf rfl (ex_eqI (c := false) hf rfl rfl (by decide)) fun a hf => sA hf rfl rfl fun a hf => sN <| hK12 _ _ <| cF hf rfl <| wR <| sV hf rfl (ex_eqI (c := false) hf rfl rfl (by decide)) fun a hf => sA hf rfl rfl fun a hf => sN <| hK9 _ _ <| cF hf rfl <| wS fun K13 hK13 => wR <| sV hf rfl (ex_eqI (c := false) hf rfl rfl (by decide)) fun a hf => sA hf rfl rfl fun a hf => sN <| hK13 _ _ <| cF hf rfl <| wS fun K14 hK14 => wR <| sV hf rfl (ex_eqI (c := false) hf rfl rfl (by decide)) fun a hf => sA hf rfl rfl fun a hf => sN <| hK14 _ _ <| cF hf rfl <| wS fun K15 hK15 => wR <| sV hf rfl (ex_eqI (c := false) hf rfl rfl (by decide)) fun a hf => sA hf rfl rfl fun a hf => sN <| hK15 _ _ <| cF hf rfl <| wS fun K16 hK16 => wR <| sV hf rfl (ex_eqI (c := false) hf rfl rfl (by decide)) fun a hf => sA hf rfl rfl fun a hf => sN <| hK16 _ _ <| cF hf rfl <| wS fun K17 hK17 => wR <| sV hf rfl (ex_eqI (c := false) hf rfl rfl (by decide)) fun a hf => sA hf rfl rfl fun a hf => sN <| hK17 _ _ <| cF hf rfl <| wS fun K18 hK18 => wR <| sV hf rfl (ex_eqI (c := true) hf rfl rfl (by decide)) fun a hf => sA hf rfl rfl fun a hf => sN <| hK18 _ _ <| cT hf rfl <| wS fun K19 hK19 => wR <| sM hf rfl rfl fun a hf => sV hf rfl (ex_fa (k := 2) (r := 2) hf rfl (by kernel_rfl) rfl) fun a hf => sV hf rfl (ex_loadB hf rfl (by kernel_rfl) hB4 rfl) fun a hf => ?_
  refine sV hf rfl (ex_index (sz := 1) (k := 0) (r := lo) hf Try.underlying23 (by kernel_rfl) rfl rfl rfl (by simp) rfl) fun a hf => sV hf rfl (ex_load hf rfl (by kernel_rfl) (lead_now hL hE (j := 0) rfl)) fun a hf => st_c hf rfl rfl rfl (by kernel_rfl) (putL (lead := l0) (tok := [108, 101, 116]) hP (by (try simp only [putP, List.length_append, List.length_cons, List.length_nil]); omega) (by (try simp only [putP, List.length_append, List.length_cons, List.length_nil]); omega) hE.now) ?_
  rintro _ w22 ⟨rfl, hPn, hEn⟩
  refine ⟨_, rfl, fun a hf => ?_⟩
  have hx21 := hEn.chg
  replace hB4 := hB4.chg hx21 (nm_blk hB4 rfl (Ne.symm ne_b_b3))
  replace hE := hE.trans hx21 (fun _ h => .inl h)
  obtain ⟨s20, es20⟩ : ∃ z, z = putP l0 [108, 101, 116] s := ⟨_, rfl⟩
  replace hPn : Pr Bs b (putP l0 [108, 101, 116] s).1 (putP l0 [108, 101, 116] s).2 w22 := hPn
  rw [← es20] at hPn
  have gs20 := put_len l0 [108, 101, 116] s
  rw [← es20] at gs20
  obtain ⟨gs20, gs20'⟩ := gs20
  (try simp only [List.length_cons, List.length_nil, lsum] at gs20 gs20')
  replace hG := nlt gs20 (Nat.add_le_add_right hG _)
  replace hG' := nlt gs20' (Nat.add_le_add_right hG' _)
  clear gs20 gs20'
  clear hP; have hP := hPn; clear hPn hEn
  refine sN <| hK19 _ _ <| wS fun K23 hK23 => ?_
  have s_lb := lead_now hL hE (j := 1) rfl
  have s_hB4 := hB4
  refine dl_start (fun x => x.cell? ⟨b3, 2, none⟩ = w22.cell? ⟨b3, 2, none⟩ ∧ x.cell? ⟨lb, lo + 1, none⟩ = w22.cell? ⟨lb, lo + 1, none⟩ ∧ x.cell? ⟨b3, 1, none⟩ = w22.cell? ⟨b3, 1, none⟩) 8 8 rfl (by kernel_rfl) (by kernel_rfl) ?_
  intro w24 hx25 hsel
  replace hB4 := hB4.c0 hx25
  replace hP := hP.chg0 hx25
  replace hE := hE.t0 hx25
  have hS0 : w24.cell? ⟨b3, 2, none⟩ = w22.cell? ⟨b3, 2, none⟩ ∧ w24.cell? ⟨lb, lo + 1, none⟩ = w22.cell? ⟨lb, lo + 1, none⟩ ∧ w24.cell? ⟨b3, 1, none⟩ = w22.cell? ⟨b3, 1, none⟩ := ⟨(hB4.cell 2).trans (s_hB4.cell 2).symm, ((lead_now hL hE (j := 1) rfl).trans s_lb.symm), (hB4.cell 1).trans (s_hB4.cell 1).symm⟩
  refine dM 0 rfl rfl hsel (by kernel_rfl) hf rfl hS0 rfl fun a hf => dV 1 rfl rfl hsel (by kernel_rfl) hf rfl (.inl hS0) (fun x => ex_fa (k := 2) (r := 2) hf rfl (by kernel_rfl) rfl) fun a hf => dL 2 rfl rfl hsel (by kernel_rfl) hf rfl hS0 (fun x hS => ex_load hf rfl (by kernel_rfl) (hS.1.trans ((s_hB4.cell 2).trans rfl))) fun a hf => dV 3 rfl rfl hsel (by kernel_rfl) hf rfl (.inl hS0) (fun x => ex_index (sz := 1) (k := 1) (r := lo + 1) hf Try.underlying23 (by kernel_rfl) rfl rfl rfl (by simp) rfl) fun a hf => dL 4 rfl rfl hsel (by kernel_rfl) hf rfl hS0 (fun x hS => ex_load hf rfl (by kernel_rfl) (hS.2.1.trans s_lb)) fun a hf => dV 5 rfl rfl hsel (by kernel_rfl) hf rfl (.inl hS0) (fun x => ex_fa (k := 1) (r := 1) hf rfl (by kernel_rfl) rfl) fun a hf => dL 6 rfl rfl hsel (by kernel_rfl) hf rfl hS0 (fun x hS => ex_load hf rfl (by kernel_rfl) (hS.2.2.trans ((s_hB4.cell 1).trans rfl))) fun a hf => dl_c 7 (by kernel_rfl) rfl hf rfl rfl rfl (by kernel_rfl) (putL (lead := l1) (tok := x) hP (by (try simp only [putP, List.length_append, List.length_cons, List.length_nil]); omega) (by (try simp only [putP, List.length_append, List.length_cons, List.length_nil]); omega) hE.now) ?_
  rintro _ w28 ⟨rfl, hPn, hEn⟩
  refine ⟨_, rfl, fun a hf => ?_⟩
  have hx27 := hEn.chg
  replace hB4 := hB4.chg hx27 (nm_blk hB4 rfl (Ne.symm ne_b_b3))
  replace hE := hE.trans hx27 (fun _ h => .inl h)
  obtain ⟨s26, es26⟩ : ∃ z, z = putP l1 x s20 := ⟨_, rfl⟩
  replace hPn : Pr Bs b (putP l1 x s20).1 (putP l1 x s20).2 w28 := hPn
  rw [← es26] at hPn
  have gs26 := put_len l1 x s20
  rw [← es26] at gs26
  obtain ⟨gs26, gs26'⟩ := gs26
  (try simp only [List.length_cons, List.length_nil, lsum] at gs26 gs26')
  replace hG := nlt gs26 (Nat.add_le_add_right hG _)
  replace hG' := nlt gs26' (Nat.add_le_add_right hG' _)
  clear gs26 gs26'
  clear hP; have hP := hPn; clear hPn hEn
  clear hS0
  have hS0 : w28.cell? ⟨b3, 2, none⟩ = w22.cell? ⟨b3, 2, none⟩ ∧ w28.cell? ⟨lb, lo + 1, none⟩ = w22.cell? ⟨lb, lo + 1, none⟩ ∧ w28.cell? ⟨b3, 1, none⟩ = w22.cell? ⟨b3, 1, none⟩ := ⟨(hB4.cell 2).trans (s_hB4.cell 2).symm, ((lead_now hL hE (j := 1) rfl).trans s_lb.symm), (hB4.cell 1).trans (s_hB4.cell 1).symm⟩
  refine ⟨.inl hS0, ?_⟩
  refine dl_done (by kernel_rfl) ?_
  clear hS0 hsel
  refine hK23 _ _ <| wS fun K29 hK29 => wR <| sM hf rfl rfl fun a hf => sV hf rfl (ex_fa (k := 2) (r := 2) hf rfl (by kernel_rfl) rfl) fun a hf => sV hf rfl (ex_loadB hf rfl (by kernel_rfl) hB4 rfl) fun a hf => sV hf rfl (ex_index (sz := 1) (k := 2) (r := lo + 2) hf Try.underlying23 (by kernel_rfl) rfl rfl rfl (by simp) rfl) fun a hf => sV hf rfl (ex_load hf rfl (by kernel_rfl) (lead_now hL hE (j := 2) rfl)) fun a hf => st_c hf rfl rfl rfl (by kernel_rfl) (putL (lead := l2) (tok := [61]) hP (by (try simp only [putP, List.length_append, List.length_cons, List.length_nil]); omega) (by (try simp only [putP, List.length_append, List.length_cons, List.length_nil]); omega) hE.now) ?_
  rintro _ w32 ⟨rfl, hPn, hEn⟩
  refine ⟨_, rfl, fun a hf => ?_⟩
  have hx31 := hEn.chg
  replace hB4 := hB4.chg hx31 (nm_blk hB4 rfl (Ne.symm ne_b_b3))
  replace hE := hE.trans hx31 (fun _ h => .inl h)
  obtain ⟨s30, es30⟩ : ∃ z, z = putP l2 [61] s26 := ⟨_, rfl⟩
  replace hPn : Pr Bs b (putP l2 [61] s26).1 (putP l2 [61] s26).2 w32 := hPn
  rw [← es30] at hPn
  have gs30 := put_len l2 [61] s26
  rw [← es30] at gs30
  obtain ⟨gs30, gs30'⟩ := gs30
  (try simp only [List.length_cons, List.length_nil, lsum] at gs30 gs30')
  replace hG := nlt gs30 (Nat.add_le_add_right hG _)
  replace hG' := nlt gs30' (Nat.add_le_add_right hG' _)
  clear gs30 gs30'
  clear hP; have hP := hPn; clear hPn hEn
  refine sN <| hK29 _ _ <| wS fun K33 hK33 => wR <| sM hf rfl rfl fun a hf => sV hf rfl (ex_fa (k := 3) (r := 3) hf rfl (by kernel_rfl) rfl) fun a hf => sV hf rfl (ex_loadB hf rfl (by kernel_rfl) hB4 rfl) fun a hf => sV hf rfl (ex_index (sz := 4) (k := 0) (r := ko) hf Try.underlying24 (by kernel_rfl) rfl rfl rfl (by simp) rfl) fun a hf => ?_
  obtain ⟨d0, d1, d2, d3, hT, hK4⟩ := kid_now hK hR hE (i := 0) (t := k0) rfl
  have on_T := hT.one
  refine sV hf rfl (ex_loadN (cs := [d0, d1, d2, d3]) (m := 4) hf rfl (by kernel_rfl) rfl hK4) fun a hf => st_c hf rfl rfl rfl (by kernel_rfl) (ih k0 _ Bs b s30 d0 d1 d2 d3 (hks _ (by simp)).1 (hks _ (by simp)).2.1 (hks _ (by simp)).2.2 (by (try simp only [putP, List.length_append, List.length_cons, List.length_nil]); omega) (by (try simp only [putP, List.length_append, List.length_cons, List.length_nil]); omega) hP hT hE.now) ?_
  rintro _ w36 ⟨rfl, hPn, hEn⟩
  refine ⟨_, rfl, fun a hf => ?_⟩
  have hx35 := hEn.chg
  replace hB4 := hB4.chg hx35 (nm_blk hB4 rfl (Ne.symm ne_b_b3))
  replace hE := hE.trans hx35 (fun _ h => .inl h)
  obtain ⟨s34, es34⟩ : ∃ z, z = treeP k0 s30 := ⟨_, rfl⟩
  replace hPn : Pr Bs b (treeP k0 s30).1 (treeP k0 s30).2 w36 := hPn
  rw [← es34] at hPn
  have gs34 := tree_len (t := k0) (hks _ (by simp)).2.2 s30
  rw [← es34] at gs34
  obtain ⟨gs34, gs34'⟩ := gs34
  (try simp only [List.length_cons, List.length_nil, lsum] at gs34 gs34')
  replace hG := nlt gs34 (Nat.add_le_add_right hG _)
  replace hG' := nlt gs34' (Nat.add_le_add_right hG' _)
  clear gs34 gs34'
  clear hP; have hP := hPn; clear hPn hEn
  refine sN <| hK33 _ _ <| wS fun K37 hK37 => wR <| sM hf rfl rfl fun a hf => sV hf rfl (ex_fa (k := 2) (r := 2) hf rfl (by kernel_rfl) rfl) fun a hf => sV hf rfl (ex_loadB hf rfl (by kernel_rfl) hB4 rfl) fun a hf => sV hf rfl (ex_index (sz := 1) (k := 3) (r := lo + 3) hf Try.underlying23 (by kernel_rfl) rfl rfl rfl (by simp) rfl) fun a hf => sV hf rfl (ex_load hf rfl (by kernel_rfl) (lead_now hL hE (j := 3) rfl)) fun a hf => st_c hf rfl rfl rfl (by kernel_rfl) (putL (lead := l3) (tok := [105, 110]) hP (by (try simp only [putP, List.length_append, List.length_cons, List.length_nil]); omega) (by (try simp only [putP, List.length_append, List.length_cons, List.length_nil]); omega) hE.now) ?_
  rintro _ w40 ⟨rfl, hPn, hEn⟩
  refine ⟨_, rfl, fun a hf => ?_⟩
  have hx39 := hEn.chg
  replace hB4 := hB4.chg hx39 (nm_blk hB4 rfl (Ne.symm ne_b_b3))
  replace hE := hE.trans hx39 (fun _ h => .inl h)
  obtain ⟨s38, es38⟩ : ∃ z, z = putP l3 [105, 110] s34 := ⟨_, rfl⟩
  replace hPn : Pr Bs b (putP l3 [105, 110] s34).1 (putP l3 [105, 110] s34).2 w40 := hPn
  rw [← es38] at hPn
  have gs38 := put_len l3 [105, 110] s34
  rw [← es38] at gs38
  obtain ⟨gs38, gs38'⟩ := gs38
  (try simp only [List.length_cons, List.length_nil, lsum] at gs38 gs38')
  replace hG := nlt gs38 (Nat.add_le_add_right hG _)
  replace hG' := nlt gs38' (Nat.add_le_add_right hG' _)
  clear gs38 gs38'
  clear hP; have hP := hPn; clear hPn hEn
  refine sN <| hK37 _ _ <| wR <| sM hf rfl rfl fun a hf => sV hf rfl (ex_fa (k := 3) (r := 3) hf rfl (by kernel_rfl) rfl) fun a hf => sV hf rfl (ex_loadB hf rfl (by kernel_rfl) hB4 rfl) fun a hf => sV hf rfl (ex_index (sz := 4) (k := 1) (r := ko + 4) hf Try.underlying24 (by kernel_rfl) rfl rfl rfl (by simp) rfl) fun a hf => ?_
  obtain ⟨d0, d1, d2, d3, hT, hK4⟩ := kid_now hK hR hE (i := 1) (t := k1) rfl
  have on_T := hT.one
  refine sV hf rfl (ex_loadN (cs := [d0, d1, d2, d3]) (m := 4) hf rfl (by kernel_rfl) rfl hK4) fun a hf => st_c hf rfl rfl rfl (by kernel_rfl) (ih k1 _ Bs b s38 d0 d1 d2 d3 (hks _ (by simp)).1 (hks _ (by simp)).2.1 (hks _ (by simp)).2.2 (by (try simp only [putP, List.length_append, List.length_cons, List.length_nil]); omega) (by (try simp only [putP, List.length_append, List.length_cons, List.length_nil]); omega) hP hT hE.now) ?_
  rintro _ w43 ⟨rfl, hPn, hEn⟩
  refine ⟨_, rfl, fun a hf => ?_⟩
  have hx42 := hEn.chg
  replace hB4 := hB4.chg hx42 (nm_blk hB4 rfl (Ne.symm ne_b_b3))
  replace hE := hE.trans hx42 (fun _ h => .inl h)
  obtain ⟨s41, es41⟩ : ∃ z, z = treeP k1 s38 := ⟨_, rfl⟩
  replace hPn : Pr Bs b (treeP k1 s38).1 (treeP k1 s38).2 w43 := hPn
  rw [← es41] at hPn
  have gs41 := tree_len (t := k1) (hks _ (by simp)).2.2 s38
  rw [← es41] at gs41
  obtain ⟨gs41, gs41'⟩ := gs41
  (try simp only [List.length_cons, List.length_nil, lsum] at gs41 gs41')
  replace hG := nlt gs41 (Nat.add_le_add_right hG _)
  replace hG' := nlt gs41' (Nat.add_le_add_right hG' _)
  clear gs41 gs41'
  clear hP; have hP := hPn; clear hPn hEn
  refine sN ?_
  have eq : treeP (.node 20 x [l0, l1, l2, l3] [k0, k1]) s = s41 := by subst es41; subst es38; subst es34; subst es30; subst es26; subst es20; rfl
  rw [eq]
  try simp only [Exit.then, Exit.inBlock]
  exact end_of (rs := []) hf rfl rfl ⟨rfl, hP, hE⟩
theorem t21 {N : Nat} (ih : TreeOk N) {w : World} {Bs b : Nat} {s : WS} {x : List UInt8} {l0 : List UInt8} {k0 k1 : Tree} {cs : List Value} {A B : Option Addr} {m n : Nat} (hks : ∀ t, t ∈ [k0, k1] → tsize t ≤ N ∧ shapedT t = true ∧ leadedT t = true)
    (hl1 : s.2.length + 100 * (x.length + lsum [l0] + kbulk [k0, k1] + 1) ≤ 1000000000000) (hl2 : s.1.length + 100 * (x.length + lsum [l0] + kbulk [k0, k1] + 1) ≤ 1000000000000) (hP : Pr Bs b s.1 s.2 w) (hL : RowIn (fun b => b < Bs) w 1 A [l0].length ([l0].map strV)) (hn : [k0, k1].length ≤ n) (hn2 : n ≤ maxLen) (hK : KidsAre (fun b => b < Bs) w [k0, k1] cs) (hR : RowIn (fun b => b < Bs) w 4 B [k0, k1].length cs) (hBw : Bs ≤ w.heap.size) :
    Calls Try.prog 61 [.pointer (some ⟨b, 0, none⟩), .agg #[.int .i64 21, strV x, .slice A [l0].length m, .slice B [k0, k1].length n]].toArray w fun e w' => e = .returned (.tuple #[]) ∧ Pr Bs b (treeP (.node 21 x [l0] [k0, k1]) s).1 (treeP (.node 21 x [l0] [k0, k1]) s).2 w' ∧ Prn Bs b w w' := by
  simp only [lsum, kbulk] at hl1 hl2
  have hE := Prn.refl (b := b) hBw
  have hG : s.2.length ≤ s.2.length := Nat.le_refl _
  have hG' : s.1.length ≤ s.1.length := Nat.le_refl _
  obtain ⟨lb, lo, rfl, _, hlb, _⟩ := hL.2 (by simp)
  obtain ⟨kb, ko, rfl, _, hkb, _⟩ := hR.2 (by simp)
  refine enter_fr 216 Try.func61 rfl rfl rfl ?_
  intro a hf
  refine wS fun K1 hK1 => wR ?_
  obtain ⟨w2, b3, he, hB4, hx5, eb6, lb7⟩ := ef_box (P := Try.prog) (t := 26) (x := (.tmp 1)) hf rfl rfl w 0
  refine sV hf rfl he fun a hf => ?_
  have ge_b3 := Prn.ge_new hE eb6
  have ne_b_b3 : b ≠ b3 := ne_new hP.lt eb6
  replace hP := hP.chg0 hx5
  replace hE := hE.t0 hx5
  clear eb6 lb7
  refine sN <| hK1 _ _ <| wS fun K8 hK8 => wR <| sV hf rfl (ex_fa (k := 0) (r := 0) hf rfl (by kernel_rfl) rfl) fun a hf => sV hf rfl (ex_loadB hf rfl (by kernel_rfl) hB4 rfl) fun a hf => sN <| hK8 _ _ <| wp_block <| wS fun K9 hK9 => wS fun K10 hK10 => wR <| sV hf rfl (ex_eqI (c := false) hf rfl rfl (by decide)) fun a hf => sA hf rfl rfl fun a hf => sN <| hK10 _ _ <| cF hf rfl <| wS fun K11 hK11 => wR <| sV hf rfl (ex_eqI (c := false) hf rfl rfl (by decide)) fun a hf => sA hf rfl rfl fun a hf => sN <| hK11 _ _ <| cF hf rfl <| wS fun K12 hK12 => wR <| sV hf rfl (ex_eqI (c := false) hf rfl rfl (by decide)) fun a hf => sA hf rfl rfl fun a hf => sN <| hK12 _ _ <| cF hf rfl <| wR <| sV hf rfl (ex_eqI (c := false) hf rfl rfl (by decide)) fun a hf => sA hf rfl rfl fun a hf => sN <| hK9 _ _ <| cF hf rfl <| wS fun K13 hK13 => wR <| sV hf rfl (ex_eqI (c := false) hf rfl rfl (by decide)) fun a hf => sA hf rfl rfl fun a hf => sN <| hK13 _ _ <| cF hf rfl <| wS fun K14 hK14 => wR <| sV hf rfl (ex_eqI (c := false) hf rfl rfl (by decide)) fun a hf => sA hf rfl rfl fun a hf => sN <| hK14 _ _ <| cF hf rfl <| wS fun K15 hK15 => wR <| sV hf rfl (ex_eqI (c := false) hf rfl rfl (by decide)) fun a hf => sA hf rfl rfl fun a hf => sN <| hK15 _ _ <| cF hf rfl <| wS fun K16 hK16 => wR <| sV hf rfl (ex_eqI (c := false) hf rfl rfl (by decide)) fun a hf => sA hf rfl rfl fun a hf => sN <| hK16 _ _ <| cF hf rfl <| wS fun K17 hK17 => wR <| sV hf rfl (ex_eqI (c := false) hf rfl rfl (by decide)) fun a hf => sA hf rfl rfl fun a hf => sN <| hK17 _ _ <| cF hf rfl <| wS fun K18 hK18 => wR <| sV hf rfl (ex_eqI (c := false) hf rfl rfl (by decide)) fun a hf => sA hf rfl rfl fun a hf => sN <| hK18 _ _ <| cF hf rfl <| wS fun K19 hK19 => wR <| sV hf rfl (ex_eqI (c := true) hf rfl rfl (by decide)) fun a hf => sA hf rfl rfl fun a hf => sN <| hK19 _ _ <| cT hf rfl <| wS fun K20 hK20 => ?_
  refine wR <| sM hf rfl rfl fun a hf => sV hf rfl (ex_fa (k := 3) (r := 3) hf rfl (by kernel_rfl) rfl) fun a hf => sV hf rfl (ex_loadB hf rfl (by kernel_rfl) hB4 rfl) fun a hf => sV hf rfl (ex_index (sz := 4) (k := 0) (r := ko) hf Try.underlying24 (by kernel_rfl) rfl rfl rfl (by simp) rfl) fun a hf => ?_
  obtain ⟨d0, d1, d2, d3, hT, hK4⟩ := kid_now hK hR hE (i := 0) (t := k0) rfl
  have on_T := hT.one
  refine sV hf rfl (ex_loadN (cs := [d0, d1, d2, d3]) (m := 4) hf rfl (by kernel_rfl) rfl hK4) fun a hf => st_c hf rfl rfl rfl (by kernel_rfl) (ih k0 _ Bs b s d0 d1 d2 d3 (hks _ (by simp)).1 (hks _ (by simp)).2.1 (hks _ (by simp)).2.2 (by (try simp only [putP, List.length_append, List.length_cons, List.length_nil]); omega) (by (try simp only [putP, List.length_append, List.length_cons, List.length_nil]); omega) hP hT hE.now) ?_
  rintro _ w23 ⟨rfl, hPn, hEn⟩
  refine ⟨_, rfl, fun a hf => ?_⟩
  have hx22 := hEn.chg
  replace hB4 := hB4.chg hx22 (nm_blk hB4 rfl (Ne.symm ne_b_b3))
  replace hE := hE.trans hx22 (fun _ h => .inl h)
  obtain ⟨s21, es21⟩ : ∃ z, z = treeP k0 s := ⟨_, rfl⟩
  replace hPn : Pr Bs b (treeP k0 s).1 (treeP k0 s).2 w23 := hPn
  rw [← es21] at hPn
  have gs21 := tree_len (t := k0) (hks _ (by simp)).2.2 s
  rw [← es21] at gs21
  obtain ⟨gs21, gs21'⟩ := gs21
  (try simp only [List.length_cons, List.length_nil, lsum] at gs21 gs21')
  replace hG := nlt gs21 (Nat.add_le_add_right hG _)
  replace hG' := nlt gs21' (Nat.add_le_add_right hG' _)
  clear gs21 gs21'
  clear hP; have hP := hPn; clear hPn hEn
  refine sN <| hK20 _ _ <| wS fun K24 hK24 => ?_
  have s_lb := lead_now hL hE (j := 0) rfl
  have s_hB4 := hB4
  refine dl_start (fun x => x.cell? ⟨b3, 2, none⟩ = w23.cell? ⟨b3, 2, none⟩ ∧ x.cell? ⟨lb, lo, none⟩ = w23.cell? ⟨lb, lo, none⟩ ∧ x.cell? ⟨b3, 1, none⟩ = w23.cell? ⟨b3, 1, none⟩) 8 8 rfl (by kernel_rfl) (by kernel_rfl) ?_
  intro w25 hx26 hsel
  replace hB4 := hB4.c0 hx26
  replace hP := hP.chg0 hx26
  replace hE := hE.t0 hx26
  have hS0 : w25.cell? ⟨b3, 2, none⟩ = w23.cell? ⟨b3, 2, none⟩ ∧ w25.cell? ⟨lb, lo, none⟩ = w23.cell? ⟨lb, lo, none⟩ ∧ w25.cell? ⟨b3, 1, none⟩ = w23.cell? ⟨b3, 1, none⟩ := ⟨(hB4.cell 2).trans (s_hB4.cell 2).symm, ((lead_now hL hE (j := 0) rfl).trans s_lb.symm), (hB4.cell 1).trans (s_hB4.cell 1).symm⟩
  refine dM 0 rfl rfl hsel (by kernel_rfl) hf rfl hS0 rfl fun a hf => dV 1 rfl rfl hsel (by kernel_rfl) hf rfl (.inl hS0) (fun x => ex_fa (k := 2) (r := 2) hf rfl (by kernel_rfl) rfl) fun a hf => dL 2 rfl rfl hsel (by kernel_rfl) hf rfl hS0 (fun x hS => ex_load hf rfl (by kernel_rfl) (hS.1.trans ((s_hB4.cell 2).trans rfl))) fun a hf => dV 3 rfl rfl hsel (by kernel_rfl) hf rfl (.inl hS0) (fun x => ex_index (sz := 1) (k := 0) (r := lo) hf Try.underlying23 (by kernel_rfl) rfl rfl rfl (by simp) rfl) fun a hf => dL 4 rfl rfl hsel (by kernel_rfl) hf rfl hS0 (fun x hS => ex_load hf rfl (by kernel_rfl) (hS.2.1.trans s_lb)) fun a hf => dV 5 rfl rfl hsel (by kernel_rfl) hf rfl (.inl hS0) (fun x => ex_fa (k := 1) (r := 1) hf rfl (by kernel_rfl) rfl) fun a hf => dL 6 rfl rfl hsel (by kernel_rfl) hf rfl hS0 (fun x hS => ex_load hf rfl (by kernel_rfl) (hS.2.2.trans ((s_hB4.cell 1).trans rfl))) fun a hf => dl_c 7 (by kernel_rfl) rfl hf rfl rfl rfl (by kernel_rfl) (putL (lead := l0) (tok := x) hP (by (try simp only [putP, List.length_append, List.length_cons, List.length_nil]); omega) (by (try simp only [putP, List.length_append, List.length_cons, List.length_nil]); omega) hE.now) ?_
  rintro _ w29 ⟨rfl, hPn, hEn⟩
  refine ⟨_, rfl, fun a hf => ?_⟩
  have hx28 := hEn.chg
  replace hB4 := hB4.chg hx28 (nm_blk hB4 rfl (Ne.symm ne_b_b3))
  replace hE := hE.trans hx28 (fun _ h => .inl h)
  obtain ⟨s27, es27⟩ : ∃ z, z = putP l0 x s21 := ⟨_, rfl⟩
  replace hPn : Pr Bs b (putP l0 x s21).1 (putP l0 x s21).2 w29 := hPn
  rw [← es27] at hPn
  have gs27 := put_len l0 x s21
  rw [← es27] at gs27
  obtain ⟨gs27, gs27'⟩ := gs27
  (try simp only [List.length_cons, List.length_nil, lsum] at gs27 gs27')
  replace hG := nlt gs27 (Nat.add_le_add_right hG _)
  replace hG' := nlt gs27' (Nat.add_le_add_right hG' _)
  clear gs27 gs27'
  clear hP; have hP := hPn; clear hPn hEn
  clear hS0
  have hS0 : w29.cell? ⟨b3, 2, none⟩ = w23.cell? ⟨b3, 2, none⟩ ∧ w29.cell? ⟨lb, lo, none⟩ = w23.cell? ⟨lb, lo, none⟩ ∧ w29.cell? ⟨b3, 1, none⟩ = w23.cell? ⟨b3, 1, none⟩ := ⟨(hB4.cell 2).trans (s_hB4.cell 2).symm, ((lead_now hL hE (j := 0) rfl).trans s_lb.symm), (hB4.cell 1).trans (s_hB4.cell 1).symm⟩
  refine ⟨.inl hS0, ?_⟩
  refine dl_done (by kernel_rfl) ?_
  clear hS0 hsel
  refine hK24 _ _ <| wR <| sM hf rfl rfl fun a hf => sV hf rfl (ex_fa (k := 3) (r := 3) hf rfl (by kernel_rfl) rfl) fun a hf => sV hf rfl (ex_loadB hf rfl (by kernel_rfl) hB4 rfl) fun a hf => sV hf rfl (ex_index (sz := 4) (k := 1) (r := ko + 4) hf Try.underlying24 (by kernel_rfl) rfl rfl rfl (by simp) rfl) fun a hf => ?_
  obtain ⟨d0, d1, d2, d3, hT, hK4⟩ := kid_now hK hR hE (i := 1) (t := k1) rfl
  have on_T := hT.one
  refine sV hf rfl (ex_loadN (cs := [d0, d1, d2, d3]) (m := 4) hf rfl (by kernel_rfl) rfl hK4) fun a hf => st_c hf rfl rfl rfl (by kernel_rfl) (ih k1 _ Bs b s27 d0 d1 d2 d3 (hks _ (by simp)).1 (hks _ (by simp)).2.1 (hks _ (by simp)).2.2 (by (try simp only [putP, List.length_append, List.length_cons, List.length_nil]); omega) (by (try simp only [putP, List.length_append, List.length_cons, List.length_nil]); omega) hP hT hE.now) ?_
  rintro _ w32 ⟨rfl, hPn, hEn⟩
  refine ⟨_, rfl, fun a hf => ?_⟩
  have hx31 := hEn.chg
  replace hB4 := hB4.chg hx31 (nm_blk hB4 rfl (Ne.symm ne_b_b3))
  replace hE := hE.trans hx31 (fun _ h => .inl h)
  obtain ⟨s30, es30⟩ : ∃ z, z = treeP k1 s27 := ⟨_, rfl⟩
  replace hPn : Pr Bs b (treeP k1 s27).1 (treeP k1 s27).2 w32 := hPn
  rw [← es30] at hPn
  have gs30 := tree_len (t := k1) (hks _ (by simp)).2.2 s27
  rw [← es30] at gs30
  obtain ⟨gs30, gs30'⟩ := gs30
  (try simp only [List.length_cons, List.length_nil, lsum] at gs30 gs30')
  replace hG := nlt gs30 (Nat.add_le_add_right hG _)
  replace hG' := nlt gs30' (Nat.add_le_add_right hG' _)
  clear gs30 gs30'
  clear hP; have hP := hPn; clear hPn hEn
  refine sN ?_
  have eq : treeP (.node 21 x [l0] [k0, k1]) s = s30 := by subst es30; subst es27; subst es21; rfl
  rw [eq]
  try simp only [Exit.then, Exit.inBlock]
  exact end_of (rs := []) hf rfl rfl ⟨rfl, hP, hE⟩
theorem t22 {N : Nat} (ih : TreeOk N) {w : World} {Bs b : Nat} {s : WS} {x : List UInt8} {l0 l1 : List UInt8} {k0 : Tree} {cs : List Value} {A B : Option Addr} {m n : Nat} (hks : ∀ t, t ∈ [k0] → tsize t ≤ N ∧ shapedT t = true ∧ leadedT t = true)
    (hl1 : s.2.length + 100 * (x.length + lsum [l0, l1] + kbulk [k0] + 1) ≤ 1000000000000) (hl2 : s.1.length + 100 * (x.length + lsum [l0, l1] + kbulk [k0] + 1) ≤ 1000000000000) (hP : Pr Bs b s.1 s.2 w) (hL : RowIn (fun b => b < Bs) w 1 A [l0, l1].length ([l0, l1].map strV)) (hn : [k0].length ≤ n) (hn2 : n ≤ maxLen) (hK : KidsAre (fun b => b < Bs) w [k0] cs) (hR : RowIn (fun b => b < Bs) w 4 B [k0].length cs) (hBw : Bs ≤ w.heap.size) :
    Calls Try.prog 61 [.pointer (some ⟨b, 0, none⟩), .agg #[.int .i64 22, strV x, .slice A [l0, l1].length m, .slice B [k0].length n]].toArray w fun e w' => e = .returned (.tuple #[]) ∧ Pr Bs b (treeP (.node 22 x [l0, l1] [k0]) s).1 (treeP (.node 22 x [l0, l1] [k0]) s).2 w' ∧ Prn Bs b w w' := by
  simp only [lsum, kbulk] at hl1 hl2
  have hE := Prn.refl (b := b) hBw
  have hG : s.2.length ≤ s.2.length := Nat.le_refl _
  have hG' : s.1.length ≤ s.1.length := Nat.le_refl _
  obtain ⟨lb, lo, rfl, _, hlb, _⟩ := hL.2 (by simp)
  obtain ⟨kb, ko, rfl, _, hkb, _⟩ := hR.2 (by simp)
  refine enter_fr 216 Try.func61 rfl rfl rfl ?_
  intro a hf
  refine wS fun K1 hK1 => wR ?_
  obtain ⟨w2, b3, he, hB4, hx5, eb6, lb7⟩ := ef_box (P := Try.prog) (t := 26) (x := (.tmp 1)) hf rfl rfl w 0
  refine sV hf rfl he fun a hf => ?_
  have ge_b3 := Prn.ge_new hE eb6
  have ne_b_b3 : b ≠ b3 := ne_new hP.lt eb6
  replace hP := hP.chg0 hx5
  replace hE := hE.t0 hx5
  clear eb6 lb7
  refine sN <| hK1 _ _ <| wS fun K8 hK8 => wR <| sV hf rfl (ex_fa (k := 0) (r := 0) hf rfl (by kernel_rfl) rfl) fun a hf => sV hf rfl (ex_loadB hf rfl (by kernel_rfl) hB4 rfl) fun a hf => sN <| hK8 _ _ <| wp_block <| wS fun K9 hK9 => wS fun K10 hK10 => wR <| sV hf rfl (ex_eqI (c := false) hf rfl rfl (by decide)) fun a hf => sA hf rfl rfl fun a hf => sN <| hK10 _ _ <| cF hf rfl <| wS fun K11 hK11 => wR <| sV hf rfl (ex_eqI (c := false) hf rfl rfl (by decide)) fun a hf => sA hf rfl rfl fun a hf => sN <| hK11 _ _ <| cF hf rfl <| wS fun K12 hK12 => wR <| sV hf rfl (ex_eqI (c := false) hf rfl rfl (by decide)) fun a hf => sA hf rfl rfl fun a hf => sN <| hK12 _ _ <| cF hf rfl <| wR <| sV hf rfl (ex_eqI (c := false) hf rfl rfl (by decide)) fun a hf => sA hf rfl rfl fun a hf => sN <| hK9 _ _ <| cF hf rfl <| wS fun K13 hK13 => wR <| sV hf rfl (ex_eqI (c := false) hf rfl rfl (by decide)) fun a hf => sA hf rfl rfl fun a hf => sN <| hK13 _ _ <| cF hf rfl <| wS fun K14 hK14 => wR <| sV hf rfl (ex_eqI (c := false) hf rfl rfl (by decide)) fun a hf => sA hf rfl rfl fun a hf => sN <| hK14 _ _ <| cF hf rfl <| wS fun K15 hK15 => wR <| sV hf rfl (ex_eqI (c := false) hf rfl rfl (by decide)) fun a hf => sA hf rfl rfl fun a hf => sN <| hK15 _ _ <| cF hf rfl <| wS fun K16 hK16 => wR <| sV hf rfl (ex_eqI (c := false) hf rfl rfl (by decide)) fun a hf => sA hf rfl rfl fun a hf => sN <| hK16 _ _ <| cF hf rfl <| wS fun K17 hK17 => wR <| sV hf rfl (ex_eqI (c := false) hf rfl rfl (by decide)) fun a hf => sA hf rfl rfl fun a hf => sN <| hK17 _ _ <| cF hf rfl <| wS fun K18 hK18 => wR <| sV hf rfl (ex_eqI (c := false) hf rfl rfl (by decide)) fun a hf => sA hf rfl rfl fun a hf => sN <| hK18 _ _ <| cF hf rfl <| wS fun K19 hK19 => wR <| sV hf rfl (ex_eqI (c := false) hf rfl rfl (by decide)) fun a hf => sA hf rfl rfl fun a hf => sN <| hK19 _ _ <| cF hf rfl <| wS fun K20 hK20 => ?_
  refine wR <| sV hf rfl (ex_eqI (c := true) hf rfl rfl (by decide)) fun a hf => sA hf rfl rfl fun a hf => sN <| hK20 _ _ <| cT hf rfl <| wS fun K21 hK21 => wR <| sM hf rfl rfl fun a hf => sV hf rfl (ex_fa (k := 2) (r := 2) hf rfl (by kernel_rfl) rfl) fun a hf => sV hf rfl (ex_loadB hf rfl (by kernel_rfl) hB4 rfl) fun a hf => sV hf rfl (ex_index (sz := 1) (k := 0) (r := lo) hf Try.underlying23 (by kernel_rfl) rfl rfl rfl (by simp) rfl) fun a hf => sV hf rfl (ex_load hf rfl (by kernel_rfl) (lead_now hL hE (j := 0) rfl)) fun a hf => st_c hf rfl rfl rfl (by kernel_rfl) (putL (lead := l0) (tok := [40]) hP (by (try simp only [putP, List.length_append, List.length_cons, List.length_nil]); omega) (by (try simp only [putP, List.length_append, List.length_cons, List.length_nil]); omega) hE.now) ?_
  rintro _ w24 ⟨rfl, hPn, hEn⟩
  refine ⟨_, rfl, fun a hf => ?_⟩
  have hx23 := hEn.chg
  replace hB4 := hB4.chg hx23 (nm_blk hB4 rfl (Ne.symm ne_b_b3))
  replace hE := hE.trans hx23 (fun _ h => .inl h)
  obtain ⟨s22, es22⟩ : ∃ z, z = putP l0 [40] s := ⟨_, rfl⟩
  replace hPn : Pr Bs b (putP l0 [40] s).1 (putP l0 [40] s).2 w24 := hPn
  rw [← es22] at hPn
  have gs22 := put_len l0 [40] s
  rw [← es22] at gs22
  obtain ⟨gs22, gs22'⟩ := gs22
  (try simp only [List.length_cons, List.length_nil, lsum] at gs22 gs22')
  replace hG := nlt gs22 (Nat.add_le_add_right hG _)
  replace hG' := nlt gs22' (Nat.add_le_add_right hG' _)
  clear gs22 gs22'
  clear hP; have hP := hPn; clear hPn hEn
  refine sN <| hK21 _ _ <| wS fun K25 hK25 => wR <| sM hf rfl rfl fun a hf => sV hf rfl (ex_fa (k := 3) (r := 3) hf rfl (by kernel_rfl) rfl) fun a hf => sV hf rfl (ex_loadB hf rfl (by kernel_rfl) hB4 rfl) fun a hf => sV hf rfl (ex_index (sz := 4) (k := 0) (r := ko) hf Try.underlying24 (by kernel_rfl) rfl rfl rfl (by simp) rfl) fun a hf => ?_
  obtain ⟨d0, d1, d2, d3, hT, hK4⟩ := kid_now hK hR hE (i := 0) (t := k0) rfl
  have on_T := hT.one
  refine sV hf rfl (ex_loadN (cs := [d0, d1, d2, d3]) (m := 4) hf rfl (by kernel_rfl) rfl hK4) fun a hf => st_c hf rfl rfl rfl (by kernel_rfl) (ih k0 _ Bs b s22 d0 d1 d2 d3 (hks _ (by simp)).1 (hks _ (by simp)).2.1 (hks _ (by simp)).2.2 (by (try simp only [putP, List.length_append, List.length_cons, List.length_nil]); omega) (by (try simp only [putP, List.length_append, List.length_cons, List.length_nil]); omega) hP hT hE.now) ?_
  rintro _ w28 ⟨rfl, hPn, hEn⟩
  refine ⟨_, rfl, fun a hf => ?_⟩
  have hx27 := hEn.chg
  replace hB4 := hB4.chg hx27 (nm_blk hB4 rfl (Ne.symm ne_b_b3))
  replace hE := hE.trans hx27 (fun _ h => .inl h)
  obtain ⟨s26, es26⟩ : ∃ z, z = treeP k0 s22 := ⟨_, rfl⟩
  replace hPn : Pr Bs b (treeP k0 s22).1 (treeP k0 s22).2 w28 := hPn
  rw [← es26] at hPn
  have gs26 := tree_len (t := k0) (hks _ (by simp)).2.2 s22
  rw [← es26] at gs26
  obtain ⟨gs26, gs26'⟩ := gs26
  (try simp only [List.length_cons, List.length_nil, lsum] at gs26 gs26')
  replace hG := nlt gs26 (Nat.add_le_add_right hG _)
  replace hG' := nlt gs26' (Nat.add_le_add_right hG' _)
  clear gs26 gs26'
  clear hP; have hP := hPn; clear hPn hEn
  refine sN <| hK25 _ _ <| wR <| sM hf rfl rfl fun a hf => sV hf rfl (ex_fa (k := 2) (r := 2) hf rfl (by kernel_rfl) rfl) fun a hf => sV hf rfl (ex_loadB hf rfl (by kernel_rfl) hB4 rfl) fun a hf => sV hf rfl (ex_index (sz := 1) (k := 1) (r := lo + 1) hf Try.underlying23 (by kernel_rfl) rfl rfl rfl (by simp) rfl) fun a hf => sV hf rfl (ex_load hf rfl (by kernel_rfl) (lead_now hL hE (j := 1) rfl)) fun a hf => st_c hf rfl rfl rfl (by kernel_rfl) (putL (lead := l1) (tok := [41]) hP (by (try simp only [putP, List.length_append, List.length_cons, List.length_nil]); omega) (by (try simp only [putP, List.length_append, List.length_cons, List.length_nil]); omega) hE.now) ?_
  rintro _ w31 ⟨rfl, hPn, hEn⟩
  refine ⟨_, rfl, fun a hf => ?_⟩
  have hx30 := hEn.chg
  replace hB4 := hB4.chg hx30 (nm_blk hB4 rfl (Ne.symm ne_b_b3))
  replace hE := hE.trans hx30 (fun _ h => .inl h)
  obtain ⟨s29, es29⟩ : ∃ z, z = putP l1 [41] s26 := ⟨_, rfl⟩
  replace hPn : Pr Bs b (putP l1 [41] s26).1 (putP l1 [41] s26).2 w31 := hPn
  rw [← es29] at hPn
  have gs29 := put_len l1 [41] s26
  rw [← es29] at gs29
  obtain ⟨gs29, gs29'⟩ := gs29
  (try simp only [List.length_cons, List.length_nil, lsum] at gs29 gs29')
  replace hG := nlt gs29 (Nat.add_le_add_right hG _)
  replace hG' := nlt gs29' (Nat.add_le_add_right hG' _)
  clear gs29 gs29'
  clear hP; have hP := hPn; clear hPn hEn
  refine sN ?_
  have eq : treeP (.node 22 x [l0, l1] [k0]) s = s29 := by subst es29; subst es26; subst es22; rfl
  rw [eq]
  try simp only [Exit.then, Exit.inBlock]
  exact end_of (rs := []) hf rfl rfl ⟨rfl, hP, hE⟩
theorem d3 {N : Nat} (ih : TreeOk N) {w : World} {Bs b : Nat} {s : WS} {x : List UInt8} {l0 l1 l2 : List UInt8} {k0 : Tree} {cs : List Value} {A B : Option Addr} {m n : Nat} (hks : ∀ t, t ∈ [k0] → tsize t ≤ N ∧ shapedT t = true ∧ leadedT t = true)
    (hl1 : s.2.length + 100 * (x.length + lsum [l0, l1, l2] + kbulk [k0] + 1) ≤ 1000000000000) (hl2 : s.1.length + 100 * (x.length + lsum [l0, l1, l2] + kbulk [k0] + 1) ≤ 1000000000000) (hP : Pr Bs b s.1 s.2 w) (hL : RowIn (fun b => b < Bs) w 1 A [l0, l1, l2].length ([l0, l1, l2].map strV)) (hn : [k0].length ≤ n) (hn2 : n ≤ maxLen) (hK : KidsAre (fun b => b < Bs) w [k0] cs) (hR : RowIn (fun b => b < Bs) w 4 B [k0].length cs) (hBw : Bs ≤ w.heap.size) :
    Calls Try.prog 91 [.pointer (some ⟨b, 0, none⟩), .agg #[.int .i64 3, strV x, .slice A [l0, l1, l2].length m, .slice B [k0].length n]].toArray w fun e w' => e = .returned (.tuple #[]) ∧ Pr Bs b (treeP (.node 3 x [l0, l1, l2] [k0]) s).1 (treeP (.node 3 x [l0, l1, l2] [k0]) s).2 w' ∧ Prn Bs b w w' := by
  simp only [lsum, kbulk] at hl1 hl2
  have hE := Prn.refl (b := b) hBw
  have hG : s.2.length ≤ s.2.length := Nat.le_refl _
  have hG' : s.1.length ≤ s.1.length := Nat.le_refl _
  obtain ⟨lb, lo, rfl, _, hlb, _⟩ := hL.2 (by simp)
  obtain ⟨kb, ko, rfl, _, hkb, _⟩ := hR.2 (by simp)
  refine enter_fr 161 Try.func91 rfl rfl rfl ?_
  intro a hf
  refine wS fun K1 hK1 => wR ?_
  obtain ⟨w2, b3, he, hB4, hx5, eb6, lb7⟩ := ef_box (P := Try.prog) (t := 26) (x := (.tmp 1)) hf rfl rfl w 0
  refine sV hf rfl he fun a hf => ?_
  have ge_b3 := Prn.ge_new hE eb6
  have ne_b_b3 : b ≠ b3 := ne_new hP.lt eb6
  replace hP := hP.chg0 hx5
  replace hE := hE.t0 hx5
  clear eb6 lb7
  refine sN <| hK1 _ _ <| wS fun K8 hK8 => wR <| sV hf rfl (ex_fa (k := 0) (r := 0) hf rfl (by kernel_rfl) rfl) fun a hf => sV hf rfl (ex_loadB hf rfl (by kernel_rfl) hB4 rfl) fun a hf => sN <| hK8 _ _ <| wp_block <| wS fun K9 hK9 => wR <| sV hf rfl (ex_eqI (c := false) hf rfl rfl (by decide)) fun a hf => sA hf rfl rfl fun a hf => sN <| hK9 _ _ <| cF hf rfl <| wS fun K10 hK10 => wR <| sV hf rfl (ex_eqI (c := false) hf rfl rfl (by decide)) fun a hf => sA hf rfl rfl fun a hf => sN <| hK10 _ _ <| cF hf rfl <| wS fun K11 hK11 => wR <| sV hf rfl (ex_eqI (c := true) hf rfl rfl (by decide)) fun a hf => sA hf rfl rfl fun a hf => sN <| hK11 _ _ <| cT hf rfl <| wS fun K12 hK12 => wR <| sM hf rfl rfl fun a hf => sV hf rfl (ex_fa (k := 2) (r := 2) hf rfl (by kernel_rfl) rfl) fun a hf => sV hf rfl (ex_loadB hf rfl (by kernel_rfl) hB4 rfl) fun a hf => sV hf rfl (ex_index (sz := 1) (k := 0) (r := lo) hf Try.underlying23 (by kernel_rfl) rfl rfl rfl (by simp) rfl) fun a hf => sV hf rfl (ex_load hf rfl (by kernel_rfl) (lead_now hL hE (j := 0) rfl)) fun a hf => st_c hf rfl rfl rfl (by kernel_rfl) (putL (lead := l0) (tok := [116, 121, 112, 101]) hP (by (try simp only [putP, List.length_append, List.length_cons, List.length_nil]); omega) (by (try simp only [putP, List.length_append, List.length_cons, List.length_nil]); omega) hE.now) ?_
  rintro _ w15 ⟨rfl, hPn, hEn⟩
  refine ⟨_, rfl, fun a hf => ?_⟩
  have hx14 := hEn.chg
  replace hB4 := hB4.chg hx14 (nm_blk hB4 rfl (Ne.symm ne_b_b3))
  replace hE := hE.trans hx14 (fun _ h => .inl h)
  obtain ⟨s13, es13⟩ : ∃ z, z = putP l0 [116, 121, 112, 101] s := ⟨_, rfl⟩
  replace hPn : Pr Bs b (putP l0 [116, 121, 112, 101] s).1 (putP l0 [116, 121, 112, 101] s).2 w15 := hPn
  rw [← es13] at hPn
  have gs13 := put_len l0 [116, 121, 112, 101] s
  rw [← es13] at gs13
  obtain ⟨gs13, gs13'⟩ := gs13
  (try simp only [List.length_cons, List.length_nil, lsum] at gs13 gs13')
  replace hG := nlt gs13 (Nat.add_le_add_right hG _)
  replace hG' := nlt gs13' (Nat.add_le_add_right hG' _)
  clear gs13 gs13'
  clear hP; have hP := hPn; clear hPn hEn
  refine sN <| hK12 _ _ <| wS fun K16 hK16 => ?_
  have s_lb := lead_now hL hE (j := 1) rfl
  have s_hB4 := hB4
  refine dl_start (fun x => x.cell? ⟨b3, 2, none⟩ = w15.cell? ⟨b3, 2, none⟩ ∧ x.cell? ⟨lb, lo + 1, none⟩ = w15.cell? ⟨lb, lo + 1, none⟩ ∧ x.cell? ⟨b3, 1, none⟩ = w15.cell? ⟨b3, 1, none⟩) 8 8 rfl (by kernel_rfl) (by kernel_rfl) ?_
  intro w17 hx18 hsel
  replace hB4 := hB4.c0 hx18
  replace hP := hP.chg0 hx18
  replace hE := hE.t0 hx18
  have hS0 : w17.cell? ⟨b3, 2, none⟩ = w15.cell? ⟨b3, 2, none⟩ ∧ w17.cell? ⟨lb, lo + 1, none⟩ = w15.cell? ⟨lb, lo + 1, none⟩ ∧ w17.cell? ⟨b3, 1, none⟩ = w15.cell? ⟨b3, 1, none⟩ := ⟨(hB4.cell 2).trans (s_hB4.cell 2).symm, ((lead_now hL hE (j := 1) rfl).trans s_lb.symm), (hB4.cell 1).trans (s_hB4.cell 1).symm⟩
  refine dM 0 rfl rfl hsel (by kernel_rfl) hf rfl hS0 rfl fun a hf => dV 1 rfl rfl hsel (by kernel_rfl) hf rfl (.inl hS0) (fun x => ex_fa (k := 2) (r := 2) hf rfl (by kernel_rfl) rfl) fun a hf => dL 2 rfl rfl hsel (by kernel_rfl) hf rfl hS0 (fun x hS => ex_load hf rfl (by kernel_rfl) (hS.1.trans ((s_hB4.cell 2).trans rfl))) fun a hf => dV 3 rfl rfl hsel (by kernel_rfl) hf rfl (.inl hS0) (fun x => ex_index (sz := 1) (k := 1) (r := lo + 1) hf Try.underlying23 (by kernel_rfl) rfl rfl rfl (by simp) rfl) fun a hf => dL 4 rfl rfl hsel (by kernel_rfl) hf rfl hS0 (fun x hS => ex_load hf rfl (by kernel_rfl) (hS.2.1.trans s_lb)) fun a hf => dV 5 rfl rfl hsel (by kernel_rfl) hf rfl (.inl hS0) (fun x => ex_fa (k := 1) (r := 1) hf rfl (by kernel_rfl) rfl) fun a hf => dL 6 rfl rfl hsel (by kernel_rfl) hf rfl hS0 (fun x hS => ex_load hf rfl (by kernel_rfl) (hS.2.2.trans ((s_hB4.cell 1).trans rfl))) fun a hf => dl_c 7 (by kernel_rfl) rfl hf rfl rfl rfl (by kernel_rfl) (putL (lead := l1) (tok := x) hP (by (try simp only [putP, List.length_append, List.length_cons, List.length_nil]); omega) (by (try simp only [putP, List.length_append, List.length_cons, List.length_nil]); omega) hE.now) ?_
  rintro _ w21 ⟨rfl, hPn, hEn⟩
  refine ⟨_, rfl, fun a hf => ?_⟩
  have hx20 := hEn.chg
  replace hB4 := hB4.chg hx20 (nm_blk hB4 rfl (Ne.symm ne_b_b3))
  replace hE := hE.trans hx20 (fun _ h => .inl h)
  obtain ⟨s19, es19⟩ : ∃ z, z = putP l1 x s13 := ⟨_, rfl⟩
  replace hPn : Pr Bs b (putP l1 x s13).1 (putP l1 x s13).2 w21 := hPn
  rw [← es19] at hPn
  have gs19 := put_len l1 x s13
  rw [← es19] at gs19
  obtain ⟨gs19, gs19'⟩ := gs19
  (try simp only [List.length_cons, List.length_nil, lsum] at gs19 gs19')
  replace hG := nlt gs19 (Nat.add_le_add_right hG _)
  replace hG' := nlt gs19' (Nat.add_le_add_right hG' _)
  clear gs19 gs19'
  clear hP; have hP := hPn; clear hPn hEn
  clear hS0
  have hS0 : w21.cell? ⟨b3, 2, none⟩ = w15.cell? ⟨b3, 2, none⟩ ∧ w21.cell? ⟨lb, lo + 1, none⟩ = w15.cell? ⟨lb, lo + 1, none⟩ ∧ w21.cell? ⟨b3, 1, none⟩ = w15.cell? ⟨b3, 1, none⟩ := ⟨(hB4.cell 2).trans (s_hB4.cell 2).symm, ((lead_now hL hE (j := 1) rfl).trans s_lb.symm), (hB4.cell 1).trans (s_hB4.cell 1).symm⟩
  refine ⟨.inl hS0, ?_⟩
  refine dl_done (by kernel_rfl) ?_
  clear hS0 hsel
  refine hK16 _ _ <| wS fun K22 hK22 => wR <| sM hf rfl rfl fun a hf => sV hf rfl (ex_fa (k := 2) (r := 2) hf rfl (by kernel_rfl) rfl) fun a hf => sV hf rfl (ex_loadB hf rfl (by kernel_rfl) hB4 rfl) fun a hf => sV hf rfl (ex_index (sz := 1) (k := 2) (r := lo + 2) hf Try.underlying23 (by kernel_rfl) rfl rfl rfl (by simp) rfl) fun a hf => sV hf rfl (ex_load hf rfl (by kernel_rfl) (lead_now hL hE (j := 2) rfl)) fun a hf => st_c hf rfl rfl rfl (by kernel_rfl) (putL (lead := l2) (tok := [61]) hP (by (try simp only [putP, List.length_append, List.length_cons, List.length_nil]); omega) (by (try simp only [putP, List.length_append, List.length_cons, List.length_nil]); omega) hE.now) ?_
  rintro _ w25 ⟨rfl, hPn, hEn⟩
  refine ⟨_, rfl, fun a hf => ?_⟩
  have hx24 := hEn.chg
  replace hB4 := hB4.chg hx24 (nm_blk hB4 rfl (Ne.symm ne_b_b3))
  replace hE := hE.trans hx24 (fun _ h => .inl h)
  obtain ⟨s23, es23⟩ : ∃ z, z = putP l2 [61] s19 := ⟨_, rfl⟩
  replace hPn : Pr Bs b (putP l2 [61] s19).1 (putP l2 [61] s19).2 w25 := hPn
  rw [← es23] at hPn
  have gs23 := put_len l2 [61] s19
  rw [← es23] at gs23
  obtain ⟨gs23, gs23'⟩ := gs23
  (try simp only [List.length_cons, List.length_nil, lsum] at gs23 gs23')
  replace hG := nlt gs23 (Nat.add_le_add_right hG _)
  replace hG' := nlt gs23' (Nat.add_le_add_right hG' _)
  clear gs23 gs23'
  clear hP; have hP := hPn; clear hPn hEn
  refine sN <| hK22 _ _ <| wR <| sM hf rfl rfl fun a hf => sV hf rfl (ex_fa (k := 3) (r := 3) hf rfl (by kernel_rfl) rfl) fun a hf => sV hf rfl (ex_loadB hf rfl (by kernel_rfl) hB4 rfl) fun a hf => sV hf rfl (ex_index (sz := 4) (k := 0) (r := ko) hf Try.underlying24 (by kernel_rfl) rfl rfl rfl (by simp) rfl) fun a hf => ?_
  obtain ⟨d0, d1, d2, d3, hT, hK4⟩ := kid_now hK hR hE (i := 0) (t := k0) rfl
  have on_T := hT.one
  refine sV hf rfl (ex_loadN (cs := [d0, d1, d2, d3]) (m := 4) hf rfl (by kernel_rfl) rfl hK4) fun a hf => st_c hf rfl rfl rfl (by kernel_rfl) (ih k0 _ Bs b s23 d0 d1 d2 d3 (hks _ (by simp)).1 (hks _ (by simp)).2.1 (hks _ (by simp)).2.2 (by (try simp only [putP, List.length_append, List.length_cons, List.length_nil]); omega) (by (try simp only [putP, List.length_append, List.length_cons, List.length_nil]); omega) hP hT hE.now) ?_
  rintro _ w28 ⟨rfl, hPn, hEn⟩
  refine ⟨_, rfl, fun a hf => ?_⟩
  have hx27 := hEn.chg
  replace hB4 := hB4.chg hx27 (nm_blk hB4 rfl (Ne.symm ne_b_b3))
  replace hE := hE.trans hx27 (fun _ h => .inl h)
  obtain ⟨s26, es26⟩ : ∃ z, z = treeP k0 s23 := ⟨_, rfl⟩
  replace hPn : Pr Bs b (treeP k0 s23).1 (treeP k0 s23).2 w28 := hPn
  rw [← es26] at hPn
  have gs26 := tree_len (t := k0) (hks _ (by simp)).2.2 s23
  rw [← es26] at gs26
  obtain ⟨gs26, gs26'⟩ := gs26
  (try simp only [List.length_cons, List.length_nil, lsum] at gs26 gs26')
  replace hG := nlt gs26 (Nat.add_le_add_right hG _)
  replace hG' := nlt gs26' (Nat.add_le_add_right hG' _)
  clear gs26 gs26'
  clear hP; have hP := hPn; clear hPn hEn
  refine sN ?_
  have eq : treeP (.node 3 x [l0, l1, l2] [k0]) s = s26 := by subst es26; subst es23; subst es19; subst es13; rfl
  rw [eq]
  try simp only [Exit.then, Exit.inBlock]
  exact end_of (rs := []) hf rfl rfl ⟨rfl, hP, hE⟩
theorem d4 {N : Nat} (ih : TreeOk N) {w : World} {Bs b : Nat} {s : WS} {x : List UInt8} {l0 l1 : List UInt8} {k0 : Tree} {cs : List Value} {A B : Option Addr} {m n : Nat} (hks : ∀ t, t ∈ [k0] → tsize t ≤ N ∧ shapedT t = true ∧ leadedT t = true)
    (hl1 : s.2.length + 100 * (x.length + lsum [l0, l1] + kbulk [k0] + 1) ≤ 1000000000000) (hl2 : s.1.length + 100 * (x.length + lsum [l0, l1] + kbulk [k0] + 1) ≤ 1000000000000) (hP : Pr Bs b s.1 s.2 w) (hL : RowIn (fun b => b < Bs) w 1 A [l0, l1].length ([l0, l1].map strV)) (hn : [k0].length ≤ n) (hn2 : n ≤ maxLen) (hK : KidsAre (fun b => b < Bs) w [k0] cs) (hR : RowIn (fun b => b < Bs) w 4 B [k0].length cs) (hBw : Bs ≤ w.heap.size) :
    Calls Try.prog 91 [.pointer (some ⟨b, 0, none⟩), .agg #[.int .i64 4, strV x, .slice A [l0, l1].length m, .slice B [k0].length n]].toArray w fun e w' => e = .returned (.tuple #[]) ∧ Pr Bs b (treeP (.node 4 x [l0, l1] [k0]) s).1 (treeP (.node 4 x [l0, l1] [k0]) s).2 w' ∧ Prn Bs b w w' := by
  simp only [lsum, kbulk] at hl1 hl2
  have hE := Prn.refl (b := b) hBw
  have hG : s.2.length ≤ s.2.length := Nat.le_refl _
  have hG' : s.1.length ≤ s.1.length := Nat.le_refl _
  obtain ⟨lb, lo, rfl, _, hlb, _⟩ := hL.2 (by simp)
  obtain ⟨kb, ko, rfl, _, hkb, _⟩ := hR.2 (by simp)
  refine enter_fr 161 Try.func91 rfl rfl rfl ?_
  intro a hf
  refine wS fun K1 hK1 => wR ?_
  obtain ⟨w2, b3, he, hB4, hx5, eb6, lb7⟩ := ef_box (P := Try.prog) (t := 26) (x := (.tmp 1)) hf rfl rfl w 0
  refine sV hf rfl he fun a hf => ?_
  have ge_b3 := Prn.ge_new hE eb6
  have ne_b_b3 : b ≠ b3 := ne_new hP.lt eb6
  replace hP := hP.chg0 hx5
  replace hE := hE.t0 hx5
  clear eb6 lb7
  refine sN <| hK1 _ _ <| wS fun K8 hK8 => wR <| sV hf rfl (ex_fa (k := 0) (r := 0) hf rfl (by kernel_rfl) rfl) fun a hf => sV hf rfl (ex_loadB hf rfl (by kernel_rfl) hB4 rfl) fun a hf => sN <| hK8 _ _ <| wp_block <| wS fun K9 hK9 => wR <| sV hf rfl (ex_eqI (c := false) hf rfl rfl (by decide)) fun a hf => sA hf rfl rfl fun a hf => sN <| hK9 _ _ <| cF hf rfl <| wS fun K10 hK10 => wR <| sV hf rfl (ex_eqI (c := false) hf rfl rfl (by decide)) fun a hf => sA hf rfl rfl fun a hf => sN <| hK10 _ _ <| cF hf rfl <| wS fun K11 hK11 => wR <| sV hf rfl (ex_eqI (c := false) hf rfl rfl (by decide)) fun a hf => sA hf rfl rfl fun a hf => sN <| hK11 _ _ <| cF hf rfl <| wS fun K12 hK12 => wR <| sV hf rfl (ex_eqI (c := true) hf rfl rfl (by decide)) fun a hf => sA hf rfl rfl fun a hf => sN <| hK12 _ _ <| cT hf rfl <| wS fun K13 hK13 => ?_
  have s_lb := lead_now hL hE (j := 0) rfl
  have s_hB4 := hB4
  refine dl_start (fun x => x.cell? ⟨b3, 2, none⟩ = w2.cell? ⟨b3, 2, none⟩ ∧ x.cell? ⟨lb, lo, none⟩ = w2.cell? ⟨lb, lo, none⟩ ∧ x.cell? ⟨b3, 1, none⟩ = w2.cell? ⟨b3, 1, none⟩) 8 8 rfl (by kernel_rfl) (by kernel_rfl) ?_
  intro w14 hx15 hsel
  replace hB4 := hB4.c0 hx15
  replace hP := hP.chg0 hx15
  replace hE := hE.t0 hx15
  have hS0 : w14.cell? ⟨b3, 2, none⟩ = w2.cell? ⟨b3, 2, none⟩ ∧ w14.cell? ⟨lb, lo, none⟩ = w2.cell? ⟨lb, lo, none⟩ ∧ w14.cell? ⟨b3, 1, none⟩ = w2.cell? ⟨b3, 1, none⟩ := ⟨(hB4.cell 2).trans (s_hB4.cell 2).symm, ((lead_now hL hE (j := 0) rfl).trans s_lb.symm), (hB4.cell 1).trans (s_hB4.cell 1).symm⟩
  refine dM 0 rfl rfl hsel (by kernel_rfl) hf rfl hS0 rfl fun a hf => dV 1 rfl rfl hsel (by kernel_rfl) hf rfl (.inl hS0) (fun x => ex_fa (k := 2) (r := 2) hf rfl (by kernel_rfl) rfl) fun a hf => dL 2 rfl rfl hsel (by kernel_rfl) hf rfl hS0 (fun x hS => ex_load hf rfl (by kernel_rfl) (hS.1.trans ((s_hB4.cell 2).trans rfl))) fun a hf => dV 3 rfl rfl hsel (by kernel_rfl) hf rfl (.inl hS0) (fun x => ex_index (sz := 1) (k := 0) (r := lo) hf Try.underlying23 (by kernel_rfl) rfl rfl rfl (by simp) rfl) fun a hf => dL 4 rfl rfl hsel (by kernel_rfl) hf rfl hS0 (fun x hS => ex_load hf rfl (by kernel_rfl) (hS.2.1.trans s_lb)) fun a hf => dV 5 rfl rfl hsel (by kernel_rfl) hf rfl (.inl hS0) (fun x => ex_fa (k := 1) (r := 1) hf rfl (by kernel_rfl) rfl) fun a hf => dL 6 rfl rfl hsel (by kernel_rfl) hf rfl hS0 (fun x hS => ex_load hf rfl (by kernel_rfl) (hS.2.2.trans ((s_hB4.cell 1).trans rfl))) fun a hf => dl_c 7 (by kernel_rfl) rfl hf rfl rfl rfl (by kernel_rfl) (putL (lead := l0) (tok := x) hP (by (try simp only [putP, List.length_append, List.length_cons, List.length_nil]); omega) (by (try simp only [putP, List.length_append, List.length_cons, List.length_nil]); omega) hE.now) ?_
  rintro _ w18 ⟨rfl, hPn, hEn⟩
  refine ⟨_, rfl, fun a hf => ?_⟩
  have hx17 := hEn.chg
  replace hB4 := hB4.chg hx17 (nm_blk hB4 rfl (Ne.symm ne_b_b3))
  replace hE := hE.trans hx17 (fun _ h => .inl h)
  obtain ⟨s16, es16⟩ : ∃ z, z = putP l0 x s := ⟨_, rfl⟩
  replace hPn : Pr Bs b (putP l0 x s).1 (putP l0 x s).2 w18 := hPn
  rw [← es16] at hPn
  have gs16 := put_len l0 x s
  rw [← es16] at gs16
  obtain ⟨gs16, gs16'⟩ := gs16
  (try simp only [List.length_cons, List.length_nil, lsum] at gs16 gs16')
  replace hG := nlt gs16 (Nat.add_le_add_right hG _)
  replace hG' := nlt gs16' (Nat.add_le_add_right hG' _)
  clear gs16 gs16'
  clear hP; have hP := hPn; clear hPn hEn
  clear hS0
  have hS0 : w18.cell? ⟨b3, 2, none⟩ = w2.cell? ⟨b3, 2, none⟩ ∧ w18.cell? ⟨lb, lo, none⟩ = w2.cell? ⟨lb, lo, none⟩ ∧ w18.cell? ⟨b3, 1, none⟩ = w2.cell? ⟨b3, 1, none⟩ := ⟨(hB4.cell 2).trans (s_hB4.cell 2).symm, ((lead_now hL hE (j := 0) rfl).trans s_lb.symm), (hB4.cell 1).trans (s_hB4.cell 1).symm⟩
  refine ⟨.inl hS0, ?_⟩
  refine dl_done (by kernel_rfl) ?_
  clear hS0 hsel
  refine hK13 _ _ <| wS fun K19 hK19 => wR <| sM hf rfl rfl fun a hf => sV hf rfl (ex_fa (k := 2) (r := 2) hf rfl (by kernel_rfl) rfl) fun a hf => sV hf rfl (ex_loadB hf rfl (by kernel_rfl) hB4 rfl) fun a hf => sV hf rfl (ex_index (sz := 1) (k := 1) (r := lo + 1) hf Try.underlying23 (by kernel_rfl) rfl rfl rfl (by simp) rfl) fun a hf => sV hf rfl (ex_load hf rfl (by kernel_rfl) (lead_now hL hE (j := 1) rfl)) fun a hf => st_c hf rfl rfl rfl (by kernel_rfl) (putL (lead := l1) (tok := [58]) hP (by (try simp only [putP, List.length_append, List.length_cons, List.length_nil]); omega) (by (try simp only [putP, List.length_append, List.length_cons, List.length_nil]); omega) hE.now) ?_
  rintro _ w22 ⟨rfl, hPn, hEn⟩
  refine ⟨_, rfl, fun a hf => ?_⟩
  have hx21 := hEn.chg
  replace hB4 := hB4.chg hx21 (nm_blk hB4 rfl (Ne.symm ne_b_b3))
  replace hE := hE.trans hx21 (fun _ h => .inl h)
  obtain ⟨s20, es20⟩ : ∃ z, z = putP l1 [58] s16 := ⟨_, rfl⟩
  replace hPn : Pr Bs b (putP l1 [58] s16).1 (putP l1 [58] s16).2 w22 := hPn
  rw [← es20] at hPn
  have gs20 := put_len l1 [58] s16
  rw [← es20] at gs20
  obtain ⟨gs20, gs20'⟩ := gs20
  (try simp only [List.length_cons, List.length_nil, lsum] at gs20 gs20')
  replace hG := nlt gs20 (Nat.add_le_add_right hG _)
  replace hG' := nlt gs20' (Nat.add_le_add_right hG' _)
  clear gs20 gs20'
  clear hP; have hP := hPn; clear hPn hEn
  refine sN <| hK19 _ _ <| wR <| sM hf rfl rfl fun a hf => sV hf rfl (ex_fa (k := 3) (r := 3) hf rfl (by kernel_rfl) rfl) fun a hf => sV hf rfl (ex_loadB hf rfl (by kernel_rfl) hB4 rfl) fun a hf => sV hf rfl (ex_index (sz := 4) (k := 0) (r := ko) hf Try.underlying24 (by kernel_rfl) rfl rfl rfl (by simp) rfl) fun a hf => ?_
  obtain ⟨d0, d1, d2, d3, hT, hK4⟩ := kid_now hK hR hE (i := 0) (t := k0) rfl
  have on_T := hT.one
  refine sV hf rfl (ex_loadN (cs := [d0, d1, d2, d3]) (m := 4) hf rfl (by kernel_rfl) rfl hK4) fun a hf => st_c hf rfl rfl rfl (by kernel_rfl) (ih k0 _ Bs b s20 d0 d1 d2 d3 (hks _ (by simp)).1 (hks _ (by simp)).2.1 (hks _ (by simp)).2.2 (by (try simp only [putP, List.length_append, List.length_cons, List.length_nil]); omega) (by (try simp only [putP, List.length_append, List.length_cons, List.length_nil]); omega) hP hT hE.now) ?_
  rintro _ w25 ⟨rfl, hPn, hEn⟩
  refine ⟨_, rfl, fun a hf => ?_⟩
  have hx24 := hEn.chg
  replace hB4 := hB4.chg hx24 (nm_blk hB4 rfl (Ne.symm ne_b_b3))
  replace hE := hE.trans hx24 (fun _ h => .inl h)
  obtain ⟨s23, es23⟩ : ∃ z, z = treeP k0 s20 := ⟨_, rfl⟩
  replace hPn : Pr Bs b (treeP k0 s20).1 (treeP k0 s20).2 w25 := hPn
  rw [← es23] at hPn
  have gs23 := tree_len (t := k0) (hks _ (by simp)).2.2 s20
  rw [← es23] at gs23
  obtain ⟨gs23, gs23'⟩ := gs23
  (try simp only [List.length_cons, List.length_nil, lsum] at gs23 gs23')
  replace hG := nlt gs23 (Nat.add_le_add_right hG _)
  replace hG' := nlt gs23' (Nat.add_le_add_right hG' _)
  clear gs23 gs23'
  clear hP; have hP := hPn; clear hPn hEn
  refine sN ?_
  have eq : treeP (.node 4 x [l0, l1] [k0]) s = s23 := by subst es23; subst es20; subst es16; rfl
  rw [eq]
  try simp only [Exit.then, Exit.inBlock]
  exact end_of (rs := []) hf rfl rfl ⟨rfl, hP, hE⟩
theorem tLeaf {N : Nat} {w : World} {Bs b : Nat} {s : WS} {k : Int} {x : List UInt8} {l0 : List UInt8} {cs : List Value} {A B : Option Addr} {m n : Nat} (hk : k = 5 ∨ k = 6 ∨ k = 7 ∨ k = 9 ∨ k = 10 ∨ k = 11 ∨ k = 12 ∨ k = 13 ∨ k = 14 ∨ k = 15) (hks : ∀ t, t ∈ ([] : List Tree) → tsize t ≤ N ∧ shapedT t = true ∧ leadedT t = true)
    (hl1 : s.2.length + 100 * (x.length + lsum [l0] + kbulk ([] : List Tree) + 1) ≤ 1000000000000) (hl2 : s.1.length + 100 * (x.length + lsum [l0] + kbulk ([] : List Tree) + 1) ≤ 1000000000000) (hP : Pr Bs b s.1 s.2 w) (hL : RowIn (fun b => b < Bs) w 1 A [l0].length ([l0].map strV)) (hn : ([] : List Tree).length ≤ n) (hn2 : n ≤ maxLen) (hK : KidsAre (fun b => b < Bs) w ([] : List Tree) cs) (hR : RowIn (fun b => b < Bs) w 4 B ([] : List Tree).length cs) (hBw : Bs ≤ w.heap.size) :
    Calls Try.prog 61 [.pointer (some ⟨b, 0, none⟩), .agg #[.int .i64 k, strV x, .slice A [l0].length m, .slice B ([] : List Tree).length n]].toArray w fun e w' => e = .returned (.tuple #[]) ∧ Pr Bs b (treeP (.node k x [l0] ([] : List Tree)) s).1 (treeP (.node k x [l0] ([] : List Tree)) s).2 w' ∧ Prn Bs b w w' := by
  simp only [lsum, kbulk] at hl1 hl2
  have sl := singleT_len k x
  have hE := Prn.refl (b := b) hBw
  have hG : s.2.length ≤ s.2.length := Nat.le_refl _
  have hG' : s.1.length ≤ s.1.length := Nat.le_refl _
  obtain ⟨lb, lo, rfl, _, hlb, _⟩ := hL.2 (by simp)
  refine enter_fr 216 Try.func61 rfl rfl rfl ?_
  intro a hf
  refine wS fun K1 hK1 => wR ?_
  obtain ⟨w2, b3, he, hB4, hx5, eb6, lb7⟩ := ef_box (P := Try.prog) (t := 26) (x := (.tmp 1)) hf rfl rfl w 0
  refine sV hf rfl he fun a hf => ?_
  have ge_b3 := Prn.ge_new hE eb6
  have ne_b_b3 : b ≠ b3 := ne_new hP.lt eb6
  replace hP := hP.chg0 hx5
  replace hE := hE.t0 hx5
  clear eb6 lb7
  refine sN <| hK1 _ _ <| wS fun K8 hK8 => wR <| sV hf rfl (ex_fa (k := 0) (r := 0) hf rfl (by kernel_rfl) rfl) fun a hf => sV hf rfl (ex_loadB hf rfl (by kernel_rfl) hB4 rfl) fun a hf => sN <| hK8 _ _ <| wp_block <| wS fun K9 hK9 => wS fun K10 hK10 => wR <| sV hf rfl (ex_eqI (c := false) hf rfl rfl (by simp; omega)) fun a hf => sA hf rfl rfl fun a hf => sN <| hK10 _ _ <| cF hf rfl <| wS fun K11 hK11 => wR <| sV hf rfl (ex_eqI (c := false) hf rfl rfl (by simp; omega)) fun a hf => sA hf rfl rfl fun a hf => sN <| hK11 _ _ <| cF hf rfl <| wS fun K12 hK12 => wR <| sV hf rfl (ex_eqI (c := false) hf rfl rfl (by simp; omega)) fun a hf => sA hf rfl rfl fun a hf => sN <| hK12 _ _ <| cF hf rfl <| wR <| sV hf rfl (ex_eqI (c := false) hf rfl rfl (by simp; omega)) fun a hf => sA hf rfl rfl fun a hf => sN <| hK9 _ _ <| cF hf rfl <| wS fun K13 hK13 => wR <| sV hf rfl (ex_eqI (c := false) hf rfl rfl (by simp; omega)) fun a hf => sA hf rfl rfl fun a hf => sN <| hK13 _ _ <| cF hf rfl <| wS fun K14 hK14 => wR <| sV hf rfl (ex_eqI (c := false) hf rfl rfl (by simp; omega)) fun a hf => sA hf rfl rfl fun a hf => sN <| hK14 _ _ <| cF hf rfl <| wS fun K15 hK15 => wR <| sV hf rfl (ex_eqI (c := false) hf rfl rfl (by simp; omega)) fun a hf => sA hf rfl rfl fun a hf => sN <| hK15 _ _ <| cF hf rfl <| wS fun K16 hK16 => wR <| sV hf rfl (ex_eqI (c := false) hf rfl rfl (by simp; omega)) fun a hf => sA hf rfl rfl fun a hf => sN <| hK16 _ _ <| cF hf rfl <| wS fun K17 hK17 => wR <| sV hf rfl (ex_eqI (c := false) hf rfl rfl (by simp; omega)) fun a hf => sA hf rfl rfl fun a hf => sN <| hK17 _ _ <| cF hf rfl <| wS fun K18 hK18 => wR <| sV hf rfl (ex_eqI (c := false) hf rfl rfl (by simp; omega)) fun a hf => sA hf rfl rfl fun a hf => sN <| hK18 _ _ <| cF hf rfl <| wS fun K19 hK19 => wR <| sV hf rfl (ex_eqI (c := false) hf rfl rfl (by simp; omega)) fun a hf => sA hf rfl rfl fun a hf => sN ?_
  refine hK19 _ _ <| cF hf rfl <| wS fun K20 hK20 => wR <| sV hf rfl (ex_eqI (c := false) hf rfl rfl (by simp; omega)) fun a hf => sA hf rfl rfl fun a hf => sN <| hK20 _ _ <| cF hf rfl ?_
  have s_lb := lead_now hL hE (j := 0) rfl
  have s_hB4 := hB4
  refine dl_start (fun x => x.cell? ⟨b3, 2, none⟩ = w2.cell? ⟨b3, 2, none⟩ ∧ x.cell? ⟨lb, lo, none⟩ = w2.cell? ⟨lb, lo, none⟩ ∧ x.cell? ⟨b3, 0, none⟩ = w2.cell? ⟨b3, 0, none⟩ ∧ x.cell? ⟨b3, 1, none⟩ = w2.cell? ⟨b3, 1, none⟩ ∧ x.cell? ⟨b3, 3, none⟩ = w2.cell? ⟨b3, 3, none⟩) 8 8 rfl (by kernel_rfl) (by kernel_rfl) ?_
  intro w21 hx22 hsel
  replace hB4 := hB4.c0 hx22
  replace hP := hP.chg0 hx22
  replace hE := hE.t0 hx22
  have hS0 : w21.cell? ⟨b3, 2, none⟩ = w2.cell? ⟨b3, 2, none⟩ ∧ w21.cell? ⟨lb, lo, none⟩ = w2.cell? ⟨lb, lo, none⟩ ∧ w21.cell? ⟨b3, 0, none⟩ = w2.cell? ⟨b3, 0, none⟩ ∧ w21.cell? ⟨b3, 1, none⟩ = w2.cell? ⟨b3, 1, none⟩ ∧ w21.cell? ⟨b3, 3, none⟩ = w2.cell? ⟨b3, 3, none⟩ := ⟨(hB4.cell 2).trans (s_hB4.cell 2).symm, ((lead_now hL hE (j := 0) rfl).trans s_lb.symm), (hB4.cell 0).trans (s_hB4.cell 0).symm, (hB4.cell 1).trans (s_hB4.cell 1).symm, (hB4.cell 3).trans (s_hB4.cell 3).symm⟩
  refine dM 0 rfl rfl hsel (by kernel_rfl) hf rfl hS0 rfl fun a hf => dV 1 rfl rfl hsel (by kernel_rfl) hf rfl (.inl hS0) (fun x => ex_fa (k := 2) (r := 2) hf rfl (by kernel_rfl) rfl) fun a hf => dL 2 rfl rfl hsel (by kernel_rfl) hf rfl hS0 (fun x hS => ex_load hf rfl (by kernel_rfl) (hS.1.trans ((s_hB4.cell 2).trans rfl))) fun a hf => dV 3 rfl rfl hsel (by kernel_rfl) hf rfl (.inl hS0) (fun x => ex_index (sz := 1) (k := 0) (r := lo) hf Try.underlying23 (by kernel_rfl) rfl rfl rfl (by simp) rfl) fun a hf => dL 4 rfl rfl hsel (by kernel_rfl) hf rfl hS0 (fun x hS => ex_load hf rfl (by kernel_rfl) (hS.2.1.trans s_lb)) fun a hf => dL 5 rfl rfl hsel (by kernel_rfl) hf rfl hS0 (fun x hS => ex_loadX4 hf rfl (by kernel_rfl) s_hB4 rfl hS.2.2.1 hS.2.2.2.1 hS.1 hS.2.2.2.2) fun a hf => dl_c 6 (by kernel_rfl) rfl hf rfl rfl rfl (by kernel_rfl) (singleL (k := k) (tx := x)) ?_
  rintro _ w24 ⟨rfl, hx23⟩
  refine ⟨_, rfl, fun a hf => ?_⟩
  replace hB4 := hB4.c0 hx23
  replace hP := hP.chg0 hx23
  replace hE := hE.t0 hx23
  clear hS0
  have hS0 : w24.cell? ⟨b3, 2, none⟩ = w2.cell? ⟨b3, 2, none⟩ ∧ w24.cell? ⟨lb, lo, none⟩ = w2.cell? ⟨lb, lo, none⟩ ∧ w24.cell? ⟨b3, 0, none⟩ = w2.cell? ⟨b3, 0, none⟩ ∧ w24.cell? ⟨b3, 1, none⟩ = w2.cell? ⟨b3, 1, none⟩ ∧ w24.cell? ⟨b3, 3, none⟩ = w2.cell? ⟨b3, 3, none⟩ := ⟨(hB4.cell 2).trans (s_hB4.cell 2).symm, ((lead_now hL hE (j := 0) rfl).trans s_lb.symm), (hB4.cell 0).trans (s_hB4.cell 0).symm, (hB4.cell 1).trans (s_hB4.cell 1).symm, (hB4.cell 3).trans (s_hB4.cell 3).symm⟩
  refine ⟨.inl hS0, ?_⟩
  refine dl_c 7 (by kernel_rfl) rfl hf rfl rfl rfl (by kernel_rfl) (putL (lead := l0) (tok := (singleT k x)) hP (by (try simp only [putP, List.length_append, List.length_cons, List.length_nil]); omega) (by (try simp only [putP, List.length_append, List.length_cons, List.length_nil]); omega) hE.now) ?_
  rintro _ w27 ⟨rfl, hPn, hEn⟩
  refine ⟨_, rfl, fun a hf => ?_⟩
  have hx26 := hEn.chg
  replace hB4 := hB4.chg hx26 (nm_blk hB4 rfl (Ne.symm ne_b_b3))
  replace hE := hE.trans hx26 (fun _ h => .inl h)
  obtain ⟨s25, es25⟩ : ∃ z, z = putP l0 (singleT k x) s := ⟨_, rfl⟩
  replace hPn : Pr Bs b (putP l0 (singleT k x) s).1 (putP l0 (singleT k x) s).2 w27 := hPn
  rw [← es25] at hPn
  have gs25 := put_len l0 (singleT k x) s
  rw [← es25] at gs25
  obtain ⟨gs25, gs25'⟩ := gs25
  (try simp only [List.length_cons, List.length_nil, lsum] at gs25 gs25')
  replace hG := nlt gs25 (Nat.add_le_add_right hG _)
  replace hG' := nlt gs25' (Nat.add_le_add_right hG' _)
  clear gs25 gs25'
  clear hP; have hP := hPn; clear hPn hEn
  clear hS0
  have hS0 : w27.cell? ⟨b3, 2, none⟩ = w2.cell? ⟨b3, 2, none⟩ ∧ w27.cell? ⟨lb, lo, none⟩ = w2.cell? ⟨lb, lo, none⟩ ∧ w27.cell? ⟨b3, 0, none⟩ = w2.cell? ⟨b3, 0, none⟩ ∧ w27.cell? ⟨b3, 1, none⟩ = w2.cell? ⟨b3, 1, none⟩ ∧ w27.cell? ⟨b3, 3, none⟩ = w2.cell? ⟨b3, 3, none⟩ := ⟨(hB4.cell 2).trans (s_hB4.cell 2).symm, ((lead_now hL hE (j := 0) rfl).trans s_lb.symm), (hB4.cell 0).trans (s_hB4.cell 0).symm, (hB4.cell 1).trans (s_hB4.cell 1).symm, (hB4.cell 3).trans (s_hB4.cell 3).symm⟩
  refine ⟨.inl hS0, ?_⟩
  refine dl_done (by kernel_rfl) ?_
  clear hS0 hsel
  have eq : treeP (.node k x [l0] ([] : List Tree)) s = s25 := by subst es25; rw [treeP, treesP]; simp only [nodeP]; rw [if_neg (by omega), if_neg (by omega), if_neg (by omega), if_neg (by omega), if_neg (by omega), if_neg (by omega), if_neg (by omega), if_neg (by omega), if_neg (by omega)]; rfl
  rw [eq]
  try simp only [Exit.then, Exit.inBlock]
  exact end_of (rs := []) hf rfl rfl ⟨rfl, hP, hE⟩
end Go.Proofs.Ythpjpngfghcmcaa
