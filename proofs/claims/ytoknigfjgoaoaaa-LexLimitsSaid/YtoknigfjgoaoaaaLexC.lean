/- Contract of lex.token. -/
import Derived.Test.YtoknigfjgoaoaaaLexB
namespace Go.Proofs.Ytoknigfjgoaoaaa
open Go.RowKit Lx
set_option linter.unusedSimpArgs false
set_option linter.unusedVariables false

def idxS (c : UInt8) : Int := Lib.indexByte signs c
theorem idx_mem : ∀ (l : List UInt8) (c : UInt8), 0 ≤ Lib.indexByte l c ↔ l.contains c = true
  | [], c => by simp [Lib.indexByte]
  | b :: l, c => by
    have ih := idx_mem l c
    have hg := Lib.indexByte_ge l c
    unfold Lib.indexByte
    by_cases h : b = c
    · simp [h]
    · have h' : ¬ c = b := fun e => h e.symm
      simp only [beq_iff_eq, h, if_false, List.contains_cons, h', Bool.or_eq_true, false_or]
      rw [← ih]
      split <;> omega
theorem idxS_iff (c : UInt8) : 0 ≤ idxS c ↔ signs.contains c = true := idx_mem _ _
theorem signsL (c : UInt8) (w : World) : Calls Try.prog 39 #[.string ⟨#[40, 41, 91, 93, 58, 44, 61, 43, 45, 42, 60, 63]⟩, .int .u8 (c.toNat : Int)] w fun e w' => e = .returned (.int .i64 (idxS c)) ∧ w = w' := by
  refine (indexByteS _ _ w).mono ?_
  rintro e w' ⟨rfl, rfl⟩
  refine ⟨ret_int ?_, rfl⟩
  have : ((c.toNat : Int)).toNat.toUInt8 = c := by simp
  rw [this]; rfl

set_option maxHeartbeats 4000000 in
theorem tokenL (l : List UInt8) (w : World) (h0 : 0 < l.length) (hl : l.length ≤ 281474976710656) : Calls Try.prog 27 #[.string ⟨l.toArray⟩] w fun e w' => e = .returned (.tuple #[.int .i64 ((tokenT l).1 : Nat), .int .i64 ((tokenT l).2.1 : Nat), .int .i64 ((tokenT l).2.2 : Nat)]) ∧ w = w' := by
  obtain ⟨c0, hc0⟩ : ∃ c, ({ data := l.toArray } : ByteArray)[0]'h0 = c := ⟨_, rfl⟩
  have HC0 := Lib.hid (show l[0] = c0 from hc0)
  have HT := Lib.hid (tokenT_eq h0 HC0.out)
  go_enter Try.func27, Try.ntmps27
  cases ha : allowedB c0
  · skip
    have HW := Lib.hid (show tokenT l = (0, 0, 1) from by rw [HT.out, if_pos ha])
    go_wp2_with (first | (go_at_call 26; refine (allowedL _ _).mono ?_; rintro e w' ⟨rfl, rfl⟩) | (go_at_call 34; refine (letterL _ _).mono ?_; rintro e w' ⟨rfl, rfl⟩) | (go_at_call 36; refine (digitL _ _).mono ?_; rintro e w' ⟨rfl, rfl⟩) | (go_at_call 35; refine (wordL _ _ h0 hl).mono ?_; rintro e w' ⟨rfl, rfl⟩) | (go_at_call 37; refine (numberL _ _ hl).mono ?_; rintro e w' ⟨rfl, rfl⟩) | (go_at_call 38; refine (quotedL _ _ h0 hl).mono ?_; rintro e w' ⟨rfl, rfl⟩) | (go_at_call 39; refine (signsL _ _).mono ?_; rintro e w' ⟨rfl, rfl⟩))
    go_ret3
    exact ⟨by rw [HW.out]; rfl, rfl⟩
  have HA := Lib.hid (show ¬ allowedB c0 = false from by simp [ha])
  cases hle : letterB c0
  rotate_left
  · skip
    have HW := Lib.hid (show tokenT l = wordT l from by rw [HT.out, if_neg HA.out, if_pos hle])
    go_wp2_with (first | (go_at_call 26; refine (allowedL _ _).mono ?_; rintro e w' ⟨rfl, rfl⟩) | (go_at_call 34; refine (letterL _ _).mono ?_; rintro e w' ⟨rfl, rfl⟩) | (go_at_call 36; refine (digitL _ _).mono ?_; rintro e w' ⟨rfl, rfl⟩) | (go_at_call 35; refine (wordL _ _ h0 hl).mono ?_; rintro e w' ⟨rfl, rfl⟩) | (go_at_call 37; refine (numberL _ _ hl).mono ?_; rintro e w' ⟨rfl, rfl⟩) | (go_at_call 38; refine (quotedL _ _ h0 hl).mono ?_; rintro e w' ⟨rfl, rfl⟩) | (go_at_call 39; refine (signsL _ _).mono ?_; rintro e w' ⟨rfl, rfl⟩))
    go_ret3
    exact ⟨by rw [HW.out]; rfl, rfl⟩
  have HL := Lib.hid (show ¬ letterB c0 = true from by simp [hle])
  cases hd : digitB c0
  rotate_left
  · skip
    have HW := Lib.hid (show tokenT l = (5, numberT l) from by rw [HT.out, if_neg HA.out, if_neg HL.out, if_pos hd])
    go_wp2_with (first | (go_at_call 26; refine (allowedL _ _).mono ?_; rintro e w' ⟨rfl, rfl⟩) | (go_at_call 34; refine (letterL _ _).mono ?_; rintro e w' ⟨rfl, rfl⟩) | (go_at_call 36; refine (digitL _ _).mono ?_; rintro e w' ⟨rfl, rfl⟩) | (go_at_call 35; refine (wordL _ _ h0 hl).mono ?_; rintro e w' ⟨rfl, rfl⟩) | (go_at_call 37; refine (numberL _ _ hl).mono ?_; rintro e w' ⟨rfl, rfl⟩) | (go_at_call 38; refine (quotedL _ _ h0 hl).mono ?_; rintro e w' ⟨rfl, rfl⟩) | (go_at_call 39; refine (signsL _ _).mono ?_; rintro e w' ⟨rfl, rfl⟩))
    go_ret3
    exact ⟨by rw [HW.out]; rfl, rfl⟩
  have HD := Lib.hid (show ¬ digitB c0 = true from by simp [hd])
  cases h34 : ((c0.toNat : Int) == 34)
  rotate_left
  · skip
    have HW := Lib.hid (show tokenT l = (6, quotedT l.tail 1) from by rw [HT.out, if_neg HA.out, if_neg HL.out, if_neg HD.out, if_pos (beqI (m := 34) h34)])
    go_wp2_with (first | (go_at_call 26; refine (allowedL _ _).mono ?_; rintro e w' ⟨rfl, rfl⟩) | (go_at_call 34; refine (letterL _ _).mono ?_; rintro e w' ⟨rfl, rfl⟩) | (go_at_call 36; refine (digitL _ _).mono ?_; rintro e w' ⟨rfl, rfl⟩) | (go_at_call 35; refine (wordL _ _ h0 hl).mono ?_; rintro e w' ⟨rfl, rfl⟩) | (go_at_call 37; refine (numberL _ _ hl).mono ?_; rintro e w' ⟨rfl, rfl⟩) | (go_at_call 38; refine (quotedL _ _ h0 hl).mono ?_; rintro e w' ⟨rfl, rfl⟩) | (go_at_call 39; refine (signsL _ _).mono ?_; rintro e w' ⟨rfl, rfl⟩))
    go_ret3
    exact ⟨by rw [HW.out]; rfl, rfl⟩
  have HQ := Lib.hid (bneI (m := 34) h34)
  cases h61 : ((c0.toNat : Int) == 61)
  · skip
    have HE := Lib.hid (show ¬ (c0.toNat = 61 ∧ 1 < l.length ∧ (l.getD 1 0).toNat = 61) from fun h => bneI (m := 61) h61 h.1)
    by_cases hs : 0 ≤ idxS c0
    · skip
      have HW := Lib.hid (show tokenT l = (8, 1, 0) from by rw [HT.out, if_neg HA.out, if_neg HL.out, if_neg HD.out, if_neg HQ.out, if_neg HE.out, if_pos ((idxS_iff c0).1 hs)])
      go_wp2_with (first | (go_at_call 26; refine (allowedL _ _).mono ?_; rintro e w' ⟨rfl, rfl⟩) | (go_at_call 34; refine (letterL _ _).mono ?_; rintro e w' ⟨rfl, rfl⟩) | (go_at_call 36; refine (digitL _ _).mono ?_; rintro e w' ⟨rfl, rfl⟩) | (go_at_call 35; refine (wordL _ _ h0 hl).mono ?_; rintro e w' ⟨rfl, rfl⟩) | (go_at_call 37; refine (numberL _ _ hl).mono ?_; rintro e w' ⟨rfl, rfl⟩) | (go_at_call 38; refine (quotedL _ _ h0 hl).mono ?_; rintro e w' ⟨rfl, rfl⟩) | (go_at_call 39; refine (signsL _ _).mono ?_; rintro e w' ⟨rfl, rfl⟩))
      go_ret3
      exact ⟨by rw [HW.out]; rfl, rfl⟩
    · skip
      have HW := Lib.hid (show tokenT l = (0, 0, 2) from by rw [HT.out, if_neg HA.out, if_neg HL.out, if_neg HD.out, if_neg HQ.out, if_neg HE.out, if_neg (fun h => hs ((idxS_iff c0).2 h))])
      go_wp2_with (first | (go_at_call 26; refine (allowedL _ _).mono ?_; rintro e w' ⟨rfl, rfl⟩) | (go_at_call 34; refine (letterL _ _).mono ?_; rintro e w' ⟨rfl, rfl⟩) | (go_at_call 36; refine (digitL _ _).mono ?_; rintro e w' ⟨rfl, rfl⟩) | (go_at_call 35; refine (wordL _ _ h0 hl).mono ?_; rintro e w' ⟨rfl, rfl⟩) | (go_at_call 37; refine (numberL _ _ hl).mono ?_; rintro e w' ⟨rfl, rfl⟩) | (go_at_call 38; refine (quotedL _ _ h0 hl).mono ?_; rintro e w' ⟨rfl, rfl⟩) | (go_at_call 39; refine (signsL _ _).mono ?_; rintro e w' ⟨rfl, rfl⟩))
      go_ret3
      exact ⟨by rw [HW.out]; rfl, rfl⟩
  by_cases h1 : 1 < l.length
  rotate_left
  · skip
    have HE := Lib.hid (show ¬ (c0.toNat = 61 ∧ 1 < l.length ∧ (l.getD 1 0).toNat = 61) from fun h => h1 h.2.1)
    by_cases hs : 0 ≤ idxS c0
    · skip
      have HW := Lib.hid (show tokenT l = (8, 1, 0) from by rw [HT.out, if_neg HA.out, if_neg HL.out, if_neg HD.out, if_neg HQ.out, if_neg HE.out, if_pos ((idxS_iff c0).1 hs)])
      go_wp2_with (first | (go_at_call 26; refine (allowedL _ _).mono ?_; rintro e w' ⟨rfl, rfl⟩) | (go_at_call 34; refine (letterL _ _).mono ?_; rintro e w' ⟨rfl, rfl⟩) | (go_at_call 36; refine (digitL _ _).mono ?_; rintro e w' ⟨rfl, rfl⟩) | (go_at_call 35; refine (wordL _ _ h0 hl).mono ?_; rintro e w' ⟨rfl, rfl⟩) | (go_at_call 37; refine (numberL _ _ hl).mono ?_; rintro e w' ⟨rfl, rfl⟩) | (go_at_call 38; refine (quotedL _ _ h0 hl).mono ?_; rintro e w' ⟨rfl, rfl⟩) | (go_at_call 39; refine (signsL _ _).mono ?_; rintro e w' ⟨rfl, rfl⟩))
      go_ret3
      exact ⟨by rw [HW.out]; rfl, rfl⟩
    · skip
      have HW := Lib.hid (show tokenT l = (0, 0, 2) from by rw [HT.out, if_neg HA.out, if_neg HL.out, if_neg HD.out, if_neg HQ.out, if_neg HE.out, if_neg (fun h => hs ((idxS_iff c0).2 h))])
      go_wp2_with (first | (go_at_call 26; refine (allowedL _ _).mono ?_; rintro e w' ⟨rfl, rfl⟩) | (go_at_call 34; refine (letterL _ _).mono ?_; rintro e w' ⟨rfl, rfl⟩) | (go_at_call 36; refine (digitL _ _).mono ?_; rintro e w' ⟨rfl, rfl⟩) | (go_at_call 35; refine (wordL _ _ h0 hl).mono ?_; rintro e w' ⟨rfl, rfl⟩) | (go_at_call 37; refine (numberL _ _ hl).mono ?_; rintro e w' ⟨rfl, rfl⟩) | (go_at_call 38; refine (quotedL _ _ h0 hl).mono ?_; rintro e w' ⟨rfl, rfl⟩) | (go_at_call 39; refine (signsL _ _).mono ?_; rintro e w' ⟨rfl, rfl⟩))
      go_ret3
      exact ⟨by rw [HW.out]; rfl, rfl⟩
  obtain ⟨c1, hc1⟩ : ∃ c, ({ data := l.toArray } : ByteArray)[1]'h1 = c := ⟨_, rfl⟩
  have HC1 := Lib.hid (show l[1] = c1 from hc1)
  cases h62 : ((c1.toNat : Int) == 61)
  · skip
    have HE := Lib.hid (show ¬ (c0.toNat = 61 ∧ 1 < l.length ∧ (l.getD 1 0).toNat = 61) from fun h => bneI (m := 61) h62 (by rw [← getD_of_lt h1 HC1.out]; exact h.2.2))
    by_cases hs : 0 ≤ idxS c0
    · skip
      have HW := Lib.hid (show tokenT l = (8, 1, 0) from by rw [HT.out, if_neg HA.out, if_neg HL.out, if_neg HD.out, if_neg HQ.out, if_neg HE.out, if_pos ((idxS_iff c0).1 hs)])
      go_wp2_with (first | (go_at_call 26; refine (allowedL _ _).mono ?_; rintro e w' ⟨rfl, rfl⟩) | (go_at_call 34; refine (letterL _ _).mono ?_; rintro e w' ⟨rfl, rfl⟩) | (go_at_call 36; refine (digitL _ _).mono ?_; rintro e w' ⟨rfl, rfl⟩) | (go_at_call 35; refine (wordL _ _ h0 hl).mono ?_; rintro e w' ⟨rfl, rfl⟩) | (go_at_call 37; refine (numberL _ _ hl).mono ?_; rintro e w' ⟨rfl, rfl⟩) | (go_at_call 38; refine (quotedL _ _ h0 hl).mono ?_; rintro e w' ⟨rfl, rfl⟩) | (go_at_call 39; refine (signsL _ _).mono ?_; rintro e w' ⟨rfl, rfl⟩))
      go_ret3
      exact ⟨by rw [HW.out]; rfl, rfl⟩
    · skip
      have HW := Lib.hid (show tokenT l = (0, 0, 2) from by rw [HT.out, if_neg HA.out, if_neg HL.out, if_neg HD.out, if_neg HQ.out, if_neg HE.out, if_neg (fun h => hs ((idxS_iff c0).2 h))])
      go_wp2_with (first | (go_at_call 26; refine (allowedL _ _).mono ?_; rintro e w' ⟨rfl, rfl⟩) | (go_at_call 34; refine (letterL _ _).mono ?_; rintro e w' ⟨rfl, rfl⟩) | (go_at_call 36; refine (digitL _ _).mono ?_; rintro e w' ⟨rfl, rfl⟩) | (go_at_call 35; refine (wordL _ _ h0 hl).mono ?_; rintro e w' ⟨rfl, rfl⟩) | (go_at_call 37; refine (numberL _ _ hl).mono ?_; rintro e w' ⟨rfl, rfl⟩) | (go_at_call 38; refine (quotedL _ _ h0 hl).mono ?_; rintro e w' ⟨rfl, rfl⟩) | (go_at_call 39; refine (signsL _ _).mono ?_; rintro e w' ⟨rfl, rfl⟩))
      go_ret3
      exact ⟨by rw [HW.out]; rfl, rfl⟩
  · skip
    have HW := Lib.hid (show tokenT l = (8, 2, 0) from by rw [HT.out, if_neg HA.out, if_neg HL.out, if_neg HD.out, if_neg HQ.out, if_pos ⟨beqI (m := 61) h61, h1, by rw [getD_of_lt h1 HC1.out]; exact beqI (m := 61) h62⟩])
    go_wp2_with (first | (go_at_call 26; refine (allowedL _ _).mono ?_; rintro e w' ⟨rfl, rfl⟩) | (go_at_call 34; refine (letterL _ _).mono ?_; rintro e w' ⟨rfl, rfl⟩) | (go_at_call 36; refine (digitL _ _).mono ?_; rintro e w' ⟨rfl, rfl⟩) | (go_at_call 35; refine (wordL _ _ h0 hl).mono ?_; rintro e w' ⟨rfl, rfl⟩) | (go_at_call 37; refine (numberL _ _ hl).mono ?_; rintro e w' ⟨rfl, rfl⟩) | (go_at_call 38; refine (quotedL _ _ h0 hl).mono ?_; rintro e w' ⟨rfl, rfl⟩) | (go_at_call 39; refine (signsL _ _).mono ?_; rintro e w' ⟨rfl, rfl⟩))
    go_ret3
    exact ⟨by rw [HW.out]; rfl, rfl⟩
end Go.Proofs.Ytoknigfjgoaoaaa
