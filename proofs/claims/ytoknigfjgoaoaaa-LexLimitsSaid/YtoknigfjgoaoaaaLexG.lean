/- Contract of the reference's next. -/
import Derived.Test.YtoknigfjgoaoaaaLexF
namespace Go.Proofs.Ytoknigfjgoaoaaa
open Go.RowKit Lx
set_option linter.unusedSimpArgs false
set_option linter.unusedVariables false

theorem itemV_form (at0 : Nat) (t : Nat × Nat × Nat) : ∃ a b c d : Int, itemV at0 t = .agg #[.int .i64 a, .int .i64 b, .int .i64 c, .int .i64 d] := by
  unfold itemV; split <;> exact ⟨_, _, _, _, rfl⟩
abbrev itemBlock : Obj := .cells #[.int .i64 0, .int .i64 0, .int .i64 0, .int .i64 0] 43

set_option maxHeartbeats 4000000 in
theorem nextR (l : List UInt8) (x : Int) (k : Nat) (hxk : x = k) (w : World) (hlt : k < l.length) (hl : l.length ≤ 281474976710656) : Calls Try.prog 30 #[.string ⟨l.toArray⟩, .int .i64 x] w (ItemPost k (tokenT (l.drop k)) w) := by
  subst hxk
  obtain ⟨T, hT⟩ : ∃ T, tokenT (l.drop k) = T := ⟨_, rfl⟩
  rw [hT]
  have h0 : 0 < (l.drop k).length := by simp; omega
  obtain ⟨c, hc⟩ : ∃ c, ({ data := l.toArray } : ByteArray)[k]'hlt = c := ⟨_, rfl⟩
  have HC := Lib.hid (show l[k] = c from hc)
  have HC0 := Lib.hid (show (l.drop k)[0] = c from by rw [List.getElem_drop]; exact hc)
  have HT := Lib.hid ((tokenT_eq h0 HC0.out).symm.trans hT)
  clear hT
  go_enter Try.func30, Try.ntmps30
  cases ha : allowedB c
  · skip
    have HW := Lib.hid (show T = (0, 0, 1) from by rw [← HT.out, if_pos ha])
    go_wp2_with (first | (go_at_call 40; refine (allowedR _ _).mono ?_; rintro e w' ⟨rfl, rfl⟩) | (go_at_call 41; refine (printedR _ _).mono ?_; rintro e w' ⟨rfl, rfl⟩) | (go_at_call 42; refine (digitR _ _).mono ?_; rintro e w' ⟨rfl, rfl⟩) | (go_at_call 43; refine (lowerR _ _).mono ?_; rintro e w' ⟨rfl, rfl⟩) | (go_at_call 44; refine (upperR _ _).mono ?_; rintro e w' ⟨rfl, rfl⟩) | (go_at_call 46; refine (signR _ _ k rfl _ hlt hl).mono ?_; rintro e w' ⟨rfl, rfl⟩))
    exact bodyPost_ret (v := .agg #[.int .i64 0, .int .i64 0, .int .i64 1, .int .i64 k]) (by simp [results, Try.results30, go_sem]) rfl (item_err HW.out (by omega) (by omega) (by omega) (by repeat (first | exact Ext.refl _ | apply Ext.alloc | (refine Ext.setCell ?_ (Nat.le_refl _) _))))
  have HA := Lib.hid (show ¬ allowedB c = false from by simp [ha])
  cases h34 : ((c.toNat : Int) == 34)
  rotate_left
  · have h34' := beqI (m := 34) h34
    have HT2 := Lib.hid (show T = (6, quotedT (l.drop (k + 1)) 1) from by
      rw [← HT.out, if_neg HA.out, if_neg (by simp [letterB, lowerB, upperB, h34']), if_neg (by simp [digitB, h34']), if_pos h34', List.tail_drop])
    clear h34'
    go_wp2_with (first | (go_at_call 40; refine (allowedR _ _).mono ?_; rintro e w' ⟨rfl, rfl⟩) | (go_at_call 41; refine (printedR _ _).mono ?_; rintro e w' ⟨rfl, rfl⟩) | (go_at_call 42; refine (digitR _ _).mono ?_; rintro e w' ⟨rfl, rfl⟩) | (go_at_call 43; refine (lowerR _ _).mono ?_; rintro e w' ⟨rfl, rfl⟩) | (go_at_call 44; refine (upperR _ _).mono ?_; rintro e w' ⟨rfl, rfl⟩) | (go_at_call 46; refine (signR _ _ k rfl _ hlt hl).mono ?_; rintro e w' ⟨rfl, rfl⟩))
    go_loopg [6] (l.length - (k + 1)) (fun g n wx => ∃ i : Nat, g = l.length - i ∧ wx = w.alloc itemBlock ∧ k + 1 ≤ i ∧ i ≤ l.length ∧ n = .int .i64 i ∧ Hid (quotedT (l.drop (k + 1)) 1 = quotedT (l.drop i) (i - k)))
    case atStart => exact ⟨k + 1, rfl, rfl, Nat.le_refl _, by omega, by go_num, Lib.hid (by congr 1; omega)⟩
    case round =>
      obtain ⟨i, rfl, rfl, hki, hil, rfl, hrel⟩ := hrel
      by_cases hit : i < l.length
      · skip
        obtain ⟨d, hd⟩ : ∃ c, ({ data := l.toArray } : ByteArray)[i]'hit = c := ⟨_, rfl⟩
        have HD := Lib.hid (show l[i] = d from hd)
        have HS := Lib.hid (quotedT_at (j := i - k) hit HD.out)
        cases hq : ((d.toNat : Int) == 34)
        rotate_left
        · have HW := Lib.hid (show T = (6, i - k + 1, 0) from by rw [HT2.out, hrel.out, HS.out, if_neg (by simp [allowed_quote (beqI (m := 34) hq)]), if_pos (beqI (m := 34) hq)])
          go_wp2_with (first | (go_at_call 40; refine (allowedR _ _).mono ?_; rintro e w' ⟨rfl, rfl⟩) | (go_at_call 41; refine (printedR _ _).mono ?_; rintro e w' ⟨rfl, rfl⟩) | (go_at_call 42; refine (digitR _ _).mono ?_; rintro e w' ⟨rfl, rfl⟩) | (go_at_call 43; refine (lowerR _ _).mono ?_; rintro e w' ⟨rfl, rfl⟩) | (go_at_call 44; refine (upperR _ _).mono ?_; rintro e w' ⟨rfl, rfl⟩) | (go_at_call 46; refine (signR _ _ k rfl _ hlt hl).mono ?_; rintro e w' ⟨rfl, rfl⟩))
          exact bodyPost_ret (v := .agg #[.int .i64 ((i : Int) + 1 - k), .int .i64 6, .int .i64 0, .int .i64 0]) (by simp [results, Try.results30, go_sem]) rfl (item_ok HW.out (by omega) (by omega) (by repeat (first | exact Ext.refl _ | apply Ext.alloc | (refine Ext.setCell ?_ (Nat.le_refl _) _))))
        cases had : allowedB d
        · have HW := Lib.hid (show T = (6, i - k, 1) from by rw [HT2.out, hrel.out, HS.out, if_pos had])
          go_wp2_with (first | (go_at_call 40; refine (allowedR _ _).mono ?_; rintro e w' ⟨rfl, rfl⟩) | (go_at_call 41; refine (printedR _ _).mono ?_; rintro e w' ⟨rfl, rfl⟩) | (go_at_call 42; refine (digitR _ _).mono ?_; rintro e w' ⟨rfl, rfl⟩) | (go_at_call 43; refine (lowerR _ _).mono ?_; rintro e w' ⟨rfl, rfl⟩) | (go_at_call 44; refine (upperR _ _).mono ?_; rintro e w' ⟨rfl, rfl⟩) | (go_at_call 46; refine (signR _ _ k rfl _ hlt hl).mono ?_; rintro e w' ⟨rfl, rfl⟩))
          exact bodyPost_ret (v := .agg #[.int .i64 0, .int .i64 0, .int .i64 1, .int .i64 i]) (by simp [results, Try.results30, go_sem]) rfl (item_err HW.out (by omega) (by omega) (by omega) (by repeat (first | exact Ext.refl _ | apply Ext.alloc | (refine Ext.setCell ?_ (Nat.le_refl _) _))))
        cases hpr : printedB d
        · have HW := Lib.hid (show T = (6, 0, 2) from by rw [HT2.out, hrel.out, HS.out, if_neg (by simp [had]), if_neg (bneI (m := 34) hq), if_pos (.inr (printed_lt had hpr))])
          go_wp2_with (first | (go_at_call 40; refine (allowedR _ _).mono ?_; rintro e w' ⟨rfl, rfl⟩) | (go_at_call 41; refine (printedR _ _).mono ?_; rintro e w' ⟨rfl, rfl⟩) | (go_at_call 42; refine (digitR _ _).mono ?_; rintro e w' ⟨rfl, rfl⟩) | (go_at_call 43; refine (lowerR _ _).mono ?_; rintro e w' ⟨rfl, rfl⟩) | (go_at_call 44; refine (upperR _ _).mono ?_; rintro e w' ⟨rfl, rfl⟩) | (go_at_call 46; refine (signR _ _ k rfl _ hlt hl).mono ?_; rintro e w' ⟨rfl, rfl⟩))
          exact bodyPost_ret (v := .agg #[.int .i64 0, .int .i64 0, .int .i64 2, .int .i64 k]) (by simp [results, Try.results30, go_sem]) rfl (item_err HW.out (by omega) (by omega) (by omega) (by repeat (first | exact Ext.refl _ | apply Ext.alloc | (refine Ext.setCell ?_ (Nat.le_refl _) _))))
        cases h92 : ((d.toNat : Int) == 92)
        rotate_left
        · have HW := Lib.hid (show T = (6, 0, 2) from by rw [HT2.out, hrel.out, HS.out, if_neg (by simp [had]), if_neg (bneI (m := 34) hq), if_pos (.inl (beqI (m := 92) h92))])
          go_wp2_with (first | (go_at_call 40; refine (allowedR _ _).mono ?_; rintro e w' ⟨rfl, rfl⟩) | (go_at_call 41; refine (printedR _ _).mono ?_; rintro e w' ⟨rfl, rfl⟩) | (go_at_call 42; refine (digitR _ _).mono ?_; rintro e w' ⟨rfl, rfl⟩) | (go_at_call 43; refine (lowerR _ _).mono ?_; rintro e w' ⟨rfl, rfl⟩) | (go_at_call 44; refine (upperR _ _).mono ?_; rintro e w' ⟨rfl, rfl⟩) | (go_at_call 46; refine (signR _ _ k rfl _ hlt hl).mono ?_; rintro e w' ⟨rfl, rfl⟩))
          exact bodyPost_ret (v := .agg #[.int .i64 0, .int .i64 0, .int .i64 2, .int .i64 k]) (by simp [results, Try.results30, go_sem]) rfl (item_err HW.out (by omega) (by omega) (by omega) (by repeat (first | exact Ext.refl _ | apply Ext.alloc | (refine Ext.setCell ?_ (Nat.le_refl _) _))))
        · go_wp2_with (first | (go_at_call 40; refine (allowedR _ _).mono ?_; rintro e w' ⟨rfl, rfl⟩) | (go_at_call 41; refine (printedR _ _).mono ?_; rintro e w' ⟨rfl, rfl⟩) | (go_at_call 42; refine (digitR _ _).mono ?_; rintro e w' ⟨rfl, rfl⟩) | (go_at_call 43; refine (lowerR _ _).mono ?_; rintro e w' ⟨rfl, rfl⟩) | (go_at_call 44; refine (upperR _ _).mono ?_; rintro e w' ⟨rfl, rfl⟩) | (go_at_call 46; refine (signR _ _ k rfl _ hlt hl).mono ?_; rintro e w' ⟨rfl, rfl⟩))
          go_roundg (l.length - (i + 1))
          case measure => omega
          case rel => exact ⟨i + 1, rfl, rfl, by omega, by omega, by go_num, Lib.hid (by rw [hrel.out, HS.out, if_neg (by simp [had]), if_neg (bneI (m := 34) hq), if_neg (fun h => h.elim (bneI (m := 92) h92) (printed_ge hpr))]; congr 1; omega)⟩
      · have HW := Lib.hid (show T = (6, 0, 2) from by rw [HT2.out, hrel.out, quotedT_at_end (by omega)])
        go_wp2_with (first | (go_at_call 40; refine (allowedR _ _).mono ?_; rintro e w' ⟨rfl, rfl⟩) | (go_at_call 41; refine (printedR _ _).mono ?_; rintro e w' ⟨rfl, rfl⟩) | (go_at_call 42; refine (digitR _ _).mono ?_; rintro e w' ⟨rfl, rfl⟩) | (go_at_call 43; refine (lowerR _ _).mono ?_; rintro e w' ⟨rfl, rfl⟩) | (go_at_call 44; refine (upperR _ _).mono ?_; rintro e w' ⟨rfl, rfl⟩) | (go_at_call 46; refine (signR _ _ k rfl _ hlt hl).mono ?_; rintro e w' ⟨rfl, rfl⟩))
        exact bodyPost_ret (v := .agg #[.int .i64 0, .int .i64 0, .int .i64 2, .int .i64 k]) (by simp [results, Try.results30, go_sem]) rfl (item_err HW.out (by omega) (by omega) (by omega) (by repeat (first | exact Ext.refl _ | apply Ext.alloc | (refine Ext.setCell ?_ (Nat.le_refl _) _))))
  cases hdg : digitB c
  rotate_left
  · have HT2 := Lib.hid (show T = (5, numberT (l.drop k)) from by
      rw [← HT.out, if_neg HA.out, if_neg (by simp [letterB, lowerB, upperB, digitB] at hdg ⊢; omega), if_pos hdg])
    go_wp2_with (first | (go_at_call 40; refine (allowedR _ _).mono ?_; rintro e w' ⟨rfl, rfl⟩) | (go_at_call 41; refine (printedR _ _).mono ?_; rintro e w' ⟨rfl, rfl⟩) | (go_at_call 42; refine (digitR _ _).mono ?_; rintro e w' ⟨rfl, rfl⟩) | (go_at_call 43; refine (lowerR _ _).mono ?_; rintro e w' ⟨rfl, rfl⟩) | (go_at_call 44; refine (upperR _ _).mono ?_; rintro e w' ⟨rfl, rfl⟩) | (go_at_call 46; refine (signR _ _ k rfl _ hlt hl).mono ?_; rintro e w' ⟨rfl, rfl⟩))
    go_loopg [7] (l.length - k) (fun g n wx => ∃ i : Nat, g = l.length - i ∧ wx = w.alloc itemBlock ∧ k ≤ i ∧ i ≤ l.length ∧ n = .int .i64 i ∧ Hid (spanN digitB (l.drop k) = i - k + spanN digitB (l.drop i)))
    case atStart => exact ⟨k, rfl, rfl, Nat.le_refl _, by omega, rfl, Lib.hid (by omega)⟩
    case round =>
      obtain ⟨i, rfl, rfl, hki, hil, rfl, hrel⟩ := hrel
      by_cases hit : i < l.length
      · skip
        obtain ⟨d, hd⟩ : ∃ c, ({ data := l.toArray } : ByteArray)[i]'hit = c := ⟨_, rfl⟩
        have HD := Lib.hid (show l[i] = d from hd)
        cases hdd : digitB d
        · skip
          have HN := Lib.hid (show spanN digitB (l.drop k) = i - k from by rw [hrel.out, spanN_stop hit HD.out hdd]; omega)
          by_cases h1 : 1 < i - k
          · have h1' : (1 : Int) < i - k := by omega
            cases h48 : ((c.toNat : Int) == 48)
            · have HG := Lib.hid (show 1 < i - k → ¬ ((l.drop k).getD 0 0).toNat = 48 from fun _ => by rw [getD_of_lt h0 HC0.out]; exact bneI (m := 48) h48)
              by_cases h15 : 15 < i - k
              · have h15' : (15 : Int) < i - k := by omega
                have HW := Lib.hid (show T = (5, 0, 3) from by rw [HT2.out, numberT_long HN.out HG.out h15])
                go_wp2_with (first | (go_at_call 40; refine (allowedR _ _).mono ?_; rintro e w' ⟨rfl, rfl⟩) | (go_at_call 41; refine (printedR _ _).mono ?_; rintro e w' ⟨rfl, rfl⟩) | (go_at_call 42; refine (digitR _ _).mono ?_; rintro e w' ⟨rfl, rfl⟩) | (go_at_call 43; refine (lowerR _ _).mono ?_; rintro e w' ⟨rfl, rfl⟩) | (go_at_call 44; refine (upperR _ _).mono ?_; rintro e w' ⟨rfl, rfl⟩) | (go_at_call 46; refine (signR _ _ k rfl _ hlt hl).mono ?_; rintro e w' ⟨rfl, rfl⟩))
                exact bodyPost_ret (v := .agg #[.int .i64 0, .int .i64 0, .int .i64 3, .int .i64 k]) (by simp [results, Try.results30, go_sem]) rfl (item_err HW.out (by omega) (by omega) (by omega) (by repeat (first | exact Ext.refl _ | apply Ext.alloc | (refine Ext.setCell ?_ (Nat.le_refl _) _))))
              · have h15' : ¬ ((15 : Int) < i - k) := by omega
                have HW := Lib.hid (show T = (5, i - k, 0) from by rw [HT2.out, numberT_ok HN.out HG.out h15])
                go_wp2_with (first | (go_at_call 40; refine (allowedR _ _).mono ?_; rintro e w' ⟨rfl, rfl⟩) | (go_at_call 41; refine (printedR _ _).mono ?_; rintro e w' ⟨rfl, rfl⟩) | (go_at_call 42; refine (digitR _ _).mono ?_; rintro e w' ⟨rfl, rfl⟩) | (go_at_call 43; refine (lowerR _ _).mono ?_; rintro e w' ⟨rfl, rfl⟩) | (go_at_call 44; refine (upperR _ _).mono ?_; rintro e w' ⟨rfl, rfl⟩) | (go_at_call 46; refine (signR _ _ k rfl _ hlt hl).mono ?_; rintro e w' ⟨rfl, rfl⟩))
                exact bodyPost_ret (v := .agg #[.int .i64 ((i : Int) - k), .int .i64 5, .int .i64 0, .int .i64 0]) (by simp [results, Try.results30, go_sem]) rfl (item_ok HW.out (by omega) (by omega) (by repeat (first | exact Ext.refl _ | apply Ext.alloc | (refine Ext.setCell ?_ (Nat.le_refl _) _))))
            · skip
              have HW := Lib.hid (show T = (5, 0, 2) from by rw [HT2.out, numberT_zero HN.out h1 h0 HC0.out h48])
              go_wp2_with (first | (go_at_call 40; refine (allowedR _ _).mono ?_; rintro e w' ⟨rfl, rfl⟩) | (go_at_call 41; refine (printedR _ _).mono ?_; rintro e w' ⟨rfl, rfl⟩) | (go_at_call 42; refine (digitR _ _).mono ?_; rintro e w' ⟨rfl, rfl⟩) | (go_at_call 43; refine (lowerR _ _).mono ?_; rintro e w' ⟨rfl, rfl⟩) | (go_at_call 44; refine (upperR _ _).mono ?_; rintro e w' ⟨rfl, rfl⟩) | (go_at_call 46; refine (signR _ _ k rfl _ hlt hl).mono ?_; rintro e w' ⟨rfl, rfl⟩))
              exact bodyPost_ret (v := .agg #[.int .i64 0, .int .i64 0, .int .i64 2, .int .i64 k]) (by simp [results, Try.results30, go_sem]) rfl (item_err HW.out (by omega) (by omega) (by omega) (by repeat (first | exact Ext.refl _ | apply Ext.alloc | (refine Ext.setCell ?_ (Nat.le_refl _) _))))
          · have h1' : ¬ ((1 : Int) < i - k) := by omega
            have h15' : ¬ ((15 : Int) < i - k) := by omega
            have HW := Lib.hid (show T = (5, i - k, 0) from by rw [HT2.out, numberT_ok HN.out (fun h => absurd h h1) (by omega)])
            go_wp2_with (first | (go_at_call 40; refine (allowedR _ _).mono ?_; rintro e w' ⟨rfl, rfl⟩) | (go_at_call 41; refine (printedR _ _).mono ?_; rintro e w' ⟨rfl, rfl⟩) | (go_at_call 42; refine (digitR _ _).mono ?_; rintro e w' ⟨rfl, rfl⟩) | (go_at_call 43; refine (lowerR _ _).mono ?_; rintro e w' ⟨rfl, rfl⟩) | (go_at_call 44; refine (upperR _ _).mono ?_; rintro e w' ⟨rfl, rfl⟩) | (go_at_call 46; refine (signR _ _ k rfl _ hlt hl).mono ?_; rintro e w' ⟨rfl, rfl⟩))
            exact bodyPost_ret (v := .agg #[.int .i64 ((i : Int) - k), .int .i64 5, .int .i64 0, .int .i64 0]) (by simp [results, Try.results30, go_sem]) rfl (item_ok HW.out (by omega) (by omega) (by repeat (first | exact Ext.refl _ | apply Ext.alloc | (refine Ext.setCell ?_ (Nat.le_refl _) _))))
        · go_wp2_with (first | (go_at_call 40; refine (allowedR _ _).mono ?_; rintro e w' ⟨rfl, rfl⟩) | (go_at_call 41; refine (printedR _ _).mono ?_; rintro e w' ⟨rfl, rfl⟩) | (go_at_call 42; refine (digitR _ _).mono ?_; rintro e w' ⟨rfl, rfl⟩) | (go_at_call 43; refine (lowerR _ _).mono ?_; rintro e w' ⟨rfl, rfl⟩) | (go_at_call 44; refine (upperR _ _).mono ?_; rintro e w' ⟨rfl, rfl⟩) | (go_at_call 46; refine (signR _ _ k rfl _ hlt hl).mono ?_; rintro e w' ⟨rfl, rfl⟩))
          go_roundg (l.length - (i + 1))
          case measure => omega
          case rel => exact ⟨i + 1, rfl, rfl, by omega, by omega, by go_num, Lib.hid (by rw [hrel.out, spanN_step hit HD.out hdd]; omega)⟩
      · skip
        have HN := Lib.hid (show spanN digitB (l.drop k) = i - k from by rw [hrel.out, spanN_end (by omega)]; omega)
        by_cases h1 : 1 < i - k
        · have h1' : (1 : Int) < i - k := by omega
          cases h48 : ((c.toNat : Int) == 48)
          · have HG := Lib.hid (show 1 < i - k → ¬ ((l.drop k).getD 0 0).toNat = 48 from fun _ => by rw [getD_of_lt h0 HC0.out]; exact bneI (m := 48) h48)
            by_cases h15 : 15 < i - k
            · have h15' : (15 : Int) < i - k := by omega
              have HW := Lib.hid (show T = (5, 0, 3) from by rw [HT2.out, numberT_long HN.out HG.out h15])
              go_wp2_with (first | (go_at_call 40; refine (allowedR _ _).mono ?_; rintro e w' ⟨rfl, rfl⟩) | (go_at_call 41; refine (printedR _ _).mono ?_; rintro e w' ⟨rfl, rfl⟩) | (go_at_call 42; refine (digitR _ _).mono ?_; rintro e w' ⟨rfl, rfl⟩) | (go_at_call 43; refine (lowerR _ _).mono ?_; rintro e w' ⟨rfl, rfl⟩) | (go_at_call 44; refine (upperR _ _).mono ?_; rintro e w' ⟨rfl, rfl⟩) | (go_at_call 46; refine (signR _ _ k rfl _ hlt hl).mono ?_; rintro e w' ⟨rfl, rfl⟩))
              exact bodyPost_ret (v := .agg #[.int .i64 0, .int .i64 0, .int .i64 3, .int .i64 k]) (by simp [results, Try.results30, go_sem]) rfl (item_err HW.out (by omega) (by omega) (by omega) (by repeat (first | exact Ext.refl _ | apply Ext.alloc | (refine Ext.setCell ?_ (Nat.le_refl _) _))))
            · have h15' : ¬ ((15 : Int) < i - k) := by omega
              have HW := Lib.hid (show T = (5, i - k, 0) from by rw [HT2.out, numberT_ok HN.out HG.out h15])
              go_wp2_with (first | (go_at_call 40; refine (allowedR _ _).mono ?_; rintro e w' ⟨rfl, rfl⟩) | (go_at_call 41; refine (printedR _ _).mono ?_; rintro e w' ⟨rfl, rfl⟩) | (go_at_call 42; refine (digitR _ _).mono ?_; rintro e w' ⟨rfl, rfl⟩) | (go_at_call 43; refine (lowerR _ _).mono ?_; rintro e w' ⟨rfl, rfl⟩) | (go_at_call 44; refine (upperR _ _).mono ?_; rintro e w' ⟨rfl, rfl⟩) | (go_at_call 46; refine (signR _ _ k rfl _ hlt hl).mono ?_; rintro e w' ⟨rfl, rfl⟩))
              exact bodyPost_ret (v := .agg #[.int .i64 ((i : Int) - k), .int .i64 5, .int .i64 0, .int .i64 0]) (by simp [results, Try.results30, go_sem]) rfl (item_ok HW.out (by omega) (by omega) (by repeat (first | exact Ext.refl _ | apply Ext.alloc | (refine Ext.setCell ?_ (Nat.le_refl _) _))))
          · skip
            have HW := Lib.hid (show T = (5, 0, 2) from by rw [HT2.out, numberT_zero HN.out h1 h0 HC0.out h48])
            go_wp2_with (first | (go_at_call 40; refine (allowedR _ _).mono ?_; rintro e w' ⟨rfl, rfl⟩) | (go_at_call 41; refine (printedR _ _).mono ?_; rintro e w' ⟨rfl, rfl⟩) | (go_at_call 42; refine (digitR _ _).mono ?_; rintro e w' ⟨rfl, rfl⟩) | (go_at_call 43; refine (lowerR _ _).mono ?_; rintro e w' ⟨rfl, rfl⟩) | (go_at_call 44; refine (upperR _ _).mono ?_; rintro e w' ⟨rfl, rfl⟩) | (go_at_call 46; refine (signR _ _ k rfl _ hlt hl).mono ?_; rintro e w' ⟨rfl, rfl⟩))
            exact bodyPost_ret (v := .agg #[.int .i64 0, .int .i64 0, .int .i64 2, .int .i64 k]) (by simp [results, Try.results30, go_sem]) rfl (item_err HW.out (by omega) (by omega) (by omega) (by repeat (first | exact Ext.refl _ | apply Ext.alloc | (refine Ext.setCell ?_ (Nat.le_refl _) _))))
        · have h1' : ¬ ((1 : Int) < i - k) := by omega
          have h15' : ¬ ((15 : Int) < i - k) := by omega
          have HW := Lib.hid (show T = (5, i - k, 0) from by rw [HT2.out, numberT_ok HN.out (fun h => absurd h h1) (by omega)])
          go_wp2_with (first | (go_at_call 40; refine (allowedR _ _).mono ?_; rintro e w' ⟨rfl, rfl⟩) | (go_at_call 41; refine (printedR _ _).mono ?_; rintro e w' ⟨rfl, rfl⟩) | (go_at_call 42; refine (digitR _ _).mono ?_; rintro e w' ⟨rfl, rfl⟩) | (go_at_call 43; refine (lowerR _ _).mono ?_; rintro e w' ⟨rfl, rfl⟩) | (go_at_call 44; refine (upperR _ _).mono ?_; rintro e w' ⟨rfl, rfl⟩) | (go_at_call 46; refine (signR _ _ k rfl _ hlt hl).mono ?_; rintro e w' ⟨rfl, rfl⟩))
          exact bodyPost_ret (v := .agg #[.int .i64 ((i : Int) - k), .int .i64 5, .int .i64 0, .int .i64 0]) (by simp [results, Try.results30, go_sem]) rfl (item_ok HW.out (by omega) (by omega) (by repeat (first | exact Ext.refl _ | apply Ext.alloc | (refine Ext.setCell ?_ (Nat.le_refl _) _))))
  have HDg := Lib.hid (show ¬ digitB c = true from by simp [hdg])
  have HQt := Lib.hid (bneI (m := 34) h34)
  cases hle : letterB c
  rotate_left
  · have HT2 := Lib.hid (show wordT (l.drop k) = T from by rw [← HT.out, if_neg HA.out, if_pos hle])
    obtain ⟨a0, a1, a2, a3, hform⟩ := itemV_form k T
    have HF := Lib.hid hform
    have CW := Lib.hid (fun w => wordsR l k k rfl w hlt (by rw [HC.out]; exact hle) hl)
    clear hform
    have hbe : lowerB c = true ∨ (lowerB c = false ∧ upperB c = true) := by cases h : lowerB c <;> simp_all [letterB]
    rcases hbe with hlo | ⟨hlo, hup⟩
    all_goals
      go_wp2_with (first | (go_at_call 40; refine (allowedR _ _).mono ?_; rintro e w' ⟨rfl, rfl⟩) | (go_at_call 41; refine (printedR _ _).mono ?_; rintro e w' ⟨rfl, rfl⟩) | (go_at_call 42; refine (digitR _ _).mono ?_; rintro e w' ⟨rfl, rfl⟩) | (go_at_call 43; refine (lowerR _ _).mono ?_; rintro e w' ⟨rfl, rfl⟩) | (go_at_call 44; refine (upperR _ _).mono ?_; rintro e w' ⟨rfl, rfl⟩) | (go_at_call 46; refine (signR _ _ k rfl _ hlt hl).mono ?_; rintro e w' ⟨rfl, rfl⟩))
      refine (CW.out _).mono ?_
      rintro e w1 ⟨rfl, hext⟩
      rw [HT2.out, HF.out]
      have hsz := hext.size
      have hc0 := hext.cell (p := ⟨w.heap.size, 0, none⟩) (by simp)
      have hc1 := hext.cell (p := ⟨w.heap.size, 1, none⟩) (by simp)
      have hc2 := hext.cell (p := ⟨w.heap.size, 2, none⟩) (by simp)
      have hc3 := hext.cell (p := ⟨w.heap.size, 3, none⟩) (by simp)
      have hf0 := hext.frozen (p := ⟨w.heap.size, 0, none⟩) (by simp)
      have hf1 := hext.frozen (p := ⟨w.heap.size, 1, none⟩) (by simp)
      have hf2 := hext.frozen (p := ⟨w.heap.size, 2, none⟩) (by simp)
      have hf3 := hext.frozen (p := ⟨w.heap.size, 3, none⟩) (by simp)
      have HX := Lib.hid hext
      clear hext
      simp at hsz hc0 hc1 hc2 hc3 hf0 hf1 hf2 hf3
      go_wp2_with (first | (go_at_call 40; refine (allowedR _ _).mono ?_; rintro e w' ⟨rfl, rfl⟩) | (go_at_call 41; refine (printedR _ _).mono ?_; rintro e w' ⟨rfl, rfl⟩) | (go_at_call 42; refine (digitR _ _).mono ?_; rintro e w' ⟨rfl, rfl⟩) | (go_at_call 43; refine (lowerR _ _).mono ?_; rintro e w' ⟨rfl, rfl⟩) | (go_at_call 44; refine (upperR _ _).mono ?_; rintro e w' ⟨rfl, rfl⟩) | (go_at_call 46; refine (signR _ _ k rfl _ hlt hl).mono ?_; rintro e w' ⟨rfl, rfl⟩))
      exact bodyPost_ret (v := .agg #[.int .i64 a0, .int .i64 a1, .int .i64 a2, .int .i64 a3]) (by simp [results, Try.results30, go_sem, hc0, hc1, hc2, hc3]) rfl ⟨by rw [HF.out], (((((Ext.refl w).alloc _).trans HX.out).setCell (Nat.le_refl _) _).setCell (Nat.le_refl _) _).setCell (Nat.le_refl _) _ |>.setCell (Nat.le_refl _) _⟩
  have HLt := Lib.hid (show ¬ letterB c = true from by simp [hle])
  have hlo : lowerB c = false := by cases h : lowerB c <;> simp_all [letterB]
  have hup : upperB c = false := by cases h : upperB c <;> simp_all [letterB]
  have HSg := Lib.hid (sign_same (l.drop k))
  have HG0 := Lib.hid (getD_of_lt h0 HC0.out)
  have HT2 := Lib.hid (show T = if signLen (l.drop k) = 0 then (0, 0, 2) else (8, signLen (l.drop k), 0) from by
    rw [← HSg.out, HG0.out, ← HT.out, if_neg HA.out, if_neg HLt.out, if_neg HDg.out, if_neg HQt.out])
  obtain ⟨m, hm⟩ : ∃ m, signLen (l.drop k) = m := ⟨_, rfl⟩
  have HM := Lib.hid hm
  by_cases hm0 : m = 0
  · have HW := Lib.hid (show T = (0, 0, 2) from by rw [HT2.out, HM.out, if_pos hm0])
    subst hm0
    go_wp2_with (first | (go_at_call 40; refine (allowedR _ _).mono ?_; rintro e w' ⟨rfl, rfl⟩) | (go_at_call 41; refine (printedR _ _).mono ?_; rintro e w' ⟨rfl, rfl⟩) | (go_at_call 42; refine (digitR _ _).mono ?_; rintro e w' ⟨rfl, rfl⟩) | (go_at_call 43; refine (lowerR _ _).mono ?_; rintro e w' ⟨rfl, rfl⟩) | (go_at_call 44; refine (upperR _ _).mono ?_; rintro e w' ⟨rfl, rfl⟩) | (go_at_call 46; refine (signR _ _ k rfl _ hlt hl).mono ?_; rintro e w' ⟨rfl, rfl⟩))
    exact bodyPost_ret (v := .agg #[.int .i64 0, .int .i64 0, .int .i64 2, .int .i64 k]) (by simp [results, Try.results30, go_sem]) rfl (item_err HW.out (by omega) (by omega) (by omega) (by repeat (first | exact Ext.refl _ | apply Ext.alloc | (refine Ext.setCell ?_ (Nat.le_refl _) _))))
  · have HW := Lib.hid (show T = (8, m, 0) from by rw [HT2.out, HM.out, if_neg hm0])
    have hmb : ((m : Int) == 0) = false := by simp; omega
    go_wp2_with (first | (go_at_call 40; refine (allowedR _ _).mono ?_; rintro e w' ⟨rfl, rfl⟩) | (go_at_call 41; refine (printedR _ _).mono ?_; rintro e w' ⟨rfl, rfl⟩) | (go_at_call 42; refine (digitR _ _).mono ?_; rintro e w' ⟨rfl, rfl⟩) | (go_at_call 43; refine (lowerR _ _).mono ?_; rintro e w' ⟨rfl, rfl⟩) | (go_at_call 44; refine (upperR _ _).mono ?_; rintro e w' ⟨rfl, rfl⟩) | (go_at_call 46; refine (signR _ _ k rfl _ hlt hl).mono ?_; rintro e w' ⟨rfl, rfl⟩))
    exact bodyPost_ret (v := .agg #[.int .i64 m, .int .i64 8, .int .i64 0, .int .i64 0]) (by simp [results, Try.results30, go_sem]) rfl (item_ok HW.out (by omega) (by omega) (by repeat (first | exact Ext.refl _ | apply Ext.alloc | (refine Ext.setCell ?_ (Nat.le_refl _) _))))
end Go.Proofs.Ytoknigfjgoaoaaa
