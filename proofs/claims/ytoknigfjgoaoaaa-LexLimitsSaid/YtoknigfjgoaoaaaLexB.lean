/- Contracts of the program's lexer below Scan: span, number, quoted, word, token; strings.IndexByte. -/
import Derived.Test.YtoknigfjgoaoaaaLexA
import Derived.Lib.Bytealg
import Derived.Lib.Walk
namespace Go.Proofs.Ytoknigfjgoaoaaa
open Go.RowKit Lx
set_option linter.unusedSimpArgs false
set_option linter.unusedVariables false

set_option maxHeartbeats 1000000 in
theorem ibLite (s : ByteArray) (c : Int) (w : World) : Calls Try.prog 52 #[.string s, .int .u8 c] w fun e w' => e = .returned (.int .i64 (Lib.indexByte s.data.toList c.toNat.toUInt8)) ∧ w = w' := by
  go_enter Try.func52, Try.ntmps52
  go_wp2
  rw [run_callFunc_extern Try.func56 (by kernel_rfl) (by kernel_rfl) (by kernel_rfl) (e := Extern.BytealgIndexByte.indexByte) (by kernel_rfl), Lib.run_indexByteString]
  simp only [Result.andThen]
  rw [Oper.upon_value]
  go_wp2
  go_ret
  exact ⟨rfl, rfl⟩

theorem indexByteS (s : ByteArray) (c : Int) (w : World) : Calls Try.prog 39 #[.string s, .int .u8 c] w fun e w' => e = .returned (.int .i64 (Lib.indexByte s.data.toList c.toNat.toUInt8)) ∧ w = w' := by
  go_enter Try.func39, Try.ntmps39
  go_wp2_with (go_at_call 52; refine (ibLite _ _ _).mono ?_; rintro e w' ⟨rfl, rfl⟩)
  go_ret
  exact ⟨rfl, rfl⟩

set_option maxHeartbeats 400000 in
theorem spanL (l : List UInt8) (w : World) (hl : l.length ≤ 281474976710656) : Calls Try.prog 50 #[.string ⟨l.toArray⟩] w fun e w' => e = .returned (.int .i64 (spanN wordB l : Nat)) ∧ w = w' := by
  go_enter Try.func50, Try.ntmps50
  go_wp2_with fail
  go_loop [3] (fun n => ∃ k : Nat, k ≤ l.length ∧ n = .int .i64 k ∧ Hid (spanN wordB l = k + spanN wordB (l.drop k))) (fun n => l.length - (intOf n).toNat)
  case atStart => exact ⟨0, by omega, rfl, Lib.hid (by simp)⟩
  case round =>
    obtain ⟨k, hk, rfl, hrel⟩ := hrel
    by_cases hlt : k < l.length
    · obtain ⟨c, hc⟩ : ∃ c, ({ data := l.toArray } : ByteArray)[k]'hlt = c := ⟨_, rfl⟩
      have HC := Lib.hid (show l[k] = c from hc)
      go_wp2_with (first | (go_at_call 34; refine (letterL _ _).mono ?_; rintro e w' ⟨rfl, rfl⟩) | (go_at_call 36; refine (digitL _ _).mono ?_; rintro e w' ⟨rfl, rfl⟩))
      all_goals go_light
      · go_round
        case rel => exact ⟨k + 1, by omega, by go_num, Lib.hid (by rw [hrel.out, spanN_step hlt HC.out (wordB_true (.inl ‹_›))]; omega)⟩
        case measure => simp [intOf]; omega
      · go_round
        case rel => exact ⟨k + 1, by omega, by go_num, Lib.hid (by rw [hrel.out, spanN_step hlt HC.out (wordB_true (.inr (.inl ‹_›)))]; omega)⟩
        case measure => simp [intOf]; omega
      · go_round
        case rel => exact ⟨k + 1, by omega, by go_num, Lib.hid (by rw [hrel.out, spanN_step hlt HC.out (wordB_true (.inr (.inr ‹_›)))]; omega)⟩
        case measure => simp [intOf]; omega
      · go_ret
        exact ⟨ret_int (by rw [hrel.out, spanN_stop hlt HC.out (wordB_false ‹_› ‹_› ‹_›)]; omega), rfl⟩
    · go_wp2_with fail
      go_ret
      exact ⟨ret_int (by rw [hrel.out, spanN_end (by omega)]; omega), rfl⟩

set_option maxHeartbeats 1000000 in
theorem numberL (l : List UInt8) (w : World) (hl : l.length ≤ 281474976710656) : Calls Try.prog 37 #[.string ⟨l.toArray⟩] w fun e w' => e = .returned (.tuple #[.int .i64 ((numberT l).1 : Nat), .int .i64 ((numberT l).2 : Nat)]) ∧ w = w' := by
  go_enter Try.func37, Try.ntmps37
  go_wp2_with fail
  go_loop [4] (fun n => ∃ k : Nat, k ≤ l.length ∧ n = .int .i64 k ∧ Hid (spanN digitB l = k + spanN digitB (l.drop k))) (fun n => l.length - (intOf n).toNat)
  case atStart => exact ⟨0, by omega, rfl, Lib.hid (by simp)⟩
  case round =>
    obtain ⟨k, hk, rfl, hrel⟩ := hrel
    by_cases hlt : k < l.length
    · obtain ⟨c, hc⟩ : ∃ c, ({ data := l.toArray } : ByteArray)[k]'hlt = c := ⟨_, rfl⟩
      have HC := Lib.hid (show l[k] = c from hc)
      cases hd : digitB c
      · have HN := Lib.hid (show spanN digitB l = k from by rw [hrel.out, spanN_stop hlt HC.out hd]; omega)
        have hk0 := hk
        by_cases h1 : 1 < k
        · have h0 : 0 < l.length := by omega
          obtain ⟨c0, hc0⟩ : ∃ c, ({ data := l.toArray } : ByteArray)[0]'h0 = c := ⟨_, rfl⟩
          have HC0 := Lib.hid (show l[0] = c0 from hc0)
          cases h48 : ((c0.toNat : Int) == 48)
          · have HG := Lib.hid (show 1 < k → ¬ (l.getD 0 0).toNat = 48 from fun _ => by rw [getD_of_lt h0 HC0.out]; exact bneI (m := 48) h48)
            by_cases h15 : 15 < k
            · go_wp2_with (go_at_call 36; refine (digitL _ _).mono ?_; rintro e w' ⟨rfl, rfl⟩)
              go_ret2
              exact ⟨by rw [numberT_long HN.out HG.out h15]; rfl, rfl⟩
            · go_wp2_with (go_at_call 36; refine (digitL _ _).mono ?_; rintro e w' ⟨rfl, rfl⟩)
              go_ret2
              exact ⟨by rw [numberT_ok HN.out HG.out h15]; rfl, rfl⟩
          · go_wp2_with (go_at_call 36; refine (digitL _ _).mono ?_; rintro e w' ⟨rfl, rfl⟩)
            go_ret2
            exact ⟨by rw [numberT_zero HN.out h1 h0 HC0.out h48]; rfl, rfl⟩
        · go_wp2_with (go_at_call 36; refine (digitL _ _).mono ?_; rintro e w' ⟨rfl, rfl⟩)
          go_ret2
          exact ⟨by rw [numberT_ok HN.out (fun h => absurd h h1) (by omega)]; rfl, rfl⟩
      · go_wp2_with (go_at_call 36; refine (digitL _ _).mono ?_; rintro e w' ⟨rfl, rfl⟩)
        go_light
        go_round
        case rel => exact ⟨k + 1, by omega, by go_num, Lib.hid (by rw [hrel.out, spanN_step hlt HC.out hd]; omega)⟩
        case measure => simp [intOf]; omega
    · have HN := Lib.hid (show spanN digitB l = k from by rw [hrel.out, spanN_end (by omega)]; omega)
      have hk0 := hk
      by_cases h1 : 1 < k
      · have h0 : 0 < l.length := by omega
        obtain ⟨c0, hc0⟩ : ∃ c, ({ data := l.toArray } : ByteArray)[0]'h0 = c := ⟨_, rfl⟩
        have HC0 := Lib.hid (show l[0] = c0 from hc0)
        cases h48 : ((c0.toNat : Int) == 48)
        · have HG := Lib.hid (show 1 < k → ¬ (l.getD 0 0).toNat = 48 from fun _ => by rw [getD_of_lt h0 HC0.out]; exact bneI (m := 48) h48)
          by_cases h15 : 15 < k
          · go_wp2_with (go_at_call 36; refine (digitL _ _).mono ?_; rintro e w' ⟨rfl, rfl⟩)
            go_ret2
            exact ⟨by rw [numberT_long HN.out HG.out h15]; rfl, rfl⟩
          · go_wp2_with (go_at_call 36; refine (digitL _ _).mono ?_; rintro e w' ⟨rfl, rfl⟩)
            go_ret2
            exact ⟨by rw [numberT_ok HN.out HG.out h15]; rfl, rfl⟩
        · go_wp2_with (go_at_call 36; refine (digitL _ _).mono ?_; rintro e w' ⟨rfl, rfl⟩)
          go_ret2
          exact ⟨by rw [numberT_zero HN.out h1 h0 HC0.out h48]; rfl, rfl⟩
      · go_wp2_with (go_at_call 36; refine (digitL _ _).mono ?_; rintro e w' ⟨rfl, rfl⟩)
        go_ret2
        exact ⟨by rw [numberT_ok HN.out (fun h => absurd h h1) (by omega)]; rfl, rfl⟩

set_option maxHeartbeats 1000000 in
theorem quotedL (l : List UInt8) (w : World) (h0 : 0 < l.length) (hl : l.length ≤ 281474976710656) : Calls Try.prog 38 #[.string ⟨l.toArray⟩] w fun e w' => e = .returned (.tuple #[.int .i64 ((quotedT l.tail 1).1 : Nat), .int .i64 ((quotedT l.tail 1).2 : Nat)]) ∧ w = w' := by
  obtain ⟨r, hr⟩ : ∃ r, quotedT l.tail 1 = r := ⟨_, rfl⟩
  rw [hr]
  have HR := Lib.hid hr; clear hr
  go_enter Try.func38, Try.ntmps38
  go_wp2_with fail
  go_loop [4, 5] (fun n c => ∃ k : Nat, k ≤ l.length ∧ n = .int .i64 k ∧ Hid (r = quotedT (l.drop k) k)) (fun n _ => l.length - (intOf n).toNat)
  case atStart => exact ⟨1, by omega, rfl, Lib.hid (by rw [← HR.out, List.drop_one])⟩
  case round =>
    obtain ⟨k, hk, rfl, hrel⟩ := hrel
    by_cases hlt : k < l.length
    · obtain ⟨c, hc⟩ : ∃ c, ({ data := l.toArray } : ByteArray)[k]'hlt = c := ⟨_, rfl⟩
      have HC := Lib.hid (show l[k] = c from hc)
      have HS := Lib.hid (quotedT_step hlt HC.out)
      cases ha : allowedB c
      · go_wp2_with (go_at_call 26; refine (allowedL _ _).mono ?_; rintro e w' ⟨rfl, rfl⟩)
        go_ret2
        exact ⟨by rw [hrel.out, HS.out, if_pos ha]; rfl, rfl⟩
      cases h34 : ((c.toNat : Int) == 34)
      rotate_left
      · go_wp2_with (go_at_call 26; refine (allowedL _ _).mono ?_; rintro e w' ⟨rfl, rfl⟩)
        go_ret2
        exact ⟨by rw [hrel.out, HS.out, if_neg (by simp [ha]), if_pos (beqI (m := 34) h34)]; rfl, rfl⟩
      cases h92 : ((c.toNat : Int) == 92)
      rotate_left
      · go_wp2_with (go_at_call 26; refine (allowedL _ _).mono ?_; rintro e w' ⟨rfl, rfl⟩)
        go_ret2
        exact ⟨by rw [hrel.out, HS.out, if_neg (by simp [ha]), if_neg (bneI (m := 34) h34), if_pos (.inl (beqI (m := 92) h92))]; rfl, rfl⟩
      by_cases h32 : (c.toNat : Int) < 32
      · go_wp2_with (go_at_call 26; refine (allowedL _ _).mono ?_; rintro e w' ⟨rfl, rfl⟩)
        go_ret2
        exact ⟨by rw [hrel.out, HS.out, if_neg (by simp [ha]), if_neg (bneI (m := 34) h34), if_pos (.inr (by omega))]; rfl, rfl⟩
      · go_wp2_with (go_at_call 26; refine (allowedL _ _).mono ?_; rintro e w' ⟨rfl, rfl⟩)
        go_light
        go_round
        case rel => exact ⟨k + 1, by omega, by go_num, Lib.hid (by rw [hrel.out, HS.out, if_neg (by simp [ha]), if_neg (bneI (m := 34) h34), if_neg (by have := bneI (m := 92) h92; omega)])⟩
        case measure => simp [intOf]; omega
    · go_wp2_with (go_at_call 26; refine (allowedL _ _).mono ?_; rintro e w' ⟨rfl, rfl⟩)
      go_ret2
      exact ⟨by rw [hrel.out, quotedT_end (by omega)]; rfl, rfl⟩

set_option maxHeartbeats 4000000 in
theorem wordL (l : List UInt8) (w : World) (h0 : 0 < l.length) (hl : l.length ≤ 281474976710656) : Calls Try.prog 35 #[.string ⟨l.toArray⟩] w fun e w' => e = .returned (.tuple #[.int .i64 ((wordT l).1 : Nat), .int .i64 ((wordT l).2.1 : Nat), .int .i64 ((wordT l).2.2 : Nat)]) ∧ w = w' := by
  obtain ⟨n, hn⟩ : ∃ n, spanN wordB l = n := ⟨_, rfl⟩
  have hnl : n ≤ l.length := by have := spanN_le wordB l; omega
  have HN := Lib.hid hn; clear hn
  obtain ⟨c0, hc0⟩ : ∃ c, ({ data := l.toArray } : ByteArray)[0]'h0 = c := ⟨_, rfl⟩
  have HC0 := Lib.hid (show l[0] = c0 from hc0)
  have hx := ext_list; have hx2 := take_drop_all
  go_enter Try.func35, Try.ntmps35
  go_wp2_with fail
  refine (spanL _ _ hl).mono ?_
  rintro e w' ⟨rfl, rfl⟩
  rw [HN.out]
  cases hr : resvB (l.take n)
  rotate_left
  · cases hu : upperB c0
    all_goals
      have HQ := Lib.hid (wordT_no HN.out (cond_r HN.out hr))
      by_cases h24 : 24 < n
      · skip
        have HW := Lib.hid (show wordT l = (0, 0, 3) from by rw [HQ.out, wordNoT, if_pos h24])
        go_wp2_with (first | (go_at_call 50; refine (spanL _ _ (by simp; omega)).mono ?_; rintro e w' ⟨rfl, rfl⟩) | (go_at_call 51; refine (reservedL _ _).mono ?_; rintro e w' ⟨rfl, rfl⟩) | (go_at_call 49; refine (upperL _ _).mono ?_; rintro e w' ⟨rfl, rfl⟩) | (go_at_call 48; refine (lowerL _ _).mono ?_; rintro e w' ⟨rfl, rfl⟩) | (go_at_call 34; refine (letterL _ _).mono ?_; rintro e w' ⟨rfl, rfl⟩))
        go_ret3
        exact ⟨by rw [HW.out]; rfl, rfl⟩
      · skip
        have HW := Lib.hid (show wordT l = (7, n, 0) from by rw [HQ.out, wordNoT, if_neg h24, if_pos hr])
        go_wp2_with (first | (go_at_call 50; refine (spanL _ _ (by simp; omega)).mono ?_; rintro e w' ⟨rfl, rfl⟩) | (go_at_call 51; refine (reservedL _ _).mono ?_; rintro e w' ⟨rfl, rfl⟩) | (go_at_call 49; refine (upperL _ _).mono ?_; rintro e w' ⟨rfl, rfl⟩) | (go_at_call 48; refine (lowerL _ _).mono ?_; rintro e w' ⟨rfl, rfl⟩) | (go_at_call 34; refine (letterL _ _).mono ?_; rintro e w' ⟨rfl, rfl⟩))
        go_ret3
        exact ⟨by rw [HW.out]; rfl, rfl⟩
  cases hu : upperB c0
  · skip
    have HQ := Lib.hid (wordT_no HN.out (cond_u h0 HC0.out hu))
    by_cases h24 : 24 < n
    · skip
      have HW := Lib.hid (show wordT l = (0, 0, 3) from by rw [HQ.out, wordNoT, if_pos h24])
      go_wp2_with (first | (go_at_call 50; refine (spanL _ _ (by simp; omega)).mono ?_; rintro e w' ⟨rfl, rfl⟩) | (go_at_call 51; refine (reservedL _ _).mono ?_; rintro e w' ⟨rfl, rfl⟩) | (go_at_call 49; refine (upperL _ _).mono ?_; rintro e w' ⟨rfl, rfl⟩) | (go_at_call 48; refine (lowerL _ _).mono ?_; rintro e w' ⟨rfl, rfl⟩) | (go_at_call 34; refine (letterL _ _).mono ?_; rintro e w' ⟨rfl, rfl⟩))
      go_ret3
      exact ⟨by rw [HW.out]; rfl, rfl⟩
    · cases hlo : lowerB c0
      · skip
        have HW := Lib.hid (show wordT l = (2, n, 0) from by rw [HQ.out, wordNoT, if_neg h24, if_neg (by simp [hr]), if_neg (by rw [getD_of_lt h0 HC0.out]; simp [hlo])])
        go_wp2_with (first | (go_at_call 50; refine (spanL _ _ (by simp; omega)).mono ?_; rintro e w' ⟨rfl, rfl⟩) | (go_at_call 51; refine (reservedL _ _).mono ?_; rintro e w' ⟨rfl, rfl⟩) | (go_at_call 49; refine (upperL _ _).mono ?_; rintro e w' ⟨rfl, rfl⟩) | (go_at_call 48; refine (lowerL _ _).mono ?_; rintro e w' ⟨rfl, rfl⟩) | (go_at_call 34; refine (letterL _ _).mono ?_; rintro e w' ⟨rfl, rfl⟩))
        go_ret3
        exact ⟨by rw [HW.out]; rfl, rfl⟩
      · skip
        have HW := Lib.hid (show wordT l = (1, n, 0) from by rw [HQ.out, wordNoT, if_neg h24, if_neg (by simp [hr]), if_pos (by rw [getD_of_lt h0 HC0.out]; exact hlo)])
        go_wp2_with (first | (go_at_call 50; refine (spanL _ _ (by simp; omega)).mono ?_; rintro e w' ⟨rfl, rfl⟩) | (go_at_call 51; refine (reservedL _ _).mono ?_; rintro e w' ⟨rfl, rfl⟩) | (go_at_call 49; refine (upperL _ _).mono ?_; rintro e w' ⟨rfl, rfl⟩) | (go_at_call 48; refine (lowerL _ _).mono ?_; rintro e w' ⟨rfl, rfl⟩) | (go_at_call 34; refine (letterL _ _).mono ?_; rintro e w' ⟨rfl, rfl⟩))
        go_ret3
        exact ⟨by rw [HW.out]; rfl, rfl⟩
  by_cases h2 : n + 1 < l.length
  rotate_left
  · have h2' : ¬ ((n : Int) + 1 < l.length) := by omega
    have HQ := Lib.hid (wordT_no HN.out (cond_l HN.out h2))
    by_cases h24 : 24 < n
    · skip
      have HW := Lib.hid (show wordT l = (0, 0, 3) from by rw [HQ.out, wordNoT, if_pos h24])
      go_wp2_with (first | (go_at_call 50; refine (spanL _ _ (by simp; omega)).mono ?_; rintro e w' ⟨rfl, rfl⟩) | (go_at_call 51; refine (reservedL _ _).mono ?_; rintro e w' ⟨rfl, rfl⟩) | (go_at_call 49; refine (upperL _ _).mono ?_; rintro e w' ⟨rfl, rfl⟩) | (go_at_call 48; refine (lowerL _ _).mono ?_; rintro e w' ⟨rfl, rfl⟩) | (go_at_call 34; refine (letterL _ _).mono ?_; rintro e w' ⟨rfl, rfl⟩))
      go_ret3
      exact ⟨by rw [HW.out]; rfl, rfl⟩
    · cases hlo : lowerB c0
      · skip
        have HW := Lib.hid (show wordT l = (2, n, 0) from by rw [HQ.out, wordNoT, if_neg h24, if_neg (by simp [hr]), if_neg (by rw [getD_of_lt h0 HC0.out]; simp [hlo])])
        go_wp2_with (first | (go_at_call 50; refine (spanL _ _ (by simp; omega)).mono ?_; rintro e w' ⟨rfl, rfl⟩) | (go_at_call 51; refine (reservedL _ _).mono ?_; rintro e w' ⟨rfl, rfl⟩) | (go_at_call 49; refine (upperL _ _).mono ?_; rintro e w' ⟨rfl, rfl⟩) | (go_at_call 48; refine (lowerL _ _).mono ?_; rintro e w' ⟨rfl, rfl⟩) | (go_at_call 34; refine (letterL _ _).mono ?_; rintro e w' ⟨rfl, rfl⟩))
        go_ret3
        exact ⟨by rw [HW.out]; rfl, rfl⟩
      · skip
        have HW := Lib.hid (show wordT l = (1, n, 0) from by rw [HQ.out, wordNoT, if_neg h24, if_neg (by simp [hr]), if_pos (by rw [getD_of_lt h0 HC0.out]; exact hlo)])
        go_wp2_with (first | (go_at_call 50; refine (spanL _ _ (by simp; omega)).mono ?_; rintro e w' ⟨rfl, rfl⟩) | (go_at_call 51; refine (reservedL _ _).mono ?_; rintro e w' ⟨rfl, rfl⟩) | (go_at_call 49; refine (upperL _ _).mono ?_; rintro e w' ⟨rfl, rfl⟩) | (go_at_call 48; refine (lowerL _ _).mono ?_; rintro e w' ⟨rfl, rfl⟩) | (go_at_call 34; refine (letterL _ _).mono ?_; rintro e w' ⟨rfl, rfl⟩))
        go_ret3
        exact ⟨by rw [HW.out]; rfl, rfl⟩
  have hn1 : n < l.length := by omega
  obtain ⟨c1, hc1⟩ : ∃ c, ({ data := l.toArray } : ByteArray)[n]'hn1 = c := ⟨_, rfl⟩
  have HC1 := Lib.hid (show l[n] = c1 from hc1)
  obtain ⟨c2, hc2⟩ : ∃ c, ({ data := l.toArray } : ByteArray)[n + 1]'h2 = c := ⟨_, rfl⟩
  have HC2 := Lib.hid (show l[n + 1] = c2 from hc2)
  cases h46 : ((c1.toNat : Int) == 46)
  · skip
    have HQ := Lib.hid (wordT_no HN.out (cond_d HN.out hn1 HC1.out h46))
    by_cases h24 : 24 < n
    · skip
      have HW := Lib.hid (show wordT l = (0, 0, 3) from by rw [HQ.out, wordNoT, if_pos h24])
      go_wp2_with (first | (go_at_call 50; refine (spanL _ _ (by simp; omega)).mono ?_; rintro e w' ⟨rfl, rfl⟩) | (go_at_call 51; refine (reservedL _ _).mono ?_; rintro e w' ⟨rfl, rfl⟩) | (go_at_call 49; refine (upperL _ _).mono ?_; rintro e w' ⟨rfl, rfl⟩) | (go_at_call 48; refine (lowerL _ _).mono ?_; rintro e w' ⟨rfl, rfl⟩) | (go_at_call 34; refine (letterL _ _).mono ?_; rintro e w' ⟨rfl, rfl⟩))
      go_ret3
      exact ⟨by rw [HW.out]; rfl, rfl⟩
    · cases hlo : lowerB c0
      · skip
        have HW := Lib.hid (show wordT l = (2, n, 0) from by rw [HQ.out, wordNoT, if_neg h24, if_neg (by simp [hr]), if_neg (by rw [getD_of_lt h0 HC0.out]; simp [hlo])])
        go_wp2_with (first | (go_at_call 50; refine (spanL _ _ (by simp; omega)).mono ?_; rintro e w' ⟨rfl, rfl⟩) | (go_at_call 51; refine (reservedL _ _).mono ?_; rintro e w' ⟨rfl, rfl⟩) | (go_at_call 49; refine (upperL _ _).mono ?_; rintro e w' ⟨rfl, rfl⟩) | (go_at_call 48; refine (lowerL _ _).mono ?_; rintro e w' ⟨rfl, rfl⟩) | (go_at_call 34; refine (letterL _ _).mono ?_; rintro e w' ⟨rfl, rfl⟩))
        go_ret3
        exact ⟨by rw [HW.out]; rfl, rfl⟩
      · skip
        have HW := Lib.hid (show wordT l = (1, n, 0) from by rw [HQ.out, wordNoT, if_neg h24, if_neg (by simp [hr]), if_pos (by rw [getD_of_lt h0 HC0.out]; exact hlo)])
        go_wp2_with (first | (go_at_call 50; refine (spanL _ _ (by simp; omega)).mono ?_; rintro e w' ⟨rfl, rfl⟩) | (go_at_call 51; refine (reservedL _ _).mono ?_; rintro e w' ⟨rfl, rfl⟩) | (go_at_call 49; refine (upperL _ _).mono ?_; rintro e w' ⟨rfl, rfl⟩) | (go_at_call 48; refine (lowerL _ _).mono ?_; rintro e w' ⟨rfl, rfl⟩) | (go_at_call 34; refine (letterL _ _).mono ?_; rintro e w' ⟨rfl, rfl⟩))
        go_ret3
        exact ⟨by rw [HW.out]; rfl, rfl⟩
  cases h3 : letterB c2
  · skip
    have HQ := Lib.hid (wordT_no HN.out (cond_t HN.out h2 HC2.out h3))
    by_cases h24 : 24 < n
    · skip
      have HW := Lib.hid (show wordT l = (0, 0, 3) from by rw [HQ.out, wordNoT, if_pos h24])
      go_wp2_with (first | (go_at_call 50; refine (spanL _ _ (by simp; omega)).mono ?_; rintro e w' ⟨rfl, rfl⟩) | (go_at_call 51; refine (reservedL _ _).mono ?_; rintro e w' ⟨rfl, rfl⟩) | (go_at_call 49; refine (upperL _ _).mono ?_; rintro e w' ⟨rfl, rfl⟩) | (go_at_call 48; refine (lowerL _ _).mono ?_; rintro e w' ⟨rfl, rfl⟩) | (go_at_call 34; refine (letterL _ _).mono ?_; rintro e w' ⟨rfl, rfl⟩))
      go_ret3
      exact ⟨by rw [HW.out]; rfl, rfl⟩
    · cases hlo : lowerB c0
      · skip
        have HW := Lib.hid (show wordT l = (2, n, 0) from by rw [HQ.out, wordNoT, if_neg h24, if_neg (by simp [hr]), if_neg (by rw [getD_of_lt h0 HC0.out]; simp [hlo])])
        go_wp2_with (first | (go_at_call 50; refine (spanL _ _ (by simp; omega)).mono ?_; rintro e w' ⟨rfl, rfl⟩) | (go_at_call 51; refine (reservedL _ _).mono ?_; rintro e w' ⟨rfl, rfl⟩) | (go_at_call 49; refine (upperL _ _).mono ?_; rintro e w' ⟨rfl, rfl⟩) | (go_at_call 48; refine (lowerL _ _).mono ?_; rintro e w' ⟨rfl, rfl⟩) | (go_at_call 34; refine (letterL _ _).mono ?_; rintro e w' ⟨rfl, rfl⟩))
        go_ret3
        exact ⟨by rw [HW.out]; rfl, rfl⟩
      · skip
        have HW := Lib.hid (show wordT l = (1, n, 0) from by rw [HQ.out, wordNoT, if_neg h24, if_neg (by simp [hr]), if_pos (by rw [getD_of_lt h0 HC0.out]; exact hlo)])
        go_wp2_with (first | (go_at_call 50; refine (spanL _ _ (by simp; omega)).mono ?_; rintro e w' ⟨rfl, rfl⟩) | (go_at_call 51; refine (reservedL _ _).mono ?_; rintro e w' ⟨rfl, rfl⟩) | (go_at_call 49; refine (upperL _ _).mono ?_; rintro e w' ⟨rfl, rfl⟩) | (go_at_call 48; refine (lowerL _ _).mono ?_; rintro e w' ⟨rfl, rfl⟩) | (go_at_call 34; refine (letterL _ _).mono ?_; rintro e w' ⟨rfl, rfl⟩))
        go_ret3
        exact ⟨by rw [HW.out]; rfl, rfl⟩
  obtain ⟨m, hm⟩ : ∃ m, spanN wordB (l.drop (n + 1)) = m := ⟨_, rfl⟩
  have hml : n + 1 + m ≤ l.length := by have := spanN_le wordB (l.drop (n + 1)); simp at this; omega
  have HM := Lib.hid hm
  have HQ := Lib.hid (wordT_yes HN.out hm (cond_yes HN.out h0 HC0.out hu hr h2 hn1 HC1.out h46 HC2.out h3))
  by_cases h24 : 24 < n
  · skip
    have HW := Lib.hid (show wordT l = (0, 0, 3) from by rw [HQ.out, wordYesT, if_pos (.inl h24)])
    go_wp2_with (first | (go_at_call 50; refine (spanL _ _ (by simp; omega)).mono ?_; rintro e w' ⟨rfl, rfl⟩) | (go_at_call 51; refine (reservedL _ _).mono ?_; rintro e w' ⟨rfl, rfl⟩) | (go_at_call 49; refine (upperL _ _).mono ?_; rintro e w' ⟨rfl, rfl⟩) | (go_at_call 48; refine (lowerL _ _).mono ?_; rintro e w' ⟨rfl, rfl⟩) | (go_at_call 34; refine (letterL _ _).mono ?_; rintro e w' ⟨rfl, rfl⟩))
    go_ret3
    exact ⟨by rw [HW.out]; rfl, rfl⟩
  by_cases h24m : 24 < m
  · skip
    have HW := Lib.hid (show wordT l = (0, 0, 3) from by rw [HQ.out, wordYesT, if_pos (.inr h24m)])
    go_wp2_with (first | (go_at_call 50; refine (spanL _ _ (by simp; omega)).mono ?_; rintro e w' ⟨rfl, rfl⟩) | (go_at_call 51; refine (reservedL _ _).mono ?_; rintro e w' ⟨rfl, rfl⟩) | (go_at_call 49; refine (upperL _ _).mono ?_; rintro e w' ⟨rfl, rfl⟩) | (go_at_call 48; refine (lowerL _ _).mono ?_; rintro e w' ⟨rfl, rfl⟩) | (go_at_call 34; refine (letterL _ _).mono ?_; rintro e w' ⟨rfl, rfl⟩))
    go_ret3
    exact ⟨by rw [HW.out]; rfl, rfl⟩
  have he : n + 1 + m - (n + 1) = m := by omega
  cases hr2 : resvB ((l.drop (n + 1)).take m)
  rotate_left
  · skip
    have HW := Lib.hid (show wordT l = (0, 0, 2) from by rw [HQ.out, wordYesT, if_neg (by omega), if_pos hr2])
    go_wp2_with (first | (go_at_call 50; refine (spanL _ _ (by simp; omega)).mono ?_; rintro e w' ⟨rfl, rfl⟩) | (go_at_call 51; refine (reservedL _ _).mono ?_; rintro e w' ⟨rfl, rfl⟩) | (go_at_call 49; refine (upperL _ _).mono ?_; rintro e w' ⟨rfl, rfl⟩) | (go_at_call 48; refine (lowerL _ _).mono ?_; rintro e w' ⟨rfl, rfl⟩) | (go_at_call 34; refine (letterL _ _).mono ?_; rintro e w' ⟨rfl, rfl⟩))
    go_ret3
    exact ⟨by rw [HW.out]; rfl, rfl⟩
  cases hlo : lowerB c2
  · skip
    have HW := Lib.hid (show wordT l = (4, n + 1 + m, 0) from by rw [HQ.out, wordYesT, if_neg (by omega), if_neg (by simp [hr2]), if_neg (by rw [getD_of_lt h2 HC2.out]; simp [hlo])])
    go_wp2_with (first | (go_at_call 50; refine (spanL _ _ (by simp; omega)).mono ?_; rintro e w' ⟨rfl, rfl⟩) | (go_at_call 51; refine (reservedL _ _).mono ?_; rintro e w' ⟨rfl, rfl⟩) | (go_at_call 49; refine (upperL _ _).mono ?_; rintro e w' ⟨rfl, rfl⟩) | (go_at_call 48; refine (lowerL _ _).mono ?_; rintro e w' ⟨rfl, rfl⟩) | (go_at_call 34; refine (letterL _ _).mono ?_; rintro e w' ⟨rfl, rfl⟩))
    go_ret3
    exact ⟨by rw [HW.out]; rfl, rfl⟩
  · skip
    have HW := Lib.hid (show wordT l = (3, n + 1 + m, 0) from by rw [HQ.out, wordYesT, if_neg (by omega), if_neg (by simp [hr2]), if_pos (by rw [getD_of_lt h2 HC2.out]; exact hlo)])
    go_wp2_with (first | (go_at_call 50; refine (spanL _ _ (by simp; omega)).mono ?_; rintro e w' ⟨rfl, rfl⟩) | (go_at_call 51; refine (reservedL _ _).mono ?_; rintro e w' ⟨rfl, rfl⟩) | (go_at_call 49; refine (upperL _ _).mono ?_; rintro e w' ⟨rfl, rfl⟩) | (go_at_call 48; refine (lowerL _ _).mono ?_; rintro e w' ⟨rfl, rfl⟩) | (go_at_call 34; refine (letterL _ _).mono ?_; rintro e w' ⟨rfl, rfl⟩))
    go_ret3
    exact ⟨by rw [HW.out]; rfl, rfl⟩
end Go.Proofs.Ytoknigfjgoaoaaa
