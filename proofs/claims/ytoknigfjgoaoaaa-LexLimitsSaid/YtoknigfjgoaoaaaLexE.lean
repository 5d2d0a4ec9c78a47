/- Contracts of the reference's lexer below scan: word, sign, words, next, lead. -/
import Derived.Test.YtoknigfjgoaoaaaLexB
import Derived.Test.YtoknigfjgoaoaaaLexP2
import Derived.Test.YtoknigfjgoaoaaaMem
import Derived.Deep.LoopGhost
namespace Go.Proofs.Ytoknigfjgoaoaaa
open Go.RowKit Lx
set_option linter.unusedSimpArgs false
set_option linter.unusedVariables false

set_option maxHeartbeats 1000000 in
theorem wordR (l : List UInt8) (x : Int) (k : Nat) (hx : x = k) (w : World) (hk : k ≤ l.length) (hl : l.length ≤ 281474976710656) : Calls Try.prog 53 #[.string ⟨l.toArray⟩, .int .i64 x] w fun e w' => e = .returned (.int .i64 (wordLen (l.drop k) : Nat)) ∧ w = w' := by
  subst hx
  by_cases hlt : k < l.length
  rotate_left
  · have HR := Lib.hid (show wordLen (l.drop k) = 0 from by rw [List.drop_of_length_le (by omega)]; rfl)
    have hge : (l.length : Int) ≤ k := by omega
    go_enter Try.func53, Try.ntmps53
    go_wp2_with (first | (go_at_call 43; refine (lowerR _ _).mono ?_; rintro e w' ⟨rfl, rfl⟩) | (go_at_call 44; refine (upperR _ _).mono ?_; rintro e w' ⟨rfl, rfl⟩) | (go_at_call 57; refine (inWordR _ _).mono ?_; rintro e w' ⟨rfl, rfl⟩))
    go_ret
    exact ⟨ret_int (by rw [HR.out]; rfl), rfl⟩
  obtain ⟨c, hc⟩ : ∃ c, ({ data := l.toArray } : ByteArray)[k]'hlt = c := ⟨_, rfl⟩
  have HC := Lib.hid (show l[k] = c from hc)
  have hge : decide (l.length ≤ k) = false := by simp; omega
  have HG := Lib.hid (show (l.drop k).getD 0 0 = c from by rw [getD_drop]; exact getD_of_lt hlt HC.out)
  cases hlo : lowerB c <;> cases hup : upperB c
  · have HR := Lib.hid (show wordLen (l.drop k) = 0 from by rw [wordLen, HG.out]; simp [letterB, hlo, hup])
    go_enter Try.func53, Try.ntmps53
    go_wp2_with (first | (go_at_call 43; refine (lowerR _ _).mono ?_; rintro e w' ⟨rfl, rfl⟩) | (go_at_call 44; refine (upperR _ _).mono ?_; rintro e w' ⟨rfl, rfl⟩) | (go_at_call 57; refine (inWordR _ _).mono ?_; rintro e w' ⟨rfl, rfl⟩))
    go_ret
    exact ⟨ret_int (by rw [HR.out]; rfl), rfl⟩
  all_goals
    have HR := Lib.hid (show wordLen (l.drop k) = spanN wordB (l.drop k) from by rw [wordLen, HG.out]; simp [letterB, hlo, hup])
    rw [HR.out]
    clear HR
    go_enter Try.func53, Try.ntmps53
    go_wp2_with (first | (go_at_call 43; refine (lowerR _ _).mono ?_; rintro e w' ⟨rfl, rfl⟩) | (go_at_call 44; refine (upperR _ _).mono ?_; rintro e w' ⟨rfl, rfl⟩) | (go_at_call 57; refine (inWordR _ _).mono ?_; rintro e w' ⟨rfl, rfl⟩))
    go_loopg [5] (l.length - k) (fun g n wx => ∃ i : Nat, g = l.length - i ∧ wx = w ∧ k ≤ i ∧ i ≤ l.length ∧ n = .int .i64 i ∧ Hid (spanN wordB (l.drop k) = i - k + spanN wordB (l.drop i)))
    case atStart => exact ⟨k, rfl, rfl, Nat.le_refl _, hk, rfl, Lib.hid (by omega)⟩
    case round =>
      obtain ⟨i, rfl, rfl, hki, hil, rfl, hrel⟩ := hrel
      by_cases hit : i < l.length
      · skip
        obtain ⟨d, hd⟩ : ∃ c, ({ data := l.toArray } : ByteArray)[i]'hit = c := ⟨_, rfl⟩
        have HD := Lib.hid (show l[i] = d from hd)
        cases hwd : wordB d
        · go_wp2_with (first | (go_at_call 43; refine (lowerR _ _).mono ?_; rintro e w' ⟨rfl, rfl⟩) | (go_at_call 44; refine (upperR _ _).mono ?_; rintro e w' ⟨rfl, rfl⟩) | (go_at_call 57; refine (inWordR _ _).mono ?_; rintro e w' ⟨rfl, rfl⟩))
          go_ret
          exact ⟨ret_int (by rw [hrel.out, spanN_stop hit HD.out hwd]; omega), rfl⟩
        · go_wp2_with (first | (go_at_call 43; refine (lowerR _ _).mono ?_; rintro e w' ⟨rfl, rfl⟩) | (go_at_call 44; refine (upperR _ _).mono ?_; rintro e w' ⟨rfl, rfl⟩) | (go_at_call 57; refine (inWordR _ _).mono ?_; rintro e w' ⟨rfl, rfl⟩))
          go_roundg (l.length - (i + 1))
          case measure => omega
          case rel => exact ⟨i + 1, rfl, rfl, by omega, by omega, by go_num, Lib.hid (by rw [hrel.out, spanN_step hit HD.out hwd]; omega)⟩
      · go_wp2_with (first | (go_at_call 43; refine (lowerR _ _).mono ?_; rintro e w' ⟨rfl, rfl⟩) | (go_at_call 44; refine (upperR _ _).mono ?_; rintro e w' ⟨rfl, rfl⟩) | (go_at_call 57; refine (inWordR _ _).mono ?_; rintro e w' ⟨rfl, rfl⟩))
        go_ret
        exact ⟨ret_int (by rw [hrel.out, spanN_end (by omega)]; omega), rfl⟩

set_option maxHeartbeats 2000000 in
theorem signR (l : List UInt8) (x : Int) (k : Nat) (hx : x = k) (w : World) (hlt : k < l.length) (hl : l.length ≤ 281474976710656) : Calls Try.prog 46 #[.string ⟨l.toArray⟩, .int .i64 x] w fun e w' => e = .returned (.int .i64 (signLen (l.drop k) : Nat)) ∧ w = w' := by
  subst hx
  obtain ⟨c, hc⟩ : ∃ c, ({ data := l.toArray } : ByteArray)[k]'hlt = c := ⟨_, rfl⟩
  have HC := Lib.hid (show l[k] = c from hc)
  have HS := Lib.hid (signLen_eq hlt HC.out)
  cases h61 : ((c.toNat : Int) == 61)
  rotate_left
  · by_cases h1 : k + 1 < l.length
    · have h1' : (k : Int) + 1 < l.length := by omega
      obtain ⟨d, hd⟩ : ∃ c, ({ data := l.toArray } : ByteArray)[k + 1]'h1 = c := ⟨_, rfl⟩
      have HD := Lib.hid (show l[k + 1] = d from hd)
      cases h62 : ((d.toNat : Int) == 61)
      · go_enter Try.func46, Try.ntmps46
        go_wp2
        go_ret
        exact ⟨ret_int (by rw [HS.out, if_pos (beqI (m := 61) h61), if_neg (fun h => bneI (m := 61) h62 (by rw [← getD_of_lt h1 HD.out]; exact h.2))]; rfl), rfl⟩
      · go_enter Try.func46, Try.ntmps46
        go_wp2
        go_ret
        exact ⟨ret_int (by rw [HS.out, if_pos (beqI (m := 61) h61), if_pos ⟨h1, by rw [getD_of_lt h1 HD.out]; exact beqI (m := 61) h62⟩]; rfl), rfl⟩
    · have h1' : ¬ ((k : Int) + 1 < l.length) := by omega
      go_enter Try.func46, Try.ntmps46
      go_wp2
      go_ret
      exact ⟨ret_int (by rw [HS.out, if_pos (beqI (m := 61) h61), if_neg (fun h => h1 h.1)]; rfl), rfl⟩
  cases h40 : ((c.toNat : Int) == 40)
  rotate_left
  · go_enter Try.func46, Try.ntmps46
    go_wp2
    go_ret
    exact ⟨ret_int (by rw [HS.out, if_neg (bneI (m := 61) h61), if_pos (by simp [beqI (m := 40) h40])]; rfl), rfl⟩
  cases h41 : ((c.toNat : Int) == 41)
  rotate_left
  · go_enter Try.func46, Try.ntmps46
    go_wp2
    go_ret
    exact ⟨ret_int (by rw [HS.out, if_neg (bneI (m := 61) h61), if_pos (by simp [beqI (m := 41) h41])]; rfl), rfl⟩
  cases h91 : ((c.toNat : Int) == 91)
  rotate_left
  · go_enter Try.func46, Try.ntmps46
    go_wp2
    go_ret
    exact ⟨ret_int (by rw [HS.out, if_neg (bneI (m := 61) h61), if_pos (by simp [beqI (m := 91) h91])]; rfl), rfl⟩
  cases h93 : ((c.toNat : Int) == 93)
  rotate_left
  · go_enter Try.func46, Try.ntmps46
    go_wp2
    go_ret
    exact ⟨ret_int (by rw [HS.out, if_neg (bneI (m := 61) h61), if_pos (by simp [beqI (m := 93) h93])]; rfl), rfl⟩
  cases h58 : ((c.toNat : Int) == 58)
  rotate_left
  · go_enter Try.func46, Try.ntmps46
    go_wp2
    go_ret
    exact ⟨ret_int (by rw [HS.out, if_neg (bneI (m := 61) h61), if_pos (by simp [beqI (m := 58) h58])]; rfl), rfl⟩
  cases h44 : ((c.toNat : Int) == 44)
  rotate_left
  · go_enter Try.func46, Try.ntmps46
    go_wp2
    go_ret
    exact ⟨ret_int (by rw [HS.out, if_neg (bneI (m := 61) h61), if_pos (by simp [beqI (m := 44) h44])]; rfl), rfl⟩
  cases h43 : ((c.toNat : Int) == 43)
  rotate_left
  · go_enter Try.func46, Try.ntmps46
    go_wp2
    go_ret
    exact ⟨ret_int (by rw [HS.out, if_neg (bneI (m := 61) h61), if_pos (by simp [beqI (m := 43) h43])]; rfl), rfl⟩
  cases h45 : ((c.toNat : Int) == 45)
  rotate_left
  · go_enter Try.func46, Try.ntmps46
    go_wp2
    go_ret
    exact ⟨ret_int (by rw [HS.out, if_neg (bneI (m := 61) h61), if_pos (by simp [beqI (m := 45) h45])]; rfl), rfl⟩
  cases h42 : ((c.toNat : Int) == 42)
  rotate_left
  · go_enter Try.func46, Try.ntmps46
    go_wp2
    go_ret
    exact ⟨ret_int (by rw [HS.out, if_neg (bneI (m := 61) h61), if_pos (by simp [beqI (m := 42) h42])]; rfl), rfl⟩
  cases h60 : ((c.toNat : Int) == 60)
  rotate_left
  · go_enter Try.func46, Try.ntmps46
    go_wp2
    go_ret
    exact ⟨ret_int (by rw [HS.out, if_neg (bneI (m := 61) h61), if_pos (by simp [beqI (m := 60) h60])]; rfl), rfl⟩
  cases h63 : ((c.toNat : Int) == 63)
  rotate_left
  · go_enter Try.func46, Try.ntmps46
    go_wp2
    go_ret
    exact ⟨ret_int (by rw [HS.out, if_neg (bneI (m := 61) h61), if_pos (by simp [beqI (m := 63) h63])]; rfl), rfl⟩
  go_enter Try.func46, Try.ntmps46
  go_wp2
  go_ret
  exact ⟨ret_int (by rw [HS.out, if_neg (bneI (m := 61) h61), if_neg (by simp [bneI (m := 40) h40, bneI (m := 41) h41, bneI (m := 91) h91, bneI (m := 93) h93, bneI (m := 58) h58, bneI (m := 44) h44, bneI (m := 43) h43, bneI (m := 45) h45, bneI (m := 42) h42, bneI (m := 60) h60, bneI (m := 63) h63])]; rfl), rfl⟩
end Go.Proofs.Ytoknigfjgoaoaaa
