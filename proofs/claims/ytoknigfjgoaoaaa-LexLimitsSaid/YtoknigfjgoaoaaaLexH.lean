/- Contracts of the reference's lead, scan and Scan. -/
import Derived.Test.YtoknigfjgoaoaaaLexG
import Derived.Test.YtoknigfjgoaoaaaLexD
namespace Go.Proofs.Ytoknigfjgoaoaaa
open Go.RowKit Lx
set_option linter.unusedSimpArgs false
set_option linter.unusedVariables false

theorem neI {n m : Nat} (h : ((n : Int) != (m : Int)) = false) : n = m := by simp at h; omega
theorem neT {n m : Nat} (h : ((n : Int) != (m : Int)) = true) : ¬ n = m := by simp at h; omega
/-- The place of a bad byte in a lead, -1 if there is none. -/
def badI (k : Nat) : Option Nat → Int
  | none => -1
  | some p => ((k + p : Nat) : Int)
def LeadPost (l : List UInt8) (k : Nat) (w : World) (e : Ending) (w' : World) : Prop :=
  e = .returned (.tuple #[.int .i64 ((leadT false (l.drop k) 0).1 : Nat), .int .i64 (badI k (leadT false (l.drop k) 0).2)]) ∧ w = w'
theorem lead_mk {l : List UInt8} {k n : Nat} {b : Option Nat} {w : World} {x y : Int} (h : leadT false (l.drop k) 0 = (n, b)) (hx : x = n) (hy : y = badI k b) : LeadPost l k w (.returned (.tuple #[.int .i64 x, .int .i64 y])) w := by
  subst hx; subst hy; unfold LeadPost; rw [h]; exact ⟨rfl, rfl⟩

set_option maxHeartbeats 2000000 in
theorem leadR (l : List UInt8) (x : Int) (k : Nat) (hxk : x = k) (w : World) (hk : k ≤ l.length) (hl : l.length ≤ 281474976710656) : Calls Try.prog 31 #[.string ⟨l.toArray⟩, .int .i64 x] w (LeadPost l k w) := by
  subst hxk
  go_enter Try.func31, Try.ntmps31
  go_wp2_with (first | (go_at_call 29; refine (whiteR _ _).mono ?_; rintro e w' ⟨rfl, rfl⟩) | (go_at_call 40; refine (allowedR _ _).mono ?_; rintro e w' ⟨rfl, rfl⟩))
  go_loopg [6] (l.length - k) (fun g n wx => ∃ i : Nat, g = l.length - i ∧ wx = w ∧ k ≤ i ∧ i ≤ l.length ∧ n = .int .i64 i ∧ Hid (leadT false (l.drop k) 0 = leadT false (l.drop i) (i - k)))
  case atStart => exact ⟨k, rfl, rfl, Nat.le_refl _, hk, rfl, Lib.hid (by congr 1; omega)⟩
  case round =>
    obtain ⟨i, rfl, rfl, hki, hil, rfl, HL⟩ := hrel
    by_cases hit : i < l.length
    rotate_left
    · go_wp2_with (first | (go_at_call 29; refine (whiteR _ _).mono ?_; rintro e w' ⟨rfl, rfl⟩) | (go_at_call 40; refine (allowedR _ _).mono ?_; rintro e w' ⟨rfl, rfl⟩))
      go_ret2
      exact lead_mk (n := i - k) (b := none) (by rw [HL.out, leadT_end _ (by omega)]) (by omega) rfl
    obtain ⟨c, hc⟩ : ∃ c, ({ data := l.toArray } : ByteArray)[i]'hit = c := ⟨_, rfl⟩
    have HC := Lib.hid (show l[i] = c from hc)
    cases hw : whiteB c
    rotate_left
    · go_wp2_with (first | (go_at_call 29; refine (whiteR _ _).mono ?_; rintro e w' ⟨rfl, rfl⟩) | (go_at_call 40; refine (allowedR _ _).mono ?_; rintro e w' ⟨rfl, rfl⟩))
      go_roundg (l.length - (i + 1))
      case measure => omega
      case rel => exact ⟨i + 1, rfl, rfl, by omega, by omega, by go_num, Lib.hid (by rw [HL.out, leadT_white hit HC.out hw]; congr 1; omega)⟩
    cases h35 : ((c.toNat : Int) == 35)
    · go_wp2_with (first | (go_at_call 29; refine (whiteR _ _).mono ?_; rintro e w' ⟨rfl, rfl⟩) | (go_at_call 40; refine (allowedR _ _).mono ?_; rintro e w' ⟨rfl, rfl⟩))
      go_ret2
      exact lead_mk (n := i - k) (b := none) (by rw [HL.out, leadT_other hit HC.out hw (bneI (m := 35) h35)]) (by omega) rfl
    have HL2 := Lib.hid (HL.out.trans (leadT_hash (n := i - k) hit HC.out (beqI (m := 35) h35)))
    have HCI := Lib.hid (beqI (m := 35) h35)
    go_wp2_with (first | (go_at_call 29; refine (whiteR _ _).mono ?_; rintro e w' ⟨rfl, rfl⟩) | (go_at_call 40; refine (allowedR _ _).mono ?_; rintro e w' ⟨rfl, rfl⟩))
    clear HL
    obtain ⟨wo, rfl⟩ : ∃ wo : World, wo = wr := ⟨_, rfl⟩
    go_loopg [6] (l.length - i) (fun g n wx => ∃ j : Nat, g = l.length - j ∧ wx = wo ∧ i ≤ j ∧ j ≤ l.length ∧ n = .int .i64 j ∧ Hid (leadT false (l.drop k) 0 = leadT true (l.drop j) (j - k)))
    case atStart => exact ⟨i, rfl, rfl, Nat.le_refl _, by omega, rfl, HL2⟩
    case round =>
      obtain ⟨j, rfl, rfl, hij, hjl, rfl, HL3⟩ := hrel
      by_cases hjt : j < l.length
      rotate_left
      · go_wp2_with (first | (go_at_call 29; refine (whiteR _ _).mono ?_; rintro e w' ⟨rfl, rfl⟩) | (go_at_call 40; refine (allowedR _ _).mono ?_; rintro e w' ⟨rfl, rfl⟩))
        go_roundg (l.length - j)
        case measure => omega
        case rel => exact ⟨j, rfl, rfl, by omega, by omega, rfl, Lib.hid (by rw [HL3.out, leadT_end _ (by omega), leadT_end _ (by omega)])⟩
      obtain ⟨d, hd⟩ : ∃ c, ({ data := l.toArray } : ByteArray)[j]'hjt = c := ⟨_, rfl⟩
      have HD := Lib.hid (show l[j] = d from hd)
      cases h10 : ((d.toNat : Int) != 10)
      · have hne : i < j := by
          rcases Nat.lt_or_ge i j with h | h
          · exact h
          · have : i = j := by omega
            subst this
            have h2 := HCI.out
            have h3 : c = d := by rw [← HC.out, ← HD.out]
            subst h3
            simp [h2] at h10
        go_wp2_with (first | (go_at_call 29; refine (whiteR _ _).mono ?_; rintro e w' ⟨rfl, rfl⟩) | (go_at_call 40; refine (allowedR _ _).mono ?_; rintro e w' ⟨rfl, rfl⟩))
        go_roundg (l.length - j)
        case measure => omega
        case rel => exact ⟨j, rfl, rfl, by omega, by omega, rfl, Lib.hid (by rw [HL3.out, leadT_line hjt HD.out (neI (m := 10) h10)])⟩
      cases ha : allowedB d
      · go_wp2_with (first | (go_at_call 29; refine (whiteR _ _).mono ?_; rintro e w' ⟨rfl, rfl⟩) | (go_at_call 40; refine (allowedR _ _).mono ?_; rintro e w' ⟨rfl, rfl⟩))
        go_ret2
        exact lead_mk (n := j - k) (b := some (j - k)) (by rw [HL3.out, leadT_bad hjt HD.out (neT (m := 10) h10) ha]) (by omega) (by simp [badI]; omega)
      · go_wp2_with (first | (go_at_call 29; refine (whiteR _ _).mono ?_; rintro e w' ⟨rfl, rfl⟩) | (go_at_call 40; refine (allowedR _ _).mono ?_; rintro e w' ⟨rfl, rfl⟩))
        go_roundg (l.length - (j + 1))
        case measure => omega
        case rel => exact ⟨j + 1, rfl, rfl, by omega, by omega, by go_num, Lib.hid (by rw [HL3.out, leadT_in hjt HD.out (neT (m := 10) h10) ha]; congr 1; omega)⟩
end Go.Proofs.Ytoknigfjgoaoaaa
