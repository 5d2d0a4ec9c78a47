/- Contracts of Trivia of the program and of the reference; the walk of LexTrivia. -/
import Derived.Test.YtoknigfjgoaoaaaLexM
namespace Go.Proofs.Ytoknigfjgoaoaaa
open Go.RowKit Lx
set_option linter.unusedSimpArgs false
set_option linter.unusedVariables false

/-- Inside a comment at the end? -/
def commentT : Bool → List UInt8 → Bool
  | c, [] => c
  | c, x :: r => commentT (if x.toNat = 10 then false else if x.toNat = 35 then true else c) r
theorem leadT_mono : ∀ (b : Bool) (l : List UInt8) (n m : Nat), leadT b l (n + m) = ((leadT b l n).1 + m, (leadT b l n).2.map (· + m))
  | b, [], n, m => by cases b <;> simp [leadT]
  | false, c :: r, n, m => by
    have h1 := leadT_mono false r (n + 1) m
    have h2 := leadT_mono true r (n + 1) m
    unfold leadT
    split
    · rw [← h1]; congr 1; omega
    · split
      · rw [← h2]; congr 1; omega
      · simp
  | true, c :: r, n, m => by
    have h1 := leadT_mono false r (n + 1) m
    have h2 := leadT_mono true r (n + 1) m
    unfold leadT
    split
    · rw [← h1]; congr 1; omega
    · split
      · simp
      · rw [← h2]; congr 1; omega
/-- Is all of l trivia? -/
def wholeB (c : Bool) (l : List UInt8) : Bool := (leadT c l 0).2.isNone && (leadT c l 0).1 == l.length
theorem wholeB_step {c d : Bool} {x : UInt8} {r : List UInt8} (h : leadT c (x :: r) 0 = leadT d r 1) : wholeB c (x :: r) = wholeB d r := by
  unfold wholeB
  rw [h, show (1 : Nat) = 0 + 1 from rfl, leadT_mono]
  simp
theorem triviaT_eq : ∀ (l : List UInt8) (c fin : Bool), triviaT c l fin = (wholeB c l && (!commentT c l || fin))
  | [], c, fin => by cases c <;> cases fin <;> rfl
  | x :: r, c, fin => by
    have ih := triviaT_eq r
    unfold triviaT commentT
    cases c with
    | true =>
      by_cases ha : allowedB x = false
      · have h10 : ¬ x.toNat = 10 := fun h => by simp [allowedB, whiteB, h] at ha
        have : wholeB true (x :: r) = false := by simp [wholeB, leadT, h10, ha]
        rw [if_pos ha, this]; rfl
      · have ha' : allowedB x = true := by simpa using ha
        rw [if_neg ha, if_pos rfl, ih]
        by_cases h10 : x.toNat = 10
        · rw [wholeB_step (d := false) (by simp [leadT, h10])]; simp [h10]
        · have hb : (x.toNat == 10) = false := by simpa using h10
          rw [wholeB_step (d := true) (by simp [leadT, h10, ha']), hb]; simp [h10]
    | false =>
      by_cases ha : allowedB x = false
      · have hw : whiteB x = false := by cases h : whiteB x <;> simp_all [allowedB]
        have h35 : ¬ x.toNat = 35 := fun h => by simp [allowedB, printedB, h] at ha
        have : wholeB false (x :: r) = false := by simp [wholeB, leadT, hw, h35]
        rw [if_pos ha, this]; rfl
      · rw [if_neg ha, if_neg (by simp)]
        by_cases h35 : x.toNat = 35
        · have hw : whiteB x = false := by simp [whiteB, h35]
          rw [if_pos h35, ih, wholeB_step (d := true) (by simp [leadT, h35, hw])]; simp [h35]
        · rw [if_neg h35]
          by_cases hw : whiteB x = false
          · have : wholeB false (x :: r) = false := by simp [wholeB, leadT, hw, h35]
            rw [if_pos hw, this]; rfl
          · have hw' : whiteB x = true := by simpa using hw
            rw [if_neg hw, ih, wholeB_step (d := false) (by simp [leadT, hw'])]
            by_cases h10 : x.toNat = 10 <;> simp [h10, h35]
theorem triviaT_step {l : List UInt8} {k : Nat} {x : UInt8} {c fin : Bool} (h : k < l.length) (hc : l[k] = x) : triviaT c (l.drop k) fin =
    if allowedB x = false then false else if c = true then triviaT (!(x.toNat == 10)) (l.drop (k + 1)) fin else if x.toNat = 35 then triviaT true (l.drop (k + 1)) fin else if whiteB x = false then false else triviaT c (l.drop (k + 1)) fin := by
  rw [List.drop_eq_getElem_cons h, hc]; rfl
theorem triviaT_end {l : List UInt8} {k : Nat} {c fin : Bool} (h : l.length ≤ k) : triviaT c (l.drop k) fin = (!c || fin) := by
  rw [List.drop_of_length_le h]; rfl
theorem commentT_step {l : List UInt8} {k : Nat} {x : UInt8} {c : Bool} (h : k < l.length) (hc : l[k] = x) : commentT c (l.drop k) = commentT (if x.toNat = 10 then false else if x.toNat = 35 then true else c) (l.drop (k + 1)) := by
  rw [List.drop_eq_getElem_cons h, hc]; rfl
theorem commentT_end {l : List UInt8} {k : Nat} {c : Bool} (h : l.length ≤ k) : commentT c (l.drop k) = c := by
  rw [List.drop_of_length_le h]; rfl
theorem neq10 (x : UInt8) : ((x.toNat : Int) != 10) = !(x.toNat == 10) := by rw [Bool.eq_iff_iff]; simp; omega

set_option maxHeartbeats 1000000 in
theorem triviaL (l : List UInt8) (fin : Bool) (w : World) (hl : l.length ≤ 281474976710656) : Calls Try.prog 21 #[.string ⟨l.toArray⟩, .bool fin] w fun e w' => e = .returned (.bool (triviaT false l fin)) ∧ w = w' := by
  obtain ⟨r, hr⟩ : ∃ r, triviaT false l fin = r := ⟨_, rfl⟩
  rw [hr]
  have HR := Lib.hid hr; clear hr
  go_enter Try.func21, Try.ntmps21
  go_wp2_with fail
  go_loopg [5, 6] l.length (fun g s5 s6 wx => ∃ (i : Nat) (c : Bool), g = l.length - i ∧ wx = w ∧ i ≤ l.length ∧ s5 = .bool c ∧ s6 = .int .i64 i ∧ Hid (triviaT c (l.drop i) fin = r))
  case atStart => exact ⟨0, false, rfl, rfl, Nat.zero_le _, rfl, rfl, Lib.hid (by simpa using HR.out)⟩
  case round =>
    obtain ⟨i, c, rfl, rfl, hil, rfl, rfl, HT⟩ := hrel
    by_cases hit : i < l.length
    rotate_left
    · have HF := Lib.hid (show (!c || fin) = r from by rw [← HT.out, triviaT_end (by omega)])
      cases c <;> (go_wp2_with fail; go_ret; exact ⟨ret_bool (by rw [← HF.out]; rfl), rfl⟩)
    obtain ⟨x, hx⟩ : ∃ c, ({ data := l.toArray } : ByteArray)[i]'hit = c := ⟨_, rfl⟩
    have HXi := Lib.hid (show l[i] = x from hx)
    have HS := Lib.hid (HT.out.symm.trans (triviaT_step hit HXi.out))
    clear HT
    cases ha : allowedB x
    · go_wp2_with (first | (go_at_call 25; refine (whiteL _ _).mono ?_; rintro e w' ⟨rfl, rfl⟩) | (go_at_call 26; refine (allowedL _ _).mono ?_; rintro e w' ⟨rfl, rfl⟩))
      go_ret
      exact ⟨ret_bool (by rw [HS.out, if_pos ha]), rfl⟩
    cases c with
    | true =>
      go_wp2_with (first | (go_at_call 25; refine (whiteL _ _).mono ?_; rintro e w' ⟨rfl, rfl⟩) | (go_at_call 26; refine (allowedL _ _).mono ?_; rintro e w' ⟨rfl, rfl⟩))
      go_roundg (l.length - (i + 1))
      case measure => omega
      case rel => exact ⟨i + 1, !(x.toNat == 10), rfl, rfl, by omega, by rw [neq10], by go_num, Lib.hid (by rw [HS.out, if_neg (by simp [ha]), if_pos (by trivial)])⟩
    | false =>
      cases h35 : ((x.toNat : Int) == 35)
      rotate_left
      · go_wp2_with (first | (go_at_call 25; refine (whiteL _ _).mono ?_; rintro e w' ⟨rfl, rfl⟩) | (go_at_call 26; refine (allowedL _ _).mono ?_; rintro e w' ⟨rfl, rfl⟩))
        go_roundg (l.length - (i + 1))
        case measure => omega
        case rel => exact ⟨i + 1, true, rfl, rfl, by omega, rfl, by go_num, Lib.hid (by rw [HS.out, if_neg (by simp [ha]), if_neg (by simp), if_pos (beqI (m := 35) h35)])⟩
      cases hw : whiteB x
      · go_wp2_with (first | (go_at_call 25; refine (whiteL _ _).mono ?_; rintro e w' ⟨rfl, rfl⟩) | (go_at_call 26; refine (allowedL _ _).mono ?_; rintro e w' ⟨rfl, rfl⟩))
        go_ret
        exact ⟨ret_bool (by rw [HS.out, if_neg (by simp [ha]), if_neg (by simp), if_neg (bneI (m := 35) h35), if_pos hw]), rfl⟩
      · go_wp2_with (first | (go_at_call 25; refine (whiteL _ _).mono ?_; rintro e w' ⟨rfl, rfl⟩) | (go_at_call 26; refine (allowedL _ _).mono ?_; rintro e w' ⟨rfl, rfl⟩))
        go_roundg (l.length - (i + 1))
        case measure => omega
        case rel => exact ⟨i + 1, false, rfl, rfl, by omega, rfl, by go_num, Lib.hid (by rw [HS.out, if_neg (by simp [ha]), if_neg (by simp), if_neg (bneI (m := 35) h35), if_neg (by simp [hw])])⟩

set_option maxHeartbeats 1000000 in
theorem triviaR (l : List UInt8) (fin : Bool) (w : World) (hl : l.length ≤ 281474976710656) : Calls Try.prog 22 #[.string ⟨l.toArray⟩, .bool fin] w fun e w' => e = .returned (.bool (triviaT false l fin)) ∧ w = w' := by
  obtain ⟨n, b, hLd⟩ : ∃ n b, leadT false l 0 = (n, b) := ⟨_, _, rfl⟩
  have hnl : n ≤ l.length := by have h := leadT_le false l 0; rw [hLd] at h; simpa using h
  have HLd := Lib.hid hLd
  have HW := Lib.hid (show wholeB false l = (b.isNone && n == l.length) from by rw [wholeB, hLd])
  have HT := Lib.hid (triviaT_eq l false fin)
  clear hLd
  go_enter Try.func22, Try.ntmps22
  go_wp2_with fail
  refine (leadR l 0 0 rfl _ (Nat.zero_le _) hl).mono ?_
  rintro e w' ⟨rfl, rfl⟩
  rw [List.drop_zero, HLd.out]
  cases b with
  | some q =>
    have hq2 : badI 0 (some q) = ((0 + q : Nat) : Int) := rfl
    rw [hq2, Nat.zero_add]
    have hq : (0 : Int) ≤ (q : Int) := by omega
    have HF := Lib.hid (show triviaT false l fin = false from by rw [HT.out, HW.out]; rfl)
    go_wp2
    go_ret
    exact ⟨ret_bool HF.out.symm, rfl⟩
  | none =>
    have hq2 : badI 0 none = -1 := rfl
    rw [hq2]
    clear hq2
    by_cases hn : n < l.length
    · have HF := Lib.hid (show triviaT false l fin = false from by rw [HT.out, HW.out]; have : (n == l.length) = false := by simp; omega
                                                                   rw [this]; rfl)
      go_wp2
      go_ret
      exact ⟨ret_bool HF.out.symm, rfl⟩
    · have hnb : decide (n < l.length) = false := by simpa using hn
      have HF := Lib.hid (show triviaT false l fin = (!commentT false l || fin) from by
        rw [HT.out, HW.out]; have : (n == l.length) = true := by simp; omega
        rw [this]; rfl)
      cases fin with
      | true =>
        go_wp2
        go_ret
        exact ⟨ret_bool (by rw [HF.out]; simp), rfl⟩
      | false =>
        obtain ⟨r, hr⟩ : ∃ r, commentT false l = r := ⟨_, rfl⟩
        have HR := Lib.hid hr; clear hr
        go_wp2
        go_loopg [7, 8] l.length (fun g s7 s8 wx => ∃ (i : Nat) (c : Bool), g = l.length - i ∧ wx = w ∧ i ≤ l.length ∧ s7 = .bool c ∧ s8 = .int .i64 i ∧ Hid (commentT c (l.drop i) = r))
        case atStart => exact ⟨0, false, rfl, rfl, Nat.zero_le _, rfl, rfl, Lib.hid (by simpa using HR.out)⟩
        case round =>
          obtain ⟨i, c, rfl, rfl, hil, rfl, rfl, HC⟩ := hrel
          by_cases hit : i < l.length
          rotate_left
          · have HF2 := Lib.hid (show c = r from by rw [← HC.out, commentT_end (by omega)])
            go_wp2_with fail
            go_ret
            exact ⟨ret_bool (by rw [HF.out, HR.out, HF2.out]; simp), rfl⟩
          obtain ⟨x, hx⟩ : ∃ c, ({ data := l.toArray } : ByteArray)[i]'hit = c := ⟨_, rfl⟩
          have HXi := Lib.hid (show l[i] = x from hx)
          have HS := Lib.hid (HC.out.symm.trans (commentT_step hit HXi.out))
          clear HC
          cases h35 : ((x.toNat : Int) == 35) <;> cases h10 : ((x.toNat : Int) == 10)
          · go_wp2
            go_roundg (l.length - (i + 1))
            case measure => omega
            case rel => exact ⟨i + 1, c, rfl, rfl, by omega, rfl, by go_num, Lib.hid (by rw [HS.out, if_neg (bneI (m := 10) h10), if_neg (bneI (m := 35) h35)])⟩
          · go_wp2
            go_roundg (l.length - (i + 1))
            case measure => omega
            case rel => exact ⟨i + 1, false, rfl, rfl, by omega, rfl, by go_num, Lib.hid (by rw [HS.out, if_pos (beqI (m := 10) h10)])⟩
          · go_wp2
            go_roundg (l.length - (i + 1))
            case measure => omega
            case rel => exact ⟨i + 1, true, rfl, rfl, by omega, rfl, by go_num, Lib.hid (by rw [HS.out, if_neg (bneI (m := 10) h10), if_pos (beqI (m := 35) h35)])⟩
          · have h1 := beqI (m := 10) h10
            have h2 := beqI (m := 35) h35
            omega

set_option maxHeartbeats 1000000 in
theorem triviaW (l : List UInt8) (fin : Bool) (w : World) (hl : l.length ≤ 140737488355328) : Calls Try.prog 7 #[.string ⟨l.toArray⟩, .bool fin] w fun e w' => e = .returned (.bool true) ∧ Ext w w' := by
  go_enter Try.func7, Try.ntmps7
  go_wp2_with fail
  refine (awakeL _).mono ?_
  rintro e1 w1 ⟨rfl, hx1⟩
  have HX1 := Lib.hid hx1; clear hx1
  go_wp2_with fail
  refine (triviaL _ _ _ (by omega)).mono ?_
  rintro e2 w2 ⟨rfl, rfl⟩
  go_wp2_with fail
  refine (triviaR _ _ _ (by omega)).mono ?_
  rintro e3 w3 ⟨rfl, rfl⟩
  go_wp2
  go_ret
  exact ⟨ret_bool (by simp), HX1.out⟩
end Go.Proofs.Ytoknigfjgoaoaaa
