/- Contracts of Class of the program and of the reference. -/
import Derived.Test.YtoknigfjgoaoaaaLexI
import Derived.Test.YtoknigfjgoaoaaaLexJ
namespace Go.Proofs.Ytoknigfjgoaoaaa
open Go.RowKit Lx
set_option linter.unusedSimpArgs false
set_option linter.unusedVariables false

set_option maxHeartbeats 1000000 in
theorem classL (l : List UInt8) (w : World) (hl : l.length ≤ 281474976710656) : Calls Try.prog 15 #[.string ⟨l.toArray⟩] w fun e w' => e = .returned (.int .i64 (classT l : Nat)) ∧ w = w' := by
  by_cases h0 : l = []
  · subst h0
    go_enter Try.func15, Try.ntmps15
    go_wp2
    go_ret
    exact ⟨rfl, rfl⟩
  · have hb1 : (l == []) = false := by simpa using h0
    have hb2 : l.isEmpty = false := by simpa using h0
    have hpos : 0 < l.length := List.length_pos_iff.2 h0
    obtain ⟨k, n, e, hT⟩ : ∃ k n e, tokenT l = (k, n, e) := ⟨_, _, _, rfl⟩
    have HT := Lib.hid hT
    have HC := Lib.hid (show classT l = if e = 0 ∧ n = l.length then k else 0 from by simp only [classT, if_neg h0, hT])
    clear hT h0
    go_enter Try.func15, Try.ntmps15
    go_wp2_with fail
    refine (tokenL _ _ hpos hl).mono ?_
    rintro e0 w' ⟨rfl, rfl⟩
    rw [HT.out]
    by_cases he : e = 0
    · subst he
      by_cases hn : n = l.length
      · have hnb : ((n : Int) != (l.length : Int)) = false := by simp; omega
        have HR := Lib.hid (HC.out.trans (if_pos ⟨rfl, hn⟩))
        clear hn
        go_wp2
        go_ret
        exact ⟨ret_int (by rw [HR.out]), rfl⟩
      · have hnb : ((n : Int) != (l.length : Int)) = true := by simp; omega
        have HR := Lib.hid (HC.out.trans (if_neg (fun h => hn h.2)))
        clear hn
        go_wp2
        go_ret
        exact ⟨ret_int (by rw [HR.out]; rfl), rfl⟩
    · have heb : ((e : Int) != 0) = true := by simp; omega
      have HR := Lib.hid (HC.out.trans (if_neg (fun h => he h.1)))
      go_wp2
      go_ret
      exact ⟨ret_int (by rw [HR.out]; rfl), rfl⟩

theorem tokenT_white {l : List UInt8} {c : UInt8} (h0 : 0 < l.length) (hc : l[0] = c) (h : whiteB c = true ∨ c.toNat = 35) : tokenT l = (0, 0, 2) := by
  have hv : c.toNat = 9 ∨ c.toNat = 10 ∨ c.toNat = 13 ∨ c.toNat = 32 ∨ c.toNat = 35 := by
    rcases h with h | h
    · simp [whiteB] at h; omega
    · omega
  have ha : allowedB c = true := by
    rcases hv with h | h | h | h | h <;> simp [allowedB, whiteB, printedB, h]
  have hs : signs.contains c = false := by
    have h : ∀ n : UInt8, (c == n) = (c.toNat == n.toNat) := fun n => by rw [Bool.eq_iff_iff]; simp [UInt8.toNat_inj]
    simp only [signs, List.contains_cons, List.contains_nil, Bool.or_false, h]
    rcases hv with h | h | h | h | h <;> rw [h] <;> rfl
  rw [tokenT_eq h0 hc, if_neg (by simp [ha]), if_neg (by simp [letterB, lowerB, upperB]; omega), if_neg (by simp [digitB]; omega), if_neg (by omega), if_neg (by omega), if_neg (by rw [hs]; simp)]

set_option maxHeartbeats 1000000 in
theorem classR (l : List UInt8) (w : World) (hl : l.length ≤ 281474976710656) : Calls Try.prog 16 #[.string ⟨l.toArray⟩] w fun e w' => e = .returned (.int .i64 (classT l : Nat)) ∧ Ext w w' := by
  by_cases h0 : l = []
  · subst h0
    go_enter Try.func16, Try.ntmps16
    go_wp2
    go_ret
    exact ⟨rfl, Ext.refl _⟩
  · have hb1 : (l == []) = false := by simpa using h0
    have hb2 : l.isEmpty = false := by simpa using h0
    have hpos : 0 < l.length := List.length_pos_iff.2 h0
    obtain ⟨k, n, e, hT⟩ : ∃ k n e, tokenT l = (k, n, e) := ⟨_, _, _, rfl⟩
    have HT := Lib.hid hT
    have HC := Lib.hid (show classT l = if e = 0 ∧ n = l.length then k else 0 from by simp only [classT, if_neg h0, hT])
    clear hT h0
    obtain ⟨c, hc⟩ : ∃ c, ({ data := l.toArray } : ByteArray)[0]'hpos = c := ⟨_, rfl⟩
    have HC0 := Lib.hid (show l[0] = c from hc)
    cases hw : whiteB c
    rotate_left
    · have hz : (k, n, e) = (0, 0, 2) := HT.out.symm.trans (tokenT_white hpos HC0.out (.inl hw))
      have HR := Lib.hid (show classT l = 0 from by simp only [Prod.mk.injEq] at hz; rw [HC.out, if_neg (by omega)])
      clear hz
      go_enter Try.func16, Try.ntmps16
      go_wp2_with (first | (go_at_call 29; refine (whiteR _ _).mono ?_; rintro e w' ⟨rfl, rfl⟩))
      go_ret
      exact ⟨ret_int (by rw [HR.out]; rfl), Ext.refl _⟩
    cases h35 : ((c.toNat : Int) == 35)
    rotate_left
    · have hz : (k, n, e) = (0, 0, 2) := HT.out.symm.trans (tokenT_white hpos HC0.out (.inr (beqI (m := 35) h35)))
      have HR := Lib.hid (show classT l = 0 from by simp only [Prod.mk.injEq] at hz; rw [HC.out, if_neg (by omega)])
      clear hz
      go_enter Try.func16, Try.ntmps16
      go_wp2_with (first | (go_at_call 29; refine (whiteR _ _).mono ?_; rintro e w' ⟨rfl, rfl⟩))
      go_ret
      exact ⟨ret_int (by rw [HR.out]; rfl), Ext.refl _⟩
    have CN := Lib.hid (fun w => nextR l 0 0 rfl w hpos hl)
    go_enter Try.func16, Try.ntmps16
    go_wp2_with (first | (go_at_call 29; refine (whiteR _ _).mono ?_; rintro e w' ⟨rfl, rfl⟩))
    refine (CN.out _).mono ?_
    rintro e0 w1 ⟨rfl, hext⟩
    rw [List.drop_zero, HT.out]
    have HX := Lib.hid hext; clear hext CN
    by_cases he : e = 0
    · subst he
      have HI := Lib.hid (show itemV 0 (k, n, 0) = .agg #[.int .i64 n, .int .i64 k, .int .i64 0, .int .i64 0] from by simp [itemV])
      rw [HI.out]
      clear HI
      by_cases hn : n = l.length
      · have hnb : ((n : Int) != (l.length : Int)) = false := by simp; omega
        have HR := Lib.hid (HC.out.trans (if_pos ⟨rfl, hn⟩))
        clear hn
        go_wp2
        go_ret
        exact ⟨ret_int (by rw [HR.out]), HX.out.alloc _⟩
      · have hnb : ((n : Int) != (l.length : Int)) = true := by simp; omega
        have HR := Lib.hid (HC.out.trans (if_neg (fun h => hn h.2)))
        clear hn
        go_wp2
        go_ret
        exact ⟨ret_int (by rw [HR.out]; rfl), HX.out.alloc _⟩
    · have HI := Lib.hid (show itemV 0 (k, n, e) = .agg #[.int .i64 0, .int .i64 0, .int .i64 e, .int .i64 ((0 + n : Nat) : Int)] from by simp [itemV, he])
      rw [HI.out]
      clear HI
      have heb : ((e : Int) != 0) = true := by simp; omega
      have HR := Lib.hid (HC.out.trans (if_neg (fun h => he h.1)))
      go_wp2
      go_ret
      exact ⟨ret_int (by rw [HR.out]; rfl), HX.out.alloc _⟩
end Go.Proofs.Ytoknigfjgoaoaaa
