/- The sanity check of the laws of layer 1: awake returns true. -/
import Derived.Test.YtoknigfjgoaoaaaLexL
namespace Go.Proofs.Ytoknigfjgoaoaaa
open Go.RowKit Lx
set_option linter.unusedSimpArgs false
set_option linter.unusedVariables false

theorem awake_scan : scan [120, 32, 35, 97, 10, 43, 32, 49, 48, 32] = ⟨[⟨1, [], [120]⟩, ⟨8, [32, 35, 97, 10], [43]⟩, ⟨5, [32], [49, 48]⟩], [32], 0, 0⟩ := by kernel_rfl
theorem awake_fuses : fusesT [120] [49] = true := by kernel_rfl

set_option maxHeartbeats 2000000 in
theorem awakeL (w : World) : Calls Try.prog 11 #[] w fun e w' => e = .returned (.bool true) ∧ Ext w w' := by
  go_enter Try.func11, Try.ntmps11
  go_wp2_with fail
  refine (scanL [120, 32, 35, 97, 10, 43, 32, 49, 48, 32] _ (by simp)).mono ?_
  rintro e1 w1 ⟨v, rfl, htr, hx1⟩
  rw [awake_scan] at htr ⊢
  obtain ⟨A, c, rfl, hc1, hc2, hrow⟩ := htr
  simp only [List.length_cons, List.length_nil] at hc1 hrow
  unfold maxLen at hc2
  have HX1 := Lib.hid hx1; clear hx1
  obtain ⟨b, off, rfl, hb0, p0, p1, p2⟩ := tokRow_at hrow (k := 0) (by simp)
  obtain ⟨b', off', heq, _, q0, q1, q2⟩ := tokRow_at hrow (k := 1) (by simp)
  obtain ⟨rfl, rfl⟩ : b = b' ∧ off = off' := by simpa using heq
  clear heq
  obtain ⟨b', off', heq, _, r0, r1, r2⟩ := tokRow_at hrow (k := 2) (by simp)
  obtain ⟨rfl, rfl⟩ : b = b' ∧ off = off' := by simpa using heq
  clear heq hrow
  simp only [Nat.zero_mul, Nat.one_mul, Nat.add_zero, Nat.reduceMul, List.getElem_cons_zero, List.getElem_cons_succ] at p0 p1 p2 q0 q1 q2 r0 r1 r2
  have htg := tok_guard
  have htf := tok_stood
  go_wp2_with fail
  refine (fusesL [120] [49] _ (by simp) (by simp)).mono ?_
  rintro e2 w2 ⟨rfl, hx2⟩
  rw [awake_fuses]
  have HX2 := Lib.hid (HX1.out.trans hx2); clear hx2
  clear p0 p1 p2 q0 q1 q2 r0 r1 r2
  go_wp2
  go_ret
  exact ⟨rfl, HX2.out⟩

/-! ### LexClasses, LexFuses, LexScans: the walks -/

set_option maxHeartbeats 1000000 in
theorem classesW (l : List UInt8) (w : World) (hl : l.length ≤ 140737488355328) : Calls Try.prog 4 #[.string ⟨l.toArray⟩] w fun e w' => e = .returned (.bool true) ∧ Ext w w' := by
  go_enter Try.func4, Try.ntmps4
  go_wp2_with fail
  refine (awakeL _).mono ?_
  rintro e1 w1 ⟨rfl, hx1⟩
  have HX1 := Lib.hid hx1; clear hx1
  go_wp2_with fail
  refine (classL _ _ (by omega)).mono ?_
  rintro e2 w2 ⟨rfl, rfl⟩
  go_wp2_with fail
  refine (classR _ _ (by omega)).mono ?_
  rintro e3 w3 ⟨rfl, hx3⟩
  have HX3 := Lib.hid (HX1.out.trans hx3); clear hx3
  go_wp2
  go_ret
  exact ⟨ret_bool (by simp), HX3.out⟩

set_option maxHeartbeats 1000000 in
theorem fusesW (a b : List UInt8) (w : World) (ha : a.length ≤ 140737488355328) (hb : b.length ≤ 140737488355328) : Calls Try.prog 5 #[.string ⟨a.toArray⟩, .string ⟨b.toArray⟩] w fun e w' => e = .returned (.bool true) ∧ Ext w w' := by
  go_enter Try.func5, Try.ntmps5
  go_wp2_with fail
  refine (awakeL _).mono ?_
  rintro e1 w1 ⟨rfl, hx1⟩
  have HX1 := Lib.hid hx1; clear hx1
  go_wp2_with fail
  refine (fusesL _ _ _ (by omega) (by omega)).mono ?_
  rintro e2 w2 ⟨rfl, hx2⟩
  have HX2 := Lib.hid (HX1.out.trans hx2); clear hx2
  go_wp2_with fail
  refine (fusesR _ _ _ (by omega) (by omega)).mono ?_
  rintro e3 w3 ⟨rfl, hx3⟩
  have HX3 := Lib.hid (HX2.out.trans hx3); clear hx3
  go_wp2
  go_ret
  exact ⟨ret_bool (by simp), HX3.out⟩

theorem tokRow_ext {w w' : World} {v : Value} {l : List Tok} (h : TokRow w v l) (he : Ext w w') : TokRow w' v l := by
  obtain ⟨A, c, rfl, h1, h2, h3⟩ := h
  exact ⟨A, c, rfl, h1, h2, h3.ext he⟩

set_option maxHeartbeats 1000000 in
theorem scansW (l : List UInt8) (w : World) (hl : l.length ≤ 140737488355328) : Calls Try.prog 3 #[.string ⟨l.toArray⟩] w fun e w' => e = .returned (.bool true) ∧ Ext w w' := by
  by_cases h6 : 6000 < l.length
  · go_enter Try.func3, Try.ntmps3
    go_wp2_with fail
    refine (awakeL _).mono ?_
    rintro e1 w1 ⟨rfl, hx1⟩
    have HX1 := Lib.hid hx1; clear hx1
    go_wp2
    go_ret
    exact ⟨rfl, HX1.out⟩
  · go_enter Try.func3, Try.ntmps3
    go_wp2_with fail
    refine (scanL _ _ (by omega)).mono ?_
    rintro e1 w1 ⟨v1, rfl, htr1, hx1⟩
    have HX1 := Lib.hid hx1; clear hx1
    obtain ⟨A1, c1, rfl, h11, h12, h13⟩ := htr1
    have HT1 := Lib.hid (show TokRow w1 _ (scan l).toks from ⟨A1, c1, rfl, h11, h12, h13⟩); clear h11 h12 h13
    go_wp2_with fail
    refine (scanR _ _ (by omega)).mono ?_
    rintro e2 w2 ⟨v2, rfl, htr2, hx2⟩
    obtain ⟨A2, c2, rfl, h21, h22, h23⟩ := htr2
    have HT2 := Lib.hid (show TokRow w2 _ (scan l).toks from ⟨A2, c2, rfl, h21, h22, h23⟩); clear h21 h22 h23
    have HT1' := Lib.hid (tokRow_ext HT1.out hx2)
    have HX2 := Lib.hid (HX1.out.trans hx2); clear hx2
    go_wp2_with fail
    refine (awakeL _).mono ?_
    rintro e3 w3 ⟨rfl, hx3⟩
    have HT3 := Lib.hid (tokRow_ext HT1'.out hx3)
    have HT4 := Lib.hid (tokRow_ext HT2.out hx3)
    have HX3 := Lib.hid (HX2.out.trans hx3); clear hx3
    go_wp2_with fail
    refine (sameR _ _ _ _ _ HT3.out HT4.out).mono ?_
    rintro e4 w4 ⟨rfl, hx4⟩
    have HX4 := Lib.hid (HX3.out.trans hx4); clear hx4
    have hs : sameT (scan l).toks (scan l).toks = true := (sameT_iff _ _).2 rfl
    go_wp2
    go_ret
    exact ⟨rfl, HX4.out⟩
end Go.Proofs.Ytoknigfjgoaoaaa
