/- The walk of LexKeeps. -/
import Derived.Test.YtoknigfjgoaoaaaLexO
import Derived.Test.YtoknigfjgoaoaaaLexR
namespace Go.Proofs.Ytoknigfjgoaoaaa
open Go.RowKit Lx
set_option linter.unusedSimpArgs false
set_option linter.unusedVariables false

theorem quietC {P : Program} {g : FuncId} {args : Array Value} {W : World} {v : Value} (h : Calls P g args W fun e w' => e = .returned v ∧ W = w') : Calls P g args W fun e w' => e = .returned v ∧ w' = W :=
  h.mono fun _ _ ⟨a, b⟩ => ⟨a, b.symm⟩
theorem total_mem {l : List Tok} {t : Tok} (h : t ∈ l) : t.lead.length + t.text.length ≤ totalT l := by
  induction l with
  | nil => cases h
  | cons x r ih =>
    simp only [totalT]
    rcases List.mem_cons.1 h with rfl | h
    · omega
    · have := ih h; omega

set_option maxHeartbeats 4000000 in
theorem keepsW (l : List UInt8) (w : World) (hl : l.length ≤ 140737488355328) : Calls Try.prog 9 #[.string ⟨l.toArray⟩] w fun e w' => e = .returned (.bool true) ∧ Ext w w' := by
  obtain ⟨Rs, hRs⟩ : ∃ Rs, scan l = Rs := ⟨_, rfl⟩
  have HRs := Lib.hid hRs
  obtain ⟨toks, tail, place, er⟩ := Rs
  by_cases her : er = 0
  rotate_left
  · have h := scan_errs (l := l) (by rw [hRs]; exact her)
    rw [hRs] at h
    simp only at h
    obtain ⟨rfl, rfl⟩ := h
    have herb : ((er : Int) != 0) = true := by simp; omega
    clear hRs her
    go_enter Try.func9, Try.ntmps9
    go_wp2_with fail
    refine (scanL _ _ (by omega)).mono ?_
    rintro e1 w1 ⟨v1, rfl, htr1, hx1⟩
    rw [HRs.out] at htr1 ⊢
    obtain ⟨A1, c1, rfl, h11, h12, h13⟩ := htr1
    have HX1 := Lib.hid hx1; clear hx1 h13
    go_wp2_with fail
    refine (awakeL _).mono ?_
    rintro e2 w2 ⟨rfl, hx2⟩
    have HX2 := Lib.hid (HX1.out.trans hx2); clear hx2
    go_wp2
    go_ret
    exact ⟨rfl, HX2.out⟩
  · subst her
    have h := scan_keeps (l := l) (by rw [hRs])
    rw [hRs] at h
    simp only at h
    obtain ⟨hj, hg, ht, hn, hl4⟩ := h
    have HJ := Lib.hid hj
    have HG := Lib.hid hg
    have HT := Lib.hid ht
    have htot : totalT toks + tail.length = l.length := by rw [← hj, joinT_len]
    clear hRs hj hg ht
    go_enter Try.func9, Try.ntmps9
    go_wp2_with fail
    refine (scanL _ _ (by omega)).mono ?_
    rintro e1 w1 ⟨v1, rfl, htr1, hx1⟩
    rw [HRs.out] at htr1 ⊢
    have HV := Lib.hid htr1
    obtain ⟨A1, c1, rfl, h11, h12, h13⟩ := htr1
    have HRow := Lib.hid h13
    unfold maxLen at h12
    have HX1 := Lib.hid hx1; clear hx1 h13
    go_wp2_with fail
    go_loopg [7] toks.length (fun g s7 wx => ∃ i : Nat, g = toks.length - i ∧ i ≤ toks.length ∧ s7 = .int .i64 i ∧ Hid (Ext w1 wx))
    case atStart => exact ⟨0, rfl, Nat.zero_le _, rfl, Lib.hid (Ext.refl _)⟩
    case round =>
      obtain ⟨i, rfl, hil, rfl, HX⟩ := hrel
      by_cases hit : i < toks.length
      · obtain ⟨b, off, rfl, hb, p0, p1, p2⟩ := tokRow_at (HRow.out.ext HX.out) hit
        obtain ⟨g1, g2, g3⟩ := HG.out toks[i] (List.getElem_mem hit)
        have hsz := total_mem (List.getElem_mem hit)
        generalize toks[i] = t at p0 p1 p2 g1 g2 g3 hsz
        have h0 : (0 : Int) ≤ (i : Int) := by omega
        have h1 : (i : Int) < (toks.length : Int) := by omega
        have f1 : ((classT t.text : Int) != t.kind) = false := by simp [g1]
        have f2 : (t.kind == 0) = false := by simpa using g2
        have hz1 : t.text.length ≤ 281474976710656 := by omega
        have hz2 : t.lead.length ≤ 281474976710656 := by omega
        clear g1 g2 hsz
        go_wp2_with fail
        go_quiet ((first | (go_at_call 15; exact Calls.quiet_of_same (quietC (classL _ _ hz1))) | (go_at_call 21; exact Calls.quiet_of_same (quietC (triviaL _ _ _ hz2)))))
        go_wp2_with fail
        go_roundg (toks.length - (i + 1))
        case measure => omega
        case rel => exact ⟨i + 1, rfl, by omega, by go_num, Lib.hid (Ext.drewN HX.out _)⟩
      · go_wp2_with fail
        refine (awakeL _).mono ?_
        rintro e2 w2 ⟨rfl, hx2⟩
        have HV2 := Lib.hid (tokRow_ext (tokRow_ext HV.out HX.out) hx2)
        have HX2 := Lib.hid ((HX1.out.trans HX.out).trans hx2); clear hx2
        go_wp2_with fail
        refine (joinL _ toks _ _ HV2.out (by omega) (by rw [HJ.out]; omega)).mono ?_
        rintro e3 w3 ⟨rfl, hx3⟩
        rw [HJ.out]
        have HX3 := Lib.hid (HX2.out.trans hx3); clear hx3
        have hll : (l == l) = true := by simp
        go_wp2_with fail
        refine (triviaL _ _ _ (by omega)).mono ?_
        rintro e4 w4 ⟨rfl, rfl⟩
        rw [HT.out]
        go_wp2
        go_ret
        exact ⟨rfl, HX3.out⟩
end Go.Proofs.Ytoknigfjgoaoaaa
