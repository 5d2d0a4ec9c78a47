/- Contracts of the functions that the law reaches, part 6. -/
import Derived.Test.YtiknldgpnhikhaaGreatPr5
set_option linter.unusedVariables false
set_option linter.unusedSimpArgs false
namespace Go.Proofs.YtiknldgpnhikhaaGreat
open Go.RowKit Lx Sx
set_option maxRecDepth 100000
set_option maxHeartbeats 4000000
theorem bS (m : Nat) (p0 : (List GSemvcsref02Piece)) (p1 : Tree) (r0 : (List GSemvcsref02Piece)) (h : ((p1.kind = 17) → ∃ (t19_1 : Tree), p1.kids[0]? = some t19_1 ∧ ∃ (r19_2 : (List GSemvcsref02Piece)), az p0 t19_1 r19_2 ∧ r19_2 = r0) ∧ ((p1.kind ≠ 17) → jg m p0 p1 r0)) : i3 (m + 1) p0 p1 r0 := by
 intro K hK
 refine gR 6 rfl ?_
 refine gB 224 rfl rfl rfl (fun hd => ?_) (fun hd => ?_)
 refine gT 225 rfl hd rfl ?_
 replace hd := (eq_of_beq hd)
 replace h := h.1 hd
 refine gR 6 rfl ?_
 obtain ⟨t19_1, hxt19_1, h⟩ := h
 refine gY (aP (an hxt19_1) aa rfl rfl rfl rfl) rfl rfl ?_
 refine gR 1 rfl ?_
 obtain ⟨r19_2, hs149, h⟩ := h
 refine gC hs149 [0] (by kernel_rfl) rfl rfl .rfl ⟨⟨_, rfl, ⟨rfl, rfl, (am _ GSemvcsref02Piece.w (fun _ => rfl) p0).symm⟩⟩, trivial⟩ rfl ?_
 rintro _ _ ⟨rfl, rfl⟩
 refine gHR 2 (List.map GSemvcsref02Piece.w r19_2) rfl (am _ GSemvcsref02Piece.w (fun _ => rfl) r19_2) rfl ?_
 refine gR 6 rfl ?_
 subst h
 refine ab (F' := (mkF 365 0 [(4, .sl 1)])) (H' := ⟨2, [(1, .row 103 2 (List.map GSemvcsref02Piece.w r19_2))]⟩) [1000, 2] [] rfl hK ⟨⟨_, rfl, .rfl⟩, trivial⟩ ⟨⟨_, rfl, ⟨rfl, rfl, (am _ GSemvcsref02Piece.w (fun _ => rfl) r19_2).symm⟩⟩, trivial⟩ rfl ?_
 exact aB [] aa (rs := [.tmp 4]) rfl rfl ⟨rfl, rfl⟩
 refine gF 225 rfl hd rfl ?_
 replace hd := (ne_of_beq_false hd)
 replace h := h.2 hd
 refine gR 1 rfl ?_
 exact gJ (h K hK) [0] [] rfl hK ⟨⟨_, rfl, .rfl⟩, ⟨_, rfl, .rfl⟩, ⟨_, rfl, .rfl⟩, ⟨_, rfl, .rfl⟩, trivial⟩ ⟨⟨_, rfl, ⟨rfl, rfl, (am _ GSemvcsref02Piece.w (fun _ => rfl) p0).symm⟩⟩, trivial⟩ rfl
theorem cd (m : Nat) (p0 : (List GSemvcsref02Piece)) (p1 : Tree) (r0 : (List GSemvcsref02Piece)) (h : ((p1.kind = 18) → i2 m p0 p1 r0) ∧ ((p1.kind ≠ 18) → iX m p0 p1 r0)) : jg (m + 1) p0 p1 r0 := by
 intro K hK
 refine gR 6 rfl ?_
 refine gB 232 rfl rfl rfl (fun hd => ?_) (fun hd => ?_)
 refine gT 233 rfl hd rfl ?_
 replace hd := (eq_of_beq hd)
 replace h := h.1 hd
 refine gR 1 rfl ?_
 exact gJ (h K hK) [0] [] rfl hK ⟨⟨_, rfl, .rfl⟩, ⟨_, rfl, .rfl⟩, ⟨_, rfl, .rfl⟩, trivial⟩ ⟨⟨_, rfl, ⟨rfl, rfl, (am _ GSemvcsref02Piece.w (fun _ => rfl) p0).symm⟩⟩, trivial⟩ rfl
 refine gF 233 rfl hd rfl ?_
 replace hd := (ne_of_beq_false hd)
 replace h := h.2 hd
 refine gR 1 rfl ?_
 exact gJ (h K hK) [0] [] rfl hK ⟨⟨_, rfl, .rfl⟩, ⟨_, rfl, .rfl⟩, ⟨_, rfl, .rfl⟩, trivial⟩ ⟨⟨_, rfl, ⟨rfl, rfl, (am _ GSemvcsref02Piece.w (fun _ => rfl) p0).symm⟩⟩, trivial⟩ rfl
theorem mL (m : Nat) (p0 : (List GSemvcsref02Piece)) (p1 : Tree) (r0 : (List GSemvcsref02Piece)) (h : ∃ (s21_1 : (List UInt8)), ai p1 0 s21_1 ∧ (p0 ++ [(GSemvcsref02Piece.mk s21_1 [91])]).length ≤ 1000000000 ∧ ∃ (r21_2 : (List GSemvcsref02Piece)), dF (p0 ++ [(GSemvcsref02Piece.mk s21_1 [91])]) p1 0 ((p1.kids.length : Nat) : Int) 2 r21_2 ∧ ∃ (s21_3 : (List UInt8)), ai p1 1 s21_3 ∧ (r21_2 ++ [(GSemvcsref02Piece.mk s21_3 [93])]).length ≤ 1000000000 ∧ (r21_2 ++ [(GSemvcsref02Piece.mk s21_3 [93])]) = r0) : i2 (m + 1) p0 p1 r0 := by
 intro K hK
 refine gR 4 rfl ?_
 obtain ⟨s21_1, hs150, h⟩ := h
 refine gC0 hs150 (by kernel_rfl) rfl rfl .rfl rfl ?_
 refine gR 2 rfl ?_
 obtain ⟨hb, h⟩ := h
 refine gDo (.repl 0 (.row 103 2 (List.map GSemvcsref02Piece.w (p0 ++ [(GSemvcsref02Piece.mk s21_1 [91])])))) (bL aa rfl rfl rfl rfl rfl (apM GSemvcsref02Piece.w p0 (GSemvcsref02Piece.mk s21_1 [91])) (by rw [aV]; exact hb)) (okR rfl) rfl rfl rfl ?_
 refine gR 4 rfl ?_
 refine gDs [] 10 10 rfl (by kernel_rfl) (by kernel_rfl) ?_
 refine gDr [(0, 2), (1, 2), (2, 2), (4, 2)] (by kernel_rfl) rfl rfl ?_
 obtain ⟨r21_2, hs151, h⟩ := h
 refine gDC 3 hs151 [2] (by kernel_rfl) rfl (by kernel_rfl) rfl rfl .rfl ⟨⟨_, rfl, ⟨rfl, rfl, (am _ GSemvcsref02Piece.w (fun _ => rfl) (p0 ++ [(GSemvcsref02Piece.mk s21_1 [91])])).symm⟩⟩, trivial⟩ (by kernel_rfl) rfl ?_
 rintro _ _ ⟨rfl, rfl⟩
 refine gHR 4 (List.map GSemvcsref02Piece.w r21_2) rfl (am _ GSemvcsref02Piece.w (fun _ => rfl) r21_2) rfl ?_
 obtain ⟨s21_3, hs152, h⟩ := h
 refine bH 5 hs152 (by kernel_rfl) rfl (by kernel_rfl) rfl rfl .rfl rfl rfl ?_
 refine gDr [(6, 0), (7, 0)] (by kernel_rfl) rfl rfl ?_
 obtain ⟨hb, h⟩ := h
 refine cQ 8 (.repl 4 (.row 103 2 (List.map GSemvcsref02Piece.w (r21_2 ++ [(GSemvcsref02Piece.mk s21_3 [93])])))) rfl (by kernel_rfl) (bL aa rfl rfl rfl rfl rfl (apM GSemvcsref02Piece.w r21_2 (GSemvcsref02Piece.mk s21_3 [93])) (by rw [aV]; exact hb)) (okR rfl) rfl (by kernel_rfl) rfl rfl ?_
 refine gDr [(9, 0)] (by kernel_rfl) rfl rfl ?_
 refine gDe (by kernel_rfl) ?_
 refine gR 4 rfl ?_
 subst h
 refine ab (F' := (mkF 365 0 [(4, .sl 1)])) (H' := ⟨2, [(1, .row 103 2 (List.map GSemvcsref02Piece.w (r21_2 ++ [(GSemvcsref02Piece.mk s21_3 [93])])))]⟩) [1000, 6] [] rfl hK ⟨⟨_, rfl, .rfl⟩, trivial⟩ ⟨⟨_, rfl, ⟨rfl, rfl, (am _ GSemvcsref02Piece.w (fun _ => rfl) (r21_2 ++ [(GSemvcsref02Piece.mk s21_3 [93])])).symm⟩⟩, trivial⟩ rfl ?_
 exact aB [] aa (rs := [.tmp 4]) rfl rfl ⟨rfl, rfl⟩
theorem cM (m : Nat) (p0 : (List GSemvcsref02Piece)) (p1 : Tree) (r0 : (List GSemvcsref02Piece)) (h : ((p1.kind = 19) → jd m p0 p1 r0) ∧ ((p1.kind ≠ 19) → jl m p0 p1 r0)) : iX (m + 1) p0 p1 r0 := by
 intro K hK
 refine gR 6 rfl ?_
 refine gB 249 rfl rfl rfl (fun hd => ?_) (fun hd => ?_)
 refine gT 250 rfl hd rfl ?_
 replace hd := (eq_of_beq hd)
 replace h := h.1 hd
 refine gR 1 rfl ?_
 exact gJ (h K hK) [0] [] rfl hK ⟨⟨_, rfl, .rfl⟩, ⟨_, rfl, .rfl⟩, trivial⟩ ⟨⟨_, rfl, ⟨rfl, rfl, (am _ GSemvcsref02Piece.w (fun _ => rfl) p0).symm⟩⟩, trivial⟩ rfl
 refine gF 250 rfl hd rfl ?_
 replace hd := (ne_of_beq_false hd)
 replace h := h.2 hd
 refine gR 1 rfl ?_
 exact gJ (h K hK) [0] [] rfl hK ⟨⟨_, rfl, .rfl⟩, ⟨_, rfl, .rfl⟩, ⟨_, rfl, .rfl⟩, trivial⟩ ⟨⟨_, rfl, ⟨rfl, rfl, (am _ GSemvcsref02Piece.w (fun _ => rfl) p0).symm⟩⟩, trivial⟩ rfl
theorem mF (m : Nat) (p0 : (List GSemvcsref02Piece)) (p1 : Tree) (r0 : (List GSemvcsref02Piece)) (h : ∃ (t23_1 : Tree), p1.kids[0]? = some t23_1 ∧ ∃ (s23_2 : (List UInt8)), ai p1 0 s23_2 ∧ (p0 ++ [(GSemvcsref02Piece.mk s23_2 [105, 102])]).length ≤ 1000000000 ∧ ∃ (r23_3 : (List GSemvcsref02Piece)), az (p0 ++ [(GSemvcsref02Piece.mk s23_2 [105, 102])]) t23_1 r23_3 ∧ ∃ (t23_4 : Tree), p1.kids[1]? = some t23_4 ∧ ∃ (s23_5 : (List UInt8)), ai p1 1 s23_5 ∧ (r23_3 ++ [(GSemvcsref02Piece.mk s23_5 [116, 104, 101, 110])]).length ≤ 1000000000 ∧ ∃ (r23_6 : (List GSemvcsref02Piece)), az (r23_3 ++ [(GSemvcsref02Piece.mk s23_5 [116, 104, 101, 110])]) t23_4 r23_6 ∧ ∃ (t23_7 : Tree), p1.kids[2]? = some t23_7 ∧ ∃ (s23_8 : (List UInt8)), ai p1 2 s23_8 ∧ (r23_6 ++ [(GSemvcsref02Piece.mk s23_8 [101, 108, 115, 101])]).length ≤ 1000000000 ∧ ∃ (r23_9 : (List GSemvcsref02Piece)), az (r23_6 ++ [(GSemvcsref02Piece.mk s23_8 [101, 108, 115, 101])]) t23_7 r23_9 ∧ r23_9 = r0) : jd (m + 1) p0 p1 r0 := by
 intro K hK
 refine gR 1 rfl ?_
 refine gDs [] 12 12 rfl (by kernel_rfl) (by kernel_rfl) ?_
 refine gDr [(0, 2), (1, 2), (6, 2), (7, 2)] (by kernel_rfl) rfl rfl ?_
 obtain ⟨t23_1, hxt23_1, h⟩ := h
 refine gYd 8 rfl (by kernel_rfl) (aP (an hxt23_1) aa rfl rfl rfl rfl) rfl rfl ?_
 refine gDr [(9, 2)] (by kernel_rfl) rfl rfl ?_
 obtain ⟨s23_2, hs153, h⟩ := h
 refine bH 2 hs153 (by kernel_rfl) rfl (by kernel_rfl) rfl rfl .rfl rfl rfl ?_
 refine gDr [(3, 0), (4, 0)] (by kernel_rfl) rfl rfl ?_
 obtain ⟨hb, h⟩ := h
 refine cQ 5 (.repl 0 (.row 103 2 (List.map GSemvcsref02Piece.w (p0 ++ [(GSemvcsref02Piece.mk s23_2 [105, 102])])))) rfl (by kernel_rfl) (bL aa rfl rfl rfl rfl rfl (apM GSemvcsref02Piece.w p0 (GSemvcsref02Piece.mk s23_2 [105, 102])) (by rw [aV]; exact hb)) (okR rfl) rfl (by kernel_rfl) rfl rfl ?_
 obtain ⟨r23_3, hs154, h⟩ := h
 refine gDC 10 hs154 [2] (by kernel_rfl) rfl (by kernel_rfl) rfl rfl .rfl ⟨⟨_, rfl, ⟨rfl, rfl, (am _ GSemvcsref02Piece.w (fun _ => rfl) (p0 ++ [(GSemvcsref02Piece.mk s23_2 [105, 102])])).symm⟩⟩, trivial⟩ (by kernel_rfl) rfl ?_
 rintro _ _ ⟨rfl, rfl⟩
 refine gHR 4 (List.map GSemvcsref02Piece.w r23_3) rfl (am _ GSemvcsref02Piece.w (fun _ => rfl) r23_3) rfl ?_
 refine gDr [(11, 0)] (by kernel_rfl) rfl rfl ?_
 refine gDe (by kernel_rfl) ?_
 refine gR 2 rfl ?_
 refine gDs [] 12 12 rfl (by kernel_rfl) (by kernel_rfl) ?_
 refine gDr [(0, 2), (1, 2), (6, 2), (7, 2)] (by kernel_rfl) rfl rfl ?_
 obtain ⟨t23_4, hxt23_4, h⟩ := h
 refine gYd 8 rfl (by kernel_rfl) (aP (an hxt23_4) aa rfl rfl rfl rfl) rfl rfl ?_
 refine gDr [(9, 2)] (by kernel_rfl) rfl rfl ?_
 obtain ⟨s23_5, hs155, h⟩ := h
 refine bH 2 hs155 (by kernel_rfl) rfl (by kernel_rfl) rfl rfl .rfl rfl rfl ?_
 refine gDr [(3, 0), (4, 0)] (by kernel_rfl) rfl rfl ?_
 obtain ⟨hb, h⟩ := h
 refine cQ 5 (.repl 4 (.row 103 2 (List.map GSemvcsref02Piece.w (r23_3 ++ [(GSemvcsref02Piece.mk s23_5 [116, 104, 101, 110])])))) rfl (by kernel_rfl) (bL aa rfl rfl rfl rfl rfl (apM GSemvcsref02Piece.w r23_3 (GSemvcsref02Piece.mk s23_5 [116, 104, 101, 110])) (by rw [aV]; exact hb)) (okR rfl) rfl (by kernel_rfl) rfl rfl ?_
 obtain ⟨r23_6, hs156, h⟩ := h
 refine gDC 10 hs156 [6] (by kernel_rfl) rfl (by kernel_rfl) rfl rfl .rfl ⟨⟨_, rfl, ⟨rfl, rfl, (am _ GSemvcsref02Piece.w (fun _ => rfl) (r23_3 ++ [(GSemvcsref02Piece.mk s23_5 [116, 104, 101, 110])])).symm⟩⟩, trivial⟩ (by kernel_rfl) rfl ?_
 rintro _ _ ⟨rfl, rfl⟩
 refine gHR 8 (List.map GSemvcsref02Piece.w r23_6) rfl (am _ GSemvcsref02Piece.w (fun _ => rfl) r23_6) rfl ?_
 refine gDr [(11, 0)] (by kernel_rfl) rfl rfl ?_
 refine gDe (by kernel_rfl) ?_
 refine gR 2 rfl ?_
 refine gDs [] 12 12 rfl (by kernel_rfl) (by kernel_rfl) ?_
 refine gDr [(0, 2), (1, 2), (6, 2), (7, 2)] (by kernel_rfl) rfl rfl ?_
 obtain ⟨t23_7, hxt23_7, h⟩ := h
 refine gYd 8 rfl (by kernel_rfl) (aP (an hxt23_7) aa rfl rfl rfl rfl) rfl rfl ?_
 refine gDr [(9, 2)] (by kernel_rfl) rfl rfl ?_
 obtain ⟨s23_8, hs157, h⟩ := h
 refine bH 2 hs157 (by kernel_rfl) rfl (by kernel_rfl) rfl rfl .rfl rfl rfl ?_
 refine gDr [(3, 0), (4, 0)] (by kernel_rfl) rfl rfl ?_
 obtain ⟨hb, h⟩ := h
 refine cQ 5 (.repl 8 (.row 103 2 (List.map GSemvcsref02Piece.w (r23_6 ++ [(GSemvcsref02Piece.mk s23_8 [101, 108, 115, 101])])))) rfl (by kernel_rfl) (bL aa rfl rfl rfl rfl rfl (apM GSemvcsref02Piece.w r23_6 (GSemvcsref02Piece.mk s23_8 [101, 108, 115, 101])) (by rw [aV]; exact hb)) (okR rfl) rfl (by kernel_rfl) rfl rfl ?_
 obtain ⟨r23_9, hs158, h⟩ := h
 refine gDC 10 hs158 [10] (by kernel_rfl) rfl (by kernel_rfl) rfl rfl .rfl ⟨⟨_, rfl, ⟨rfl, rfl, (am _ GSemvcsref02Piece.w (fun _ => rfl) (r23_6 ++ [(GSemvcsref02Piece.mk s23_8 [101, 108, 115, 101])])).symm⟩⟩, trivial⟩ (by kernel_rfl) rfl ?_
 rintro _ _ ⟨rfl, rfl⟩
 refine gHR 12 (List.map GSemvcsref02Piece.w r23_9) rfl (am _ GSemvcsref02Piece.w (fun _ => rfl) r23_9) rfl ?_
 refine gDr [(11, 0)] (by kernel_rfl) rfl rfl ?_
 refine gDe (by kernel_rfl) ?_
 refine gR 4 rfl ?_
 subst h
 refine ab (F' := (mkF 365 0 [(4, .sl 1)])) (H' := ⟨2, [(1, .row 103 2 (List.map GSemvcsref02Piece.w r23_9))]⟩) [1000, 12] [] rfl hK ⟨⟨_, rfl, .rfl⟩, trivial⟩ ⟨⟨_, rfl, ⟨rfl, rfl, (am _ GSemvcsref02Piece.w (fun _ => rfl) r23_9).symm⟩⟩, trivial⟩ rfl ?_
 exact aB [] aa (rs := [.tmp 4]) rfl rfl ⟨rfl, rfl⟩
theorem dM (m : Nat) (p0 : (List GSemvcsref02Piece)) (p1 : Tree) (r0 : (List GSemvcsref02Piece)) (h : ((p1.kind = 20) → i6 m p0 p1 r0) ∧ ((p1.kind ≠ 20) → jo m p0 p1 r0)) : jl (m + 1) p0 p1 r0 := by
 intro K hK
 refine gR 6 rfl ?_
 refine gB 284 rfl rfl rfl (fun hd => ?_) (fun hd => ?_)
 refine gT 285 rfl hd rfl ?_
 replace hd := (eq_of_beq hd)
 replace h := h.1 hd
 refine gR 1 rfl ?_
 exact gJ (h K hK) [0] [] rfl hK ⟨⟨_, rfl, .rfl⟩, ⟨_, rfl, .rfl⟩, trivial⟩ ⟨⟨_, rfl, ⟨rfl, rfl, (am _ GSemvcsref02Piece.w (fun _ => rfl) p0).symm⟩⟩, trivial⟩ rfl
 refine gF 285 rfl hd rfl ?_
 replace hd := (ne_of_beq_false hd)
 replace h := h.2 hd
 refine gR 1 rfl ?_
 exact gJ (h K hK) [0] [] rfl hK ⟨⟨_, rfl, .rfl⟩, ⟨_, rfl, .rfl⟩, ⟨_, rfl, .rfl⟩, trivial⟩ ⟨⟨_, rfl, ⟨rfl, rfl, (am _ GSemvcsref02Piece.w (fun _ => rfl) p0).symm⟩⟩, trivial⟩ rfl
theorem mJ (m : Nat) (p0 : (List GSemvcsref02Piece)) (p1 : Tree) (r0 : (List GSemvcsref02Piece)) (h : ∃ (s25_1 : (List UInt8)), ai p1 0 s25_1 ∧ ∃ (s25_2 : (List UInt8)), ai p1 1 s25_2 ∧ ∃ (s25_3 : (List UInt8)), ai p1 2 s25_3 ∧ (p0 ++ [(GSemvcsref02Piece.mk s25_1 [108, 101, 116]), (GSemvcsref02Piece.mk s25_2 p1.text), (GSemvcsref02Piece.mk s25_3 [61])]).length ≤ 1000000000 ∧ ∃ (t25_4 : Tree), p1.kids[0]? = some t25_4 ∧ ∃ (r25_5 : (List GSemvcsref02Piece)), az (p0 ++ [(GSemvcsref02Piece.mk s25_1 [108, 101, 116]), (GSemvcsref02Piece.mk s25_2 p1.text), (GSemvcsref02Piece.mk s25_3 [61])]) t25_4 r25_5 ∧ ∃ (s25_6 : (List UInt8)), ai p1 3 s25_6 ∧ (r25_5 ++ [(GSemvcsref02Piece.mk s25_6 [105, 110])]).length ≤ 1000000000 ∧ ∃ (t25_7 : Tree), p1.kids[1]? = some t25_7 ∧ ∃ (r25_8 : (List GSemvcsref02Piece)), az (r25_5 ++ [(GSemvcsref02Piece.mk s25_6 [105, 110])]) t25_7 r25_8 ∧ r25_8 = r0) : i6 (m + 1) p0 p1 r0 := by
 intro K hK
 refine gR 1 rfl ?_
 refine gDs [] 15 15 rfl (by kernel_rfl) (by kernel_rfl) ?_
 refine gDr [(0, 2), (1, 2), (4, 2), (6, 2), (7, 2), (9, 2)] (by kernel_rfl) rfl rfl ?_
 obtain ⟨s25_1, hs159, h⟩ := h
 refine bH 2 hs159 (by kernel_rfl) rfl (by kernel_rfl) rfl rfl .rfl rfl rfl ?_
 refine gDr [(3, 2)] (by kernel_rfl) rfl rfl ?_
 obtain ⟨s25_2, hs160, h⟩ := h
 refine bH 5 hs160 (by kernel_rfl) rfl (by kernel_rfl) rfl rfl .rfl rfl rfl ?_
 refine gDr [(8, 2)] (by kernel_rfl) rfl rfl ?_
 obtain ⟨s25_3, hs161, h⟩ := h
 refine bH 10 hs161 (by kernel_rfl) rfl (by kernel_rfl) rfl rfl .rfl rfl rfl ?_
 refine gDr [(11, 0), (12, 0)] (by kernel_rfl) rfl rfl ?_
 obtain ⟨hb, h⟩ := h
 refine cQ 13 (.repl 0 (.row 103 2 (List.map GSemvcsref02Piece.w (p0 ++ [(GSemvcsref02Piece.mk s25_1 [108, 101, 116]), (GSemvcsref02Piece.mk s25_2 p1.text), (GSemvcsref02Piece.mk s25_3 [61])])))) rfl (by kernel_rfl) (bL aa rfl rfl rfl rfl rfl (List.map_append (f := GSemvcsref02Piece.w) (l₁ := p0) (l₂ := [(GSemvcsref02Piece.mk s25_1 [108, 101, 116]), (GSemvcsref02Piece.mk s25_2 p1.text), (GSemvcsref02Piece.mk s25_3 [61])])).symm (by rw [aV]; exact hb)) (okR rfl) rfl (by kernel_rfl) rfl rfl ?_
 refine gDr [(14, 0)] (by kernel_rfl) rfl rfl ?_
 refine gDe (by kernel_rfl) ?_
 refine gR 2 rfl ?_
 refine gDs [] 12 12 rfl (by kernel_rfl) (by kernel_rfl) ?_
 refine gDr [(0, 2), (1, 2), (2, 2)] (by kernel_rfl) rfl rfl ?_
 obtain ⟨t25_4, hxt25_4, h⟩ := h
 refine gYd 3 rfl (by kernel_rfl) (aP (an hxt25_4) aa rfl rfl rfl rfl) rfl rfl ?_
 refine gDr [(4, 2), (6, 2)] (by kernel_rfl) rfl rfl ?_
 obtain ⟨r25_5, hs162, h⟩ := h
 refine gDC 5 hs162 [2] (by kernel_rfl) rfl (by kernel_rfl) rfl rfl .rfl ⟨⟨_, rfl, ⟨rfl, rfl, (am _ GSemvcsref02Piece.w (fun _ => rfl) (p0 ++ [(GSemvcsref02Piece.mk s25_1 [108, 101, 116]), (GSemvcsref02Piece.mk s25_2 p1.text), (GSemvcsref02Piece.mk s25_3 [61])])).symm⟩⟩, trivial⟩ (by kernel_rfl) rfl ?_
 rintro _ _ ⟨rfl, rfl⟩
 refine gHR 4 (List.map GSemvcsref02Piece.w r25_5) rfl (am _ GSemvcsref02Piece.w (fun _ => rfl) r25_5) rfl ?_
 obtain ⟨s25_6, hs163, h⟩ := h
 refine bH 7 hs163 (by kernel_rfl) rfl (by kernel_rfl) rfl rfl .rfl rfl rfl ?_
 refine gDr [(8, 0), (9, 0)] (by kernel_rfl) rfl rfl ?_
 obtain ⟨hb, h⟩ := h
 refine cQ 10 (.repl 4 (.row 103 2 (List.map GSemvcsref02Piece.w (r25_5 ++ [(GSemvcsref02Piece.mk s25_6 [105, 110])])))) rfl (by kernel_rfl) (bL aa rfl rfl rfl rfl rfl (apM GSemvcsref02Piece.w r25_5 (GSemvcsref02Piece.mk s25_6 [105, 110])) (by rw [aV]; exact hb)) (okR rfl) rfl (by kernel_rfl) rfl rfl ?_
 refine gDr [(11, 0)] (by kernel_rfl) rfl rfl ?_
 refine gDe (by kernel_rfl) ?_
 refine gR 6 rfl ?_
 obtain ⟨t25_7, hxt25_7, h⟩ := h
 refine gY (aP (an hxt25_7) aa rfl rfl rfl rfl) rfl rfl ?_
 refine gR 1 rfl ?_
 obtain ⟨r25_8, hs164, h⟩ := h
 refine gC hs164 [6] (by kernel_rfl) rfl rfl .rfl ⟨⟨_, rfl, ⟨rfl, rfl, (am _ GSemvcsref02Piece.w (fun _ => rfl) (r25_5 ++ [(GSemvcsref02Piece.mk s25_6 [105, 110])])).symm⟩⟩, trivial⟩ rfl ?_
 rintro _ _ ⟨rfl, rfl⟩
 refine gHR 8 (List.map GSemvcsref02Piece.w r25_8) rfl (am _ GSemvcsref02Piece.w (fun _ => rfl) r25_8) rfl ?_
 refine gR 6 rfl ?_
 subst h
 refine ab (F' := (mkF 365 0 [(4, .sl 1)])) (H' := ⟨2, [(1, .row 103 2 (List.map GSemvcsref02Piece.w r25_8))]⟩) [1000, 8] [] rfl hK ⟨⟨_, rfl, .rfl⟩, trivial⟩ ⟨⟨_, rfl, ⟨rfl, rfl, (am _ GSemvcsref02Piece.w (fun _ => rfl) r25_8).symm⟩⟩, trivial⟩ rfl ?_
 exact aB [] aa (rs := [.tmp 4]) rfl rfl ⟨rfl, rfl⟩
theorem fy (m : Nat) (p0 : (List GSemvcsref02Piece)) (p1 : Tree) (r0 : (List GSemvcsref02Piece)) (h : ((p1.kind = 21) → i9 m p0 p1 r0) ∧ ((p1.kind ≠ 21) → ja m p0 p1 r0)) : jo (m + 1) p0 p1 r0 := by
 intro K hK
 refine gR 6 rfl ?_
 refine gB 317 rfl rfl rfl (fun hd => ?_) (fun hd => ?_)
 refine gT 318 rfl hd rfl ?_
 replace hd := (eq_of_beq hd)
 replace h := h.1 hd
 refine gR 1 rfl ?_
 exact gJ (h K hK) [0] [] rfl hK ⟨⟨_, rfl, .rfl⟩, ⟨_, rfl, .rfl⟩, trivial⟩ ⟨⟨_, rfl, ⟨rfl, rfl, (am _ GSemvcsref02Piece.w (fun _ => rfl) p0).symm⟩⟩, trivial⟩ rfl
 refine gF 318 rfl hd rfl ?_
 replace hd := (ne_of_beq_false hd)
 replace h := h.2 hd
 refine gR 1 rfl ?_
 exact gJ (h K hK) [0] [] rfl hK ⟨⟨_, rfl, .rfl⟩, ⟨_, rfl, .rfl⟩, ⟨_, rfl, .rfl⟩, trivial⟩ ⟨⟨_, rfl, ⟨rfl, rfl, (am _ GSemvcsref02Piece.w (fun _ => rfl) p0).symm⟩⟩, trivial⟩ rfl
theorem mM (m : Nat) (p0 : (List GSemvcsref02Piece)) (p1 : Tree) (r0 : (List GSemvcsref02Piece)) (h : ∃ (t27_1 : Tree), p1.kids[0]? = some t27_1 ∧ ∃ (r27_2 : (List GSemvcsref02Piece)), az p0 t27_1 r27_2 ∧ ∃ (s27_3 : (List UInt8)), ai p1 0 s27_3 ∧ (r27_2 ++ [(GSemvcsref02Piece.mk s27_3 p1.text)]).length ≤ 1000000000 ∧ ∃ (t27_4 : Tree), p1.kids[1]? = some t27_4 ∧ ∃ (r27_5 : (List GSemvcsref02Piece)), az (r27_2 ++ [(GSemvcsref02Piece.mk s27_3 p1.text)]) t27_4 r27_5 ∧ r27_5 = r0) : i9 (m + 1) p0 p1 r0 := by
 intro K hK
 refine gR 1 rfl ?_
 refine gDs [] 14 14 rfl (by kernel_rfl) (by kernel_rfl) ?_
 refine gDr [(0, 2), (1, 2), (2, 2)] (by kernel_rfl) rfl rfl ?_
 obtain ⟨t27_1, hxt27_1, h⟩ := h
 refine gYd 3 rfl (by kernel_rfl) (aP (an hxt27_1) aa rfl rfl rfl rfl) rfl rfl ?_
 refine gDr [(4, 2), (6, 2), (8, 2), (9, 2)] (by kernel_rfl) rfl rfl ?_
 obtain ⟨r27_2, hs165, h⟩ := h
 refine gDC 5 hs165 [0] (by kernel_rfl) rfl (by kernel_rfl) rfl rfl .rfl ⟨⟨_, rfl, ⟨rfl, rfl, (am _ GSemvcsref02Piece.w (fun _ => rfl) p0).symm⟩⟩, trivial⟩ (by kernel_rfl) rfl ?_
 rintro _ _ ⟨rfl, rfl⟩
 refine gHR 2 (List.map GSemvcsref02Piece.w r27_2) rfl (am _ GSemvcsref02Piece.w (fun _ => rfl) r27_2) rfl ?_
 obtain ⟨s27_3, hs166, h⟩ := h
 refine bH 7 hs166 (by kernel_rfl) rfl (by kernel_rfl) rfl rfl .rfl rfl rfl ?_
 refine gDr [(10, 0), (11, 0)] (by kernel_rfl) rfl rfl ?_
 obtain ⟨hb, h⟩ := h
 refine cQ 12 (.repl 2 (.row 103 2 (List.map GSemvcsref02Piece.w (r27_2 ++ [(GSemvcsref02Piece.mk s27_3 p1.text)])))) rfl (by kernel_rfl) (bL aa rfl rfl rfl rfl rfl (apM GSemvcsref02Piece.w r27_2 (GSemvcsref02Piece.mk s27_3 p1.text)) (by rw [aV]; exact hb)) (okR rfl) rfl (by kernel_rfl) rfl rfl ?_
 refine gDr [(13, 0)] (by kernel_rfl) rfl rfl ?_
 refine gDe (by kernel_rfl) ?_
 refine gR 6 rfl ?_
 obtain ⟨t27_4, hxt27_4, h⟩ := h
 refine gY (aP (an hxt27_4) aa rfl rfl rfl rfl) rfl rfl ?_
 refine gR 1 rfl ?_
 obtain ⟨r27_5, hs167, h⟩ := h
 refine gC hs167 [4] (by kernel_rfl) rfl rfl .rfl ⟨⟨_, rfl, ⟨rfl, rfl, (am _ GSemvcsref02Piece.w (fun _ => rfl) (r27_2 ++ [(GSemvcsref02Piece.mk s27_3 p1.text)])).symm⟩⟩, trivial⟩ rfl ?_
 rintro _ _ ⟨rfl, rfl⟩
 refine gHR 6 (List.map GSemvcsref02Piece.w r27_5) rfl (am _ GSemvcsref02Piece.w (fun _ => rfl) r27_5) rfl ?_
 refine gR 6 rfl ?_
 subst h
 refine ab (F' := (mkF 365 0 [(4, .sl 1)])) (H' := ⟨2, [(1, .row 103 2 (List.map GSemvcsref02Piece.w r27_5))]⟩) [1000, 6] [] rfl hK ⟨⟨_, rfl, .rfl⟩, trivial⟩ ⟨⟨_, rfl, ⟨rfl, rfl, (am _ GSemvcsref02Piece.w (fun _ => rfl) r27_5).symm⟩⟩, trivial⟩ rfl ?_
 exact aB [] aa (rs := [.tmp 4]) rfl rfl ⟨rfl, rfl⟩
theorem iN (m : Nat) (p0 : (List GSemvcsref02Piece)) (p1 : Tree) (r0 : (List GSemvcsref02Piece)) (h : ((p1.kind = 22) → i8 m p0 p1 r0) ∧ ((p1.kind ≠ 22) → ∃ (s28_1 : (List UInt8)), ai p1 0 s28_1 ∧ (p0 ++ [(GSemvcsref02Piece.mk s28_1 p1.text)]).length ≤ 1000000000 ∧ (p0 ++ [(GSemvcsref02Piece.mk s28_1 p1.text)]) = r0)) : ja (m + 1) p0 p1 r0 := by
 intro K hK
 refine gR 6 rfl ?_
 refine gB 338 rfl rfl rfl (fun hd => ?_) (fun hd => ?_)
 refine gT 339 rfl hd rfl ?_
 replace hd := (eq_of_beq hd)
 replace h := h.1 hd
 refine gR 1 rfl ?_
 exact gJ (h K hK) [0] [] rfl hK ⟨⟨_, rfl, .rfl⟩, ⟨_, rfl, .rfl⟩, trivial⟩ ⟨⟨_, rfl, ⟨rfl, rfl, (am _ GSemvcsref02Piece.w (fun _ => rfl) p0).symm⟩⟩, trivial⟩ rfl
 refine gF 339 rfl hd rfl ?_
 replace hd := (ne_of_beq_false hd)
 replace h := h.2 hd
 refine gR 5 rfl ?_
 refine gDs [] 9 9 rfl (by kernel_rfl) (by kernel_rfl) ?_
 refine gDr [(0, 2), (1, 2), (3, 2), (4, 2)] (by kernel_rfl) rfl rfl ?_
 obtain ⟨s28_1, hs168, h⟩ := h
 refine bH 2 hs168 (by kernel_rfl) rfl (by kernel_rfl) rfl rfl .rfl rfl rfl ?_
 refine gDr [(5, 0), (6, 0)] (by kernel_rfl) rfl rfl ?_
 obtain ⟨hb, h⟩ := h
 refine cQ 7 (.repl 0 (.row 103 2 (List.map GSemvcsref02Piece.w (p0 ++ [(GSemvcsref02Piece.mk s28_1 p1.text)])))) rfl (by kernel_rfl) (bL aa rfl rfl rfl rfl rfl (apM GSemvcsref02Piece.w p0 (GSemvcsref02Piece.mk s28_1 p1.text)) (by rw [aV]; exact hb)) (okR rfl) rfl (by kernel_rfl) rfl rfl ?_
 refine gDr [(8, 0)] (by kernel_rfl) rfl rfl ?_
 refine gDe (by kernel_rfl) ?_
 refine gR 2 rfl ?_
 subst h
 refine ab (F' := (mkF 365 0 [(4, .sl 1)])) (H' := ⟨2, [(1, .row 103 2 (List.map GSemvcsref02Piece.w (p0 ++ [(GSemvcsref02Piece.mk s28_1 p1.text)])))]⟩) [1000, 2] [] rfl hK ⟨⟨_, rfl, .rfl⟩, trivial⟩ ⟨⟨_, rfl, ⟨rfl, rfl, (am _ GSemvcsref02Piece.w (fun _ => rfl) (p0 ++ [(GSemvcsref02Piece.mk s28_1 p1.text)])).symm⟩⟩, trivial⟩ rfl ?_
 exact aB [] aa (rs := [.tmp 4]) rfl rfl ⟨rfl, rfl⟩
theorem mH (m : Nat) (p0 : (List GSemvcsref02Piece)) (p1 : Tree) (r0 : (List GSemvcsref02Piece)) (h : ∃ (s29_1 : (List UInt8)), ai p1 0 s29_1 ∧ (p0 ++ [(GSemvcsref02Piece.mk s29_1 [40])]).length ≤ 1000000000 ∧ ∃ (t29_2 : Tree), p1.kids[0]? = some t29_2 ∧ ∃ (r29_3 : (List GSemvcsref02Piece)), az (p0 ++ [(GSemvcsref02Piece.mk s29_1 [40])]) t29_2 r29_3 ∧ ∃ (s29_4 : (List UInt8)), ai p1 1 s29_4 ∧ (r29_3 ++ [(GSemvcsref02Piece.mk s29_4 [41])]).length ≤ 1000000000 ∧ (r29_3 ++ [(GSemvcsref02Piece.mk s29_4 [41])]) = r0) : i8 (m + 1) p0 p1 r0 := by
 intro K hK
 refine gR 4 rfl ?_
 obtain ⟨s29_1, hs169, h⟩ := h
 refine gC0 hs169 (by kernel_rfl) rfl rfl .rfl rfl ?_
 refine gR 2 rfl ?_
 obtain ⟨hb, h⟩ := h
 refine gDo (.repl 0 (.row 103 2 (List.map GSemvcsref02Piece.w (p0 ++ [(GSemvcsref02Piece.mk s29_1 [40])])))) (bL aa rfl rfl rfl rfl rfl (apM GSemvcsref02Piece.w p0 (GSemvcsref02Piece.mk s29_1 [40])) (by rw [aV]; exact hb)) (okR rfl) rfl rfl rfl ?_
 refine gR 4 rfl ?_
 refine gDs [] 12 12 rfl (by kernel_rfl) (by kernel_rfl) ?_
 refine gDr [(0, 2), (1, 2), (2, 2)] (by kernel_rfl) rfl rfl ?_
 obtain ⟨t29_2, hxt29_2, h⟩ := h
 refine gYd 3 rfl (by kernel_rfl) (aP (an hxt29_2) aa rfl rfl rfl rfl) rfl rfl ?_
 refine gDr [(4, 2), (6, 2)] (by kernel_rfl) rfl rfl ?_
 obtain ⟨r29_3, hs170, h⟩ := h
 refine gDC 5 hs170 [2] (by kernel_rfl) rfl (by kernel_rfl) rfl rfl .rfl ⟨⟨_, rfl, ⟨rfl, rfl, (am _ GSemvcsref02Piece.w (fun _ => rfl) (p0 ++ [(GSemvcsref02Piece.mk s29_1 [40])])).symm⟩⟩, trivial⟩ (by kernel_rfl) rfl ?_
 rintro _ _ ⟨rfl, rfl⟩
 refine gHR 4 (List.map GSemvcsref02Piece.w r29_3) rfl (am _ GSemvcsref02Piece.w (fun _ => rfl) r29_3) rfl ?_
 obtain ⟨s29_4, hs171, h⟩ := h
 refine bH 7 hs171 (by kernel_rfl) rfl (by kernel_rfl) rfl rfl .rfl rfl rfl ?_
 refine gDr [(8, 0), (9, 0)] (by kernel_rfl) rfl rfl ?_
 obtain ⟨hb, h⟩ := h
 refine cQ 10 (.repl 4 (.row 103 2 (List.map GSemvcsref02Piece.w (r29_3 ++ [(GSemvcsref02Piece.mk s29_4 [41])])))) rfl (by kernel_rfl) (bL aa rfl rfl rfl rfl rfl (apM GSemvcsref02Piece.w r29_3 (GSemvcsref02Piece.mk s29_4 [41])) (by rw [aV]; exact hb)) (okR rfl) rfl (by kernel_rfl) rfl rfl ?_
 refine gDr [(11, 0)] (by kernel_rfl) rfl rfl ?_
 refine gDe (by kernel_rfl) ?_
 refine gR 4 rfl ?_
 subst h
 refine ab (F' := (mkF 365 0 [(4, .sl 1)])) (H' := ⟨2, [(1, .row 103 2 (List.map GSemvcsref02Piece.w (r29_3 ++ [(GSemvcsref02Piece.mk s29_4 [41])])))]⟩) [1000, 6] [] rfl hK ⟨⟨_, rfl, .rfl⟩, trivial⟩ ⟨⟨_, rfl, ⟨rfl, rfl, (am _ GSemvcsref02Piece.w (fun _ => rfl) (r29_3 ++ [(GSemvcsref02Piece.mk s29_4 [41])])).symm⟩⟩, trivial⟩ rfl ?_
 exact aB [] aa (rs := [.tmp 4]) rfl rfl ⟨rfl, rfl⟩
def eg (m : Nat) (p1 : Tree) (p2 : Int) (p3 : Int) (p4 : Int) (l1v1 : (List GSemvcsref02Piece)) (z1v2 : Int) (r0 : (List GSemvcsref02Piece)) : Prop := ∀ (K : Ctx) (j1 : Nat), au K [] → m ≤ j1 → Go Tryz.prog K (bodyPost Tryz.prog Tryz.f122 (SP K (fun u G => u = .sl 1 ∧ G = ⟨2, [(1, .row 103 2 (List.map GSemvcsref02Piece.w r0))]⟩))) (.code (cL (cK (cB (cA (cB (ae Tryz.f122))))))) [.loop (cL (cK (cB (cA (cB (ae Tryz.f122)))))) j1, .blk 0, .seq (cB (cB (ae Tryz.f122)))] 41 (mkF 41 0 [(0, .sl 0), (2, .int .i64 p2), (3, .int .i64 p3), (4, .int .i64 p4), (6, .box (aj p1) 0), (11, .int .i64 z1v2)]) ⟨1, [(0, .row 103 2 (List.map GSemvcsref02Piece.w l1v1))]⟩
theorem oP (m : Nat) (p0 : (List GSemvcsref02Piece)) (p1 : Tree) (p2 : Int) (p3 : Int) (p4 : Int) (r0 : (List GSemvcsref02Piece)) (h : eg m p1 p2 p3 p4 p0 p2 r0) : dF p0 p1 p2 p3 p4 r0 := by
 refine ak 41 [] Tryz.func122 rfl rfl rfl (aC rfl) fun K hK => ?_
 refine gR 3 rfl ?_
 refine gFP 1 rfl rfl rfl rfl ?_
 refine gR 11 rfl ?_
 refine go_loop m ?_
 exact gJ (h K _ hK (by omega)) [0] [] rfl hK ⟨⟨_, rfl, .rfl⟩, ⟨_, rfl, .rfl⟩, ⟨_, rfl, .rfl⟩, ⟨_, rfl, .rfl⟩, ⟨_, rfl, .rfl⟩, ⟨_, rfl, .rfl⟩, trivial⟩ ⟨⟨_, rfl, ⟨rfl, rfl, (am _ GSemvcsref02Piece.w (fun _ => rfl) p0).symm⟩⟩, trivial⟩ rfl
theorem ft (m : Nat) (p1 : Tree) (p2 : Int) (p3 : Int) (p4 : Int) (l1v1 : (List GSemvcsref02Piece)) (z1v2 : Int) (r0 : (List GSemvcsref02Piece)) (h : ((z1v2 < p3) → ((p2 < z1v2) → InI (p4 + z1v2) ∧ InI ((p4 + z1v2) - p2) ∧ InI (((p4 + z1v2) - p2) - 1) ∧ ∃ (s1_1 : (List UInt8)), ai p1 (((p4 + z1v2) - p2) - 1) s1_1 ∧ (l1v1 ++ [(GSemvcsref02Piece.mk s1_1 [44])]).length ≤ 1000000000 ∧ ∃ (k1_2 : Nat), z1v2 = ((k1_2 : Nat) : Int) ∧ ∃ (t1_3 : Tree), p1.kids[k1_2]? = some t1_3 ∧ ∃ (r1_4 : (List GSemvcsref02Piece)), az (l1v1 ++ [(GSemvcsref02Piece.mk s1_1 [44])]) t1_3 r1_4 ∧ InI (z1v2 + 1) ∧ eg m p1 p2 p3 p4 r1_4 (z1v2 + 1) r0) ∧ ((¬ p2 < z1v2) → ∃ (k1_5 : Nat), z1v2 = ((k1_5 : Nat) : Int) ∧ ∃ (t1_6 : Tree), p1.kids[k1_5]? = some t1_6 ∧ ∃ (r1_7 : (List GSemvcsref02Piece)), az l1v1 t1_6 r1_7 ∧ InI (z1v2 + 1) ∧ eg m p1 p2 p3 p4 r1_7 (z1v2 + 1) r0)) ∧ ((¬ z1v2 < p3) → l1v1 = r0)) : eg (m + 1) p1 p2 p3 p4 l1v1 z1v2 r0 := by
 intro K j1 hK hj1
 obtain ⟨j1, rfl⟩ : ∃ j, j1 = j + 1 := ⟨j1 - 1, by omega⟩
 refine gR 8 rfl ?_
 refine gB 15 rfl rfl rfl (fun hd => ?_) (fun hd => ?_)
 replace hd := (of_decide_eq_true hd)
 replace h := h.1 hd
 refine gR 13 rfl ?_
 refine gB 20 rfl rfl rfl (fun hd => ?_) (fun hd => ?_)
 replace hd := (of_decide_eq_true hd)
 replace h := h.1 hd
 refine gR 6 rfl ?_
 obtain ⟨hb, h⟩ := h
 refine gR 1 rfl ?_
 refine gV 25 (.int .i64 (p4 + z1v2)) rfl (ar hb rfl) rfl ?_
 refine gR 1 rfl ?_
 obtain ⟨hb, h⟩ := h
 refine gR 1 rfl ?_
 refine gV 27 (.int .i64 ((p4 + z1v2) - p2)) rfl (ar hb rfl) rfl ?_
 obtain ⟨hb, h⟩ := h
 refine gR 1 rfl ?_
 refine gV 28 (.int .i64 (((p4 + z1v2) - p2) - 1)) rfl (ar hb rfl) rfl ?_
 obtain ⟨s1_1, hs7, h⟩ := h
 refine gC0 hs7 (by kernel_rfl) rfl rfl .rfl rfl ?_
 refine gR 2 rfl ?_
 obtain ⟨hb, h⟩ := h
 refine gDo (.repl 0 (.row 103 2 (List.map GSemvcsref02Piece.w (l1v1 ++ [(GSemvcsref02Piece.mk s1_1 [44])])))) (bL aa rfl rfl rfl rfl rfl (apM GSemvcsref02Piece.w l1v1 (GSemvcsref02Piece.mk s1_1 [44])) (by rw [aV]; exact hb)) (okR rfl) rfl rfl rfl ?_
 refine gR 8 rfl ?_
 obtain ⟨k1_2, ek1_2, h⟩ := h
 refine gV 36 (.int .i64 ((k1_2 : Nat) : Int)) rfl (dw ek1_2) rfl ?_
 obtain ⟨t1_3, hxt1_3, h⟩ := h
 refine gY (aP (an hxt1_3) aa rfl rfl rfl rfl) rfl rfl ?_
 refine gR 1 rfl ?_
 obtain ⟨r1_4, hs8, h⟩ := h
 refine gC hs8 [2] (by kernel_rfl) rfl rfl .rfl ⟨⟨_, rfl, ⟨rfl, rfl, (am _ GSemvcsref02Piece.w (fun _ => rfl) (l1v1 ++ [(GSemvcsref02Piece.mk s1_1 [44])])).symm⟩⟩, trivial⟩ rfl ?_
 rintro _ _ ⟨rfl, rfl⟩
 refine gHR 4 (List.map GSemvcsref02Piece.w r1_4) rfl (am _ GSemvcsref02Piece.w (fun _ => rfl) r1_4) rfl ?_
 refine gR 6 rfl ?_
 obtain ⟨hb, h⟩ := h
 refine gR 1 rfl ?_
 refine gV 17 (.int .i64 (z1v2 + 1)) rfl (ar hb rfl) rfl ?_
 refine gR 2 rfl ?_
 refine aq ?_
 exact gJ (h K _ hK (by omega)) [4] [] rfl hK ⟨⟨_, rfl, .rfl⟩, ⟨_, rfl, .rfl⟩, ⟨_, rfl, .rfl⟩, ⟨_, rfl, .rfl⟩, ⟨_, rfl, .rfl⟩, ⟨_, rfl, .rfl⟩, trivial⟩ ⟨⟨_, rfl, ⟨rfl, rfl, (am _ GSemvcsref02Piece.w (fun _ => rfl) r1_4).symm⟩⟩, trivial⟩ rfl
 replace hd := (of_decide_eq_false hd)
 replace h := h.2 hd
 refine gR 8 rfl ?_
 obtain ⟨k1_5, ek1_5, h⟩ := h
 refine gV 36 (.int .i64 ((k1_5 : Nat) : Int)) rfl (dw ek1_5) rfl ?_
 obtain ⟨t1_6, hxt1_6, h⟩ := h
 refine gY (aP (an hxt1_6) aa rfl rfl rfl rfl) rfl rfl ?_
 refine gR 1 rfl ?_
 obtain ⟨r1_7, hs9, h⟩ := h
 refine gC hs9 [0] (by kernel_rfl) rfl rfl .rfl ⟨⟨_, rfl, ⟨rfl, rfl, (am _ GSemvcsref02Piece.w (fun _ => rfl) l1v1).symm⟩⟩, trivial⟩ rfl ?_
 rintro _ _ ⟨rfl, rfl⟩
 refine gHR 2 (List.map GSemvcsref02Piece.w r1_7) rfl (am _ GSemvcsref02Piece.w (fun _ => rfl) r1_7) rfl ?_
 refine gR 6 rfl ?_
 obtain ⟨hb, h⟩ := h
 refine gR 1 rfl ?_
 refine gV 17 (.int .i64 (z1v2 + 1)) rfl (ar hb rfl) rfl ?_
 refine gR 2 rfl ?_
 refine aq ?_
 exact gJ (h K _ hK (by omega)) [2] [] rfl hK ⟨⟨_, rfl, .rfl⟩, ⟨_, rfl, .rfl⟩, ⟨_, rfl, .rfl⟩, ⟨_, rfl, .rfl⟩, ⟨_, rfl, .rfl⟩, ⟨_, rfl, .rfl⟩, trivial⟩ ⟨⟨_, rfl, ⟨rfl, rfl, (am _ GSemvcsref02Piece.w (fun _ => rfl) r1_7).symm⟩⟩, trivial⟩ rfl
 replace hd := (of_decide_eq_false hd)
 replace h := h.2 hd
 refine gR 3 rfl ?_
 refine av ?_
 refine gR 9 rfl ?_
 subst h
 refine ab (F' := (mkF 41 0 [(10, .sl 1)])) (H' := ⟨2, [(1, .row 103 2 (List.map GSemvcsref02Piece.w l1v1))]⟩) [1000, 0] [] rfl hK ⟨⟨_, rfl, .rfl⟩, trivial⟩ ⟨⟨_, rfl, ⟨rfl, rfl, (am _ GSemvcsref02Piece.w (fun _ => rfl) l1v1).symm⟩⟩, trivial⟩ rfl ?_
 exact aB [] aa (rs := [.tmp 10]) rfl rfl ⟨rfl, rfl⟩
theorem kP (m : Nat) (p0 : Tree) (p1 : Int) (r0 : (List UInt8)) (h : ((p1 < ((p0.leads.length : Nat) : Int)) → ∃ (k0_1 : Nat), p1 = ((k0_1 : Nat) : Int) ∧ ∃ (s0_2 : (List UInt8)), p0.leads[k0_1]? = some s0_2 ∧ s0_2 = r0) ∧ ((¬ p1 < ((p0.leads.length : Nat) : Int)) → [] = r0)) : ai p0 p1 r0 := by
 refine ⟨rfl, rfl, ?_⟩
 refine ak 15 [] Tryz.func121 rfl rfl rfl (aC rfl) fun K hK => ?_
 refine gR 3 rfl ?_
 refine gFP 0 rfl rfl rfl rfl ?_
 refine gR 10 rfl ?_
 refine gV 8 (.int .i64 ((p0.leads.length : Nat) : Int)) rfl (be (aV V.str _)) rfl ?_
 refine gLB 7 rfl (aV V.str _) fun hl2 => ?_
 refine gR 3 rfl ?_
 refine gB 9 rfl rfl rfl (fun hd => ?_) (fun hd => ?_)
 replace hd := (of_decide_eq_true hd)
 replace h := h.1 hd
 refine gR 6 rfl ?_
 obtain ⟨k0_1, ek0_1, h⟩ := h
 refine gV 12 (.int .i64 ((k0_1 : Nat) : Int)) rfl (dw ek0_1) rfl ?_
 obtain ⟨s0_2, hxs0_2, h⟩ := h
 refine gY (aP (mapget (f := V.str) hxs0_2) aa rfl rfl rfl rfl) rfl rfl ?_
 refine gR 6 rfl ?_
 subst h
 refine ab (F' := (mkF 15 0 [(4, .str s0_2)])) (H' := ⟨0, []⟩) [] [] rfl hK ⟨⟨_, rfl, .rfl⟩, trivial⟩ trivial rfl ?_
 exact ac aa (rs := [.tmp 4]) rfl rfl rfl
 replace hd := (of_decide_eq_false hd)
 replace h := h.2 hd
 refine gR 9 rfl ?_
 subst h
 refine ab (F' := (mkF 15 0 [(4, .str [])])) (H' := ⟨0, []⟩) [] [] rfl hK ⟨⟨_, rfl, .rfl⟩, trivial⟩ trivial rfl ?_
 exact ac aa (rs := [.tmp 4]) rfl rfl rfl
end Go.Proofs.YtiknldgpnhikhaaGreat
namespace Go.Proofs.YtiknldgpnhikhaaGreat
open Go.RowKit Lx Sx
set_option maxRecDepth 100000
set_option maxHeartbeats 4000000
def gW (r0 : Bool) : Prop := aT Tryz.prog 7 [] (.bool r0)
def mz (p0 : (List UInt8)) (r0 : Tree) (r1 : Int) (r2 : Int) : Prop := aT Tryz.prog 19 [.str p0] (.tup [.agg (aj r0), .int .i64 r1, .int .i64 r2])
def iO (p0 : (List Int)) (r0 : Bool) : Prop := aT Tryz.prog 5 [.row 1 (List.map (V.int .i64) p0)] (.bool r0)
def jN (r0 : Bool) : Prop := aT Tryz.prog 7 [] (.bool r0)
def ca (m : Nat) (r0_3 : (List Tree)) (i1v1 : Nat) (r0 : Bool) : Prop := ∀ (K : Ctx) (j1 : Nat), au K [] → m ≤ j1 → Go Tryz.prog K (bodyPost Tryz.prog Tryz.f5 (SP K (fun u _ => u = .bool r0))) (.code (cL (cK (cB (cA (cB (cB (cB (ae Tryz.f5))))))))) [.loop (cL (cK (cB (cA (cB (cB (cB (ae Tryz.f5)))))))) j1, .blk 0, .seq (cB (cB (cB (cB (ae Tryz.f5)))))] 112 (mkF 112 0 [(3, .row 4 (kidsV r0_3)), (4, .int .i64 ((i1v1 : Nat) : Int))]) ⟨0, []⟩
def cD (m : Nat) (r0_3 : (List Tree)) (r1_2 : (List Tree)) (i2v1 : Nat) (i2v2 : Nat) (r0 : Bool) : Prop := ∀ (K : Ctx) (j1 : Nat) (j2 : Nat), au K [] → m ≤ j1 → m ≤ j2 → Go Tryz.prog K (bodyPost Tryz.prog Tryz.f5 (SP K (fun u _ => u = .bool r0))) (.code (cL (cK (cB (cB (cK (cA (cB (cL (cK (cB (cA (cB (cB (cB (ae Tryz.f5)))))))))))))))) [.loop (cL (cK (cB (cB (cK (cA (cB (cL (cK (cB (cA (cB (cB (cB (ae Tryz.f5))))))))))))))) j1, .blk 2, .blk 1, .seq (cB (cB (cL (cK (cB (cA (cB (cB (cB (ae Tryz.f5)))))))))), .loop (cL (cK (cB (cA (cB (cB (cB (ae Tryz.f5)))))))) j2, .blk 0, .seq (cB (cB (cB (cB (ae Tryz.f5)))))] 112 (mkF 112 0 [(3, .row 4 (kidsV r0_3)), (4, .int .i64 ((i2v2 : Nat) : Int)), (5, .row 4 (kidsV r1_2)), (6, .int .i64 ((i2v1 : Nat) : Int))]) ⟨0, []⟩
def cv (m : Nat) (r0_3 : (List Tree)) (r1_2 : (List Tree)) (t2_2 : Tree) (t2_4 : Tree) (n2_5 : Int) (r2_6 : (List Tree)) (i3v1 : Nat) (i3v2 : Nat) (i3v3 : Nat) (r0 : Bool) : Prop := ∀ (K : Ctx) (j1 : Nat) (j2 : Nat) (j3 : Nat), au K [] → m ≤ j1 → m ≤ j2 → m ≤ j3 → Go Tryz.prog K (bodyPost Tryz.prog Tryz.f5 (SP K (fun u _ => u = .bool r0))) (.code (cL (cK (cB (cA (cB (cB (cB (cB (cK (cA (cB (cL (cK (cB (cB (cK (cA (cB (cL (cK (cB (cA (cB (cB (cB (ae Tryz.f5))))))))))))))))))))))))))) [.loop (cL (cK (cB (cA (cB (cB (cB (cB (cK (cA (cB (cL (cK (cB (cB (cK (cA (cB (cL (cK (cB (cA (cB (cB (cB (ae Tryz.f5)))))))))))))))))))))))))) j1, .blk 4, .seq (cB (cB (cB (cB (cB (cK (cA (cB (cL (cK (cB (cB (cK (cA (cB (cL (cK (cB (cA (cB (cB (cB (ae Tryz.f5))))))))))))))))))))))), .blk 3, .seq (cB (cB (cL (cK (cB (cB (cK (cA (cB (cL (cK (cB (cA (cB (cB (cB (ae Tryz.f5))))))))))))))))), .loop (cL (cK (cB (cB (cK (cA (cB (cL (cK (cB (cA (cB (cB (cB (ae Tryz.f5))))))))))))))) j2, .blk 2, .blk 1, .seq (cB (cB (cL (cK (cB (cA (cB (cB (cB (ae Tryz.f5)))))))))), .loop (cL (cK (cB (cA (cB (cB (cB (ae Tryz.f5)))))))) j3, .blk 0, .seq (cB (cB (cB (cB (ae Tryz.f5)))))] 112 (mkF 112 0 [(3, .row 4 (kidsV r0_3)), (4, .int .i64 ((i3v2 : Nat) : Int)), (5, .row 4 (kidsV r1_2)), (6, .int .i64 ((i3v3 : Nat) : Int)), (7, .ptr 0 0), (9, .ptr 1 0), (10, .int .i64 n2_5), (11, .row 4 (kidsV r2_6)), (12, .int .i64 ((i3v1 : Nat) : Int))]) ⟨2, [(1, .var 29 (aj t2_4)), (0, .var 29 (aj t2_2))]⟩
theorem iq (m : Nat) (p0 : (List Int)) (r0 : Bool) (h : ∃ (b0_1 : Bool), it p0 b0_1 ∧ ((b0_1 = false) → ∃ (b0_2 : Bool), gW b0_2 ∧ b0_2 = r0) ∧ ((b0_1 = true) → ∃ (r0_3 : (List Tree)), gp p0 r0_3 ∧ ca m r0_3 0 r0)) : iO p0 r0 := by
 refine ⟨rfl, rfl, ?_⟩
 refine ak 112 [] Tryz.func5 rfl rfl rfl (aC rfl) fun K hK => ?_
 refine gR 9 rfl ?_
 obtain ⟨b0_1, hs49, h⟩ := h
 refine gC0 hs49 (by kernel_rfl) rfl rfl .rfl rfl ?_
 refine gR 3 rfl ?_
 refine gB 15 rfl rfl rfl (fun hd => ?_) (fun hd => ?_)
 replace hd := (bP hd)
 replace h := h.1 hd
 refine gR 3 rfl ?_
 obtain ⟨b0_2, hs50, h⟩ := h
 refine gC0 hs50 (by kernel_rfl) rfl rfl .rfl rfl ?_
 refine gR 5 rfl ?_
 subst h
 refine ab (F' := (mkF 112 0 [(2, .bool b0_2)])) (H' := ⟨0, []⟩) [] [] rfl hK ⟨⟨_, rfl, .rfl⟩, trivial⟩ trivial rfl ?_
 exact ac aa (rs := [.tmp 2]) rfl rfl rfl
 replace hd := (bO hd)
 replace h := h.2 hd
 refine gR 6 rfl ?_
 obtain ⟨r0_3, hs51, h⟩ := h
 refine gC0 hs51 (by kernel_rfl) rfl rfl .rfl rfl ?_
 refine gR 10 rfl ?_
 refine go_loop m ?_
 exact gJ (h K _ hK (by omega)) [] [] rfl hK ⟨⟨_, rfl, .rfl⟩, ⟨_, rfl, .rfl⟩, trivial⟩ trivial rfl
theorem ia (m : Nat) (r0_3 : (List Tree)) (i1v1 : Nat) (r0 : Bool) (h : ((i1v1 < r0_3.length) → ∃ (t1_1 : Tree), r0_3[i1v1]? = some t1_1 ∧ ∃ (r1_2 : (List Tree)), dV t1_1 r1_2 ∧ cD m r0_3 r1_2 0 i1v1 r0) ∧ ((¬ i1v1 < r0_3.length) → ∃ (b1_3 : Bool), gW b1_3 ∧ ((b1_3 = true) → ∃ (b1_4 : Bool), eu r0_3 b1_4 ∧ b1_4 = r0) ∧ ((b1_3 = false) → false = r0))) : ca (m + 1) r0_3 i1v1 r0 := by
 intro K j1 hK hj1
 obtain ⟨j1, rfl⟩ : ∃ j, j1 = j + 1 := ⟨j1 - 1, by omega⟩
 refine gR 6 rfl ?_
 refine gV 21 (.int .i64 ((r0_3.length : Nat) : Int)) rfl (be (aH _)) rfl ?_
 refine gLB 20 rfl (aH _) fun hl52 => ?_
 refine gR 3 rfl ?_
 refine gB 22 rfl rfl rfl (fun hd => ?_) (fun hd => ?_)
 replace hd := (cO hd)
 replace h := h.1 hd
 refine gR 9 rfl ?_
 obtain ⟨t1_1, hxt1_1, h⟩ := h
 refine gY (aP (an hxt1_1) aa rfl rfl rfl rfl) rfl rfl ?_
 refine gR 1 rfl ?_
 obtain ⟨r1_2, hs53, h⟩ := h
 refine gC0 hs53 (by kernel_rfl) rfl rfl .rfl rfl ?_
 refine gR 9 rfl ?_
 refine go_loop m ?_
 exact gJ (h K _ _ hK (by omega) (by omega)) [] [] rfl hK ⟨⟨_, rfl, .rfl⟩, ⟨_, rfl, .rfl⟩, ⟨_, rfl, .rfl⟩, ⟨_, rfl, .rfl⟩, trivial⟩ trivial rfl
 replace hd := (cP hd)
 replace h := h.2 hd
 refine gR 3 rfl ?_
 refine av ?_
 refine gR 4 rfl ?_
 obtain ⟨b1_3, hs54, h⟩ := h
 refine gC0 hs54 (by kernel_rfl) rfl rfl .rfl rfl ?_
 refine gR 1 rfl ?_
 refine gB 108 rfl rfl rfl (fun hd => ?_) (fun hd => ?_)
 refine gT 107 rfl hd rfl ?_
 replace h := h.1 hd
 refine gR 1 rfl ?_
 obtain ⟨b1_4, hs55, h⟩ := h
 refine gC0 hs55 (by kernel_rfl) rfl rfl .rfl rfl ?_
 refine gR 5 rfl ?_
 subst h
 refine ab (F' := (mkF 112 0 [(2, .bool b1_4)])) (H' := ⟨0, []⟩) [] [] rfl hK ⟨⟨_, rfl, .rfl⟩, trivial⟩ trivial rfl ?_
 exact ac aa (rs := [.tmp 2]) rfl rfl rfl
 refine gF 107 rfl hd rfl ?_
 replace h := h.2 hd
 refine gR 7 rfl ?_
 subst h
 refine ab (F' := (mkF 112 0 [(2, .bool false)])) (H' := ⟨0, []⟩) [] [] rfl hK ⟨⟨_, rfl, .rfl⟩, trivial⟩ trivial rfl ?_
 exact ac aa (rs := [.tmp 2]) rfl rfl rfl
theorem dv (m : Nat) (r0_3 : (List Tree)) (r1_2 : (List Tree)) (i2v1 : Nat) (i2v2 : Nat) (r0 : Bool) (h : ((i2v1 < r1_2.length) → ∃ (t2_1 : Tree), r1_2[i2v1]? = some t2_1 ∧ ∃ (t2_2 : Tree), ∃ (n2_3 : Int), dp r0_3 ((i2v2 : Nat) : Int) t2_1 t2_2 n2_3 ∧ ((n2_3 ≠ 0) → cD m r0_3 r1_2 (i2v1 + 1) i2v2 r0) ∧ ((n2_3 = 0) → ∃ (t2_4 : Tree), ∃ (n2_5 : Int), dp r0_3 0 t2_2 t2_4 n2_5 ∧ ∃ (r2_6 : (List Tree)), dV t2_2 r2_6 ∧ cv m r0_3 r1_2 t2_2 t2_4 n2_5 r2_6 0 i2v2 i2v1 r0)) ∧ ((¬ i2v1 < r1_2.length) → i2v2 + 1 ≤ 9223372036854775807 ∧ ca m r0_3 (i2v2 + 1) r0)) : cD (m + 1) r0_3 r1_2 i2v1 i2v2 r0 := by
 intro K j1 j2 hK hj1 hj2
 obtain ⟨j1, rfl⟩ : ∃ j, j1 = j + 1 := ⟨j1 - 1, by omega⟩
 obtain ⟨j2, rfl⟩ : ∃ j, j2 = j + 1 := ⟨j2 - 1, by omega⟩
 refine gR 6 rfl ?_
 refine gV 32 (.int .i64 ((r1_2.length : Nat) : Int)) rfl (be (aH _)) rfl ?_
 refine gLB 31 rfl (aH _) fun hl56 => ?_
 refine gR 3 rfl ?_
 refine gB 33 rfl rfl rfl (fun hd => ?_) (fun hd => ?_)
 replace hd := (cO hd)
 replace h := h.1 hd
 refine gR 11 rfl ?_
 obtain ⟨t2_1, hxt2_1, h⟩ := h
 refine gY (aP (an hxt2_1) aa rfl rfl rfl rfl) rfl rfl ?_
 refine gR 1 rfl ?_
 obtain ⟨t2_2, n2_3, hs57, h⟩ := h
 refine gC0 hs57 (by kernel_rfl) rfl rfl .rfl rfl ?_
 refine gR 15 rfl ?_
 refine gB 47 rfl rfl rfl (fun hd => ?_) (fun hd => ?_)
 replace hd := (fb hd)
 replace h := h.1 hd
 refine gR 8 rfl ?_
 refine gV 35 (.int .i64 ((i2v1 + 1 : Nat) : Int)) rfl (ar (by have := hl56; omega) (by omega)) rfl ?_
 refine gR 2 rfl ?_
 refine aq ?_
 exact gJ (h K _ _ hK (by omega) (by omega)) [] [] rfl hK ⟨⟨_, rfl, .rfl⟩, ⟨_, rfl, .rfl⟩, ⟨_, rfl, .rfl⟩, ⟨_, rfl, .rfl⟩, trivial⟩ trivial rfl
 replace hd := (dC hd)
 replace h := h.2 hd
 refine gR 7 rfl ?_
 obtain ⟨t2_4, n2_5, hs58, h⟩ := h
 refine gC0 hs58 (by kernel_rfl) rfl rfl .rfl rfl ?_
 refine gR 11 rfl ?_
 obtain ⟨r2_6, hs59, h⟩ := h
 refine gC0 hs59 (by kernel_rfl) rfl rfl .rfl rfl ?_
 refine gR 10 rfl ?_
 refine go_loop m ?_
 exact gJ (h K _ _ _ hK (by omega) (by omega) (by omega)) [0, 1] [] rfl hK ⟨⟨_, rfl, .rfl⟩, ⟨_, rfl, .rfl⟩, ⟨_, rfl, .rfl⟩, ⟨_, rfl, .rfl⟩, ⟨_, rfl, .rfl⟩, ⟨_, rfl, .rfl⟩, ⟨_, rfl, .rfl⟩, ⟨_, rfl, .rfl⟩, ⟨_, rfl, .rfl⟩, trivial⟩ ⟨⟨_, rfl, ⟨rfl, ah.rfl⟩⟩, ⟨⟨_, rfl, ⟨rfl, ah.rfl⟩⟩, trivial⟩⟩ rfl
 replace hd := (cP hd)
 replace h := h.2 hd
 refine gR 3 rfl ?_
 refine av ?_
 refine gR 5 rfl ?_
 obtain ⟨hb, h⟩ := h
 refine gR 1 rfl ?_
 refine gV 24 (.int .i64 ((i2v2 + 1 : Nat) : Int)) rfl (ar (by omega) (by omega)) rfl ?_
 refine gR 2 rfl ?_
 refine aq ?_
 exact gJ (h K _ hK (by omega)) [] [] rfl hK ⟨⟨_, rfl, .rfl⟩, ⟨_, rfl, .rfl⟩, trivial⟩ trivial rfl
theorem ib (m : Nat) (r0_3 : (List Tree)) (r1_2 : (List Tree)) (t2_2 : Tree) (t2_4 : Tree) (n2_5 : Int) (r2_6 : (List Tree)) (i3v1 : Nat) (i3v2 : Nat) (i3v3 : Nat) (r0 : Bool) (h : ((i3v1 < r2_6.length) → ∃ (t3_1 : Tree), r2_6[i3v1]? = some t3_1 ∧ ((t3_1.kind = 9) → false = r0) ∧ ((t3_1.kind ≠ 9) → ∃ (t3_2 : Tree), r2_6[i3v1]? = some t3_2 ∧ ((((t3_2.leads.length : Nat) : Int) ≠ 0) → false = r0) ∧ ((((t3_2.leads.length : Nat) : Int) = 0) → cv m r0_3 r1_2 t2_2 t2_4 n2_5 r2_6 (i3v1 + 1) i3v2 i3v3 r0))) ∧ ((¬ i3v1 < r2_6.length) → ((n2_5 ≠ 0) → false = r0) ∧ ((n2_5 = 0) → ∃ (b3_3 : Bool), cw t2_2 t2_4 b3_3 ∧ ((b3_3 = false) → false = r0) ∧ ((b3_3 = true) → ∃ (t3_4 : Tree), r1_2[i3v3]? = some t3_4 ∧ ∃ (b3_5 : Bool), js r0_3 ((i3v2 : Nat) : Int) t3_4 0 t2_2 b3_5 ∧ ((b3_5 = false) → false = r0) ∧ ((b3_5 = true) → ∃ (t3_6 : Tree), r1_2[i3v3]? = some t3_6 ∧ ∃ (b3_7 : Bool), js r0_3 0 t2_2 ((i3v2 : Nat) : Int) t3_6 b3_7 ∧ ((b3_7 = false) → false = r0) ∧ ((b3_7 = true) → i3v3 + 1 ≤ 9223372036854775807 ∧ cD m r0_3 r1_2 (i3v3 + 1) i3v2 r0)))))) : cv (m + 1) r0_3 r1_2 t2_2 t2_4 n2_5 r2_6 i3v1 i3v2 i3v3 r0 := by
 intro K j1 j2 j3 hK hj1 hj2 hj3
 obtain ⟨j1, rfl⟩ : ∃ j, j1 = j + 1 := ⟨j1 - 1, by omega⟩
 obtain ⟨j2, rfl⟩ : ∃ j, j2 = j + 1 := ⟨j2 - 1, by omega⟩
 obtain ⟨j3, rfl⟩ : ∃ j, j3 = j + 1 := ⟨j3 - 1, by omega⟩
 refine gR 6 rfl ?_
 refine gV 58 (.int .i64 ((r2_6.length : Nat) : Int)) rfl (be (aH _)) rfl ?_
 refine gLB 57 rfl (aH _) fun hl60 => ?_
 refine gR 3 rfl ?_
 refine gB 59 rfl rfl rfl (fun hd => ?_) (fun hd => ?_)
 replace hd := (cO hd)
 replace h := h.1 hd
 refine gR 9 rfl ?_
 obtain ⟨t3_1, hxt3_1, h⟩ := h
 refine gY (aP (an hxt3_1) aa rfl rfl rfl rfl) rfl rfl ?_
 refine gR 4 rfl ?_
 refine gB 68 rfl rfl rfl (fun hd => ?_) (fun hd => ?_)
 refine gT 67 rfl hd rfl ?_
 replace hd := (eq_of_beq hd)
 replace h := h.1 hd
 refine gR 19 rfl ?_
 refine aF ?_
 refine gR 4 rfl ?_
 refine aF ?_
 refine gR 3 rfl ?_
 refine aF ?_
 refine gR 2 rfl ?_
 subst h
 refine ab (F' := (mkF 112 0 [(2, .bool false)])) (H' := ⟨0, []⟩) [] [] rfl hK ⟨⟨_, rfl, .rfl⟩, trivial⟩ trivial rfl ?_
 exact ac aa (rs := [.tmp 2]) rfl rfl rfl
 refine gF 67 rfl hd rfl ?_
 replace hd := (ne_of_beq_false hd)
 replace h := h.2 hd
 refine gR 2 rfl ?_
 obtain ⟨t3_2, hxt3_2, h⟩ := h
 refine gY (aP (an hxt3_2) aa rfl rfl rfl rfl) rfl rfl ?_
 refine gR 3 rfl ?_
 refine gV 74 (.int .i64 ((t3_2.leads.length : Nat) : Int)) rfl (be (aV V.str _)) rfl ?_
 refine gLB 73 rfl (aV V.str _) fun hl61 => ?_
 refine gR 4 rfl ?_
 refine gB 76 rfl rfl rfl (fun hd => ?_) (fun hd => ?_)
 replace hd := (fb hd)
 replace h := h.1 hd
 refine gR 9 rfl ?_
 refine aF ?_
 refine gR 4 rfl ?_
 refine aF ?_
 refine gR 3 rfl ?_
 refine aF ?_
 refine gR 2 rfl ?_
 subst h
 refine ab (F' := (mkF 112 0 [(2, .bool false)])) (H' := ⟨0, []⟩) [] [] rfl hK ⟨⟨_, rfl, .rfl⟩, trivial⟩ trivial rfl ?_
 exact ac aa (rs := [.tmp 2]) rfl rfl rfl
 replace hd := (dC hd)
 replace h := h.2 hd
 refine gR 7 rfl ?_
 refine gV 61 (.int .i64 ((i3v1 + 1 : Nat) : Int)) rfl (ar (by have := hl60; omega) (by omega)) rfl ?_
 refine gR 2 rfl ?_
 refine aq ?_
 exact gJ (h K _ _ _ hK (by omega) (by omega) (by omega)) [0, 1] [] rfl hK ⟨⟨_, rfl, .rfl⟩, ⟨_, rfl, .rfl⟩, ⟨_, rfl, .rfl⟩, ⟨_, rfl, .rfl⟩, ⟨_, rfl, .rfl⟩, ⟨_, rfl, .rfl⟩, ⟨_, rfl, .rfl⟩, ⟨_, rfl, .rfl⟩, ⟨_, rfl, .rfl⟩, trivial⟩ ⟨⟨_, rfl, ⟨rfl, ah.rfl⟩⟩, ⟨⟨_, rfl, ⟨rfl, ah.rfl⟩⟩, trivial⟩⟩ rfl
 replace hd := (cP hd)
 replace h := h.2 hd
 refine gR 3 rfl ?_
 refine av ?_
 refine gR 3 rfl ?_
 refine gDs [0, 1] 30 30 rfl (by kernel_rfl) (by kernel_rfl) ?_
 refine gDr [(0, 0), (1, 0), (2, 0)] (by kernel_rfl) rfl rfl ?_
 refine gB 79 rfl rfl rfl (fun hd => ?_) (fun hd => ?_)
 refine gT 78 rfl hd rfl ?_
 replace hd := (fb hd)
 replace h := h.1 hd
 refine gDr [(3, 2), (4, 0), (5, 0), (6, 0), (7, 0), (8, 0), (9, 2), (10, 2), (11, 2), (12, 2), (13, 2), (14, 2), (15, 0), (16, 0), (17, 0), (18, 0), (19, 0), (20, 2), (21, 2), (22, 2), (23, 2), (24, 0), (25, 0), (26, 0), (27, 0), (28, 0), (29, 0)] (by kernel_rfl) rfl rfl ?_
 refine gDe (by kernel_rfl) ?_
 refine gR 10 rfl ?_
 refine aF ?_
 refine gR 3 rfl ?_
 refine aF ?_
 refine gR 2 rfl ?_
 subst h
 refine ab (F' := (mkF 112 0 [(2, .bool false)])) (H' := ⟨0, []⟩) [] [] rfl hK ⟨⟨_, rfl, .rfl⟩, trivial⟩ trivial rfl ?_
 exact ac aa (rs := [.tmp 2]) rfl rfl rfl
 refine gF 78 rfl hd rfl ?_
 replace hd := (dC hd)
 replace h := h.2 hd
 refine gDr [(3, 3), (4, 0)] (by kernel_rfl) rfl rfl ?_
 obtain ⟨b3_3, hs62, h⟩ := h
 refine bH 5 hs62 (by kernel_rfl) rfl (by kernel_rfl) rfl rfl .rfl rfl rfl ?_
 refine gDr [(6, 0), (7, 0), (8, 0)] (by kernel_rfl) rfl rfl ?_
 refine gB 85 rfl rfl rfl (fun hd => ?_) (fun hd => ?_)
 refine gT 84 rfl hd rfl ?_
 replace hd := (bP hd)
 replace h := h.1 hd
 refine gDr [(9, 2), (10, 2), (11, 2), (12, 2), (13, 2), (14, 2), (15, 0), (16, 0), (17, 0), (18, 0), (19, 0), (20, 2), (21, 2), (22, 2), (23, 2), (24, 0), (25, 0), (26, 0), (27, 0), (28, 0), (29, 0)] (by kernel_rfl) rfl rfl ?_
 refine gDe (by kernel_rfl) ?_
 refine gR 10 rfl ?_
 refine aF ?_
 refine gR 3 rfl ?_
 refine aF ?_
 refine gR 2 rfl ?_
 subst h
 refine ab (F' := (mkF 112 0 [(2, .bool false)])) (H' := ⟨0, []⟩) [] [] rfl hK ⟨⟨_, rfl, .rfl⟩, trivial⟩ trivial rfl ?_
 exact ac aa (rs := [.tmp 2]) rfl rfl rfl
 refine gF 84 rfl hd rfl ?_
 replace hd := (bO hd)
 replace h := h.2 hd
 refine gDr [(9, 2), (10, 2), (11, 2), (12, 2)] (by kernel_rfl) rfl rfl ?_
 obtain ⟨t3_4, hxt3_4, h⟩ := h
 refine gYd 13 rfl (by kernel_rfl) (aP (an hxt3_4) aa rfl rfl rfl rfl) rfl rfl ?_
 refine gDr [(14, 2), (15, 0)] (by kernel_rfl) rfl rfl ?_
 obtain ⟨b3_5, hs63, h⟩ := h
 refine bH 16 hs63 (by kernel_rfl) rfl (by kernel_rfl) rfl rfl .rfl rfl rfl ?_
 refine gDr [(17, 0), (18, 0), (19, 0)] (by kernel_rfl) rfl rfl ?_
 refine gB 96 rfl rfl rfl (fun hd => ?_) (fun hd => ?_)
 refine gT 95 rfl hd rfl ?_
 replace hd := (bP hd)
 replace h := h.1 hd
 refine gDr [(20, 2), (21, 2), (22, 2), (23, 2), (24, 0), (25, 0), (26, 0), (27, 0), (28, 0), (29, 0)] (by kernel_rfl) rfl rfl ?_
 refine gDe (by kernel_rfl) ?_
 refine gR 10 rfl ?_
 refine aF ?_
 refine gR 3 rfl ?_
 refine aF ?_
 refine gR 2 rfl ?_
 subst h
 refine ab (F' := (mkF 112 0 [(2, .bool false)])) (H' := ⟨0, []⟩) [] [] rfl hK ⟨⟨_, rfl, .rfl⟩, trivial⟩ trivial rfl ?_
 exact ac aa (rs := [.tmp 2]) rfl rfl rfl
 refine gF 95 rfl hd rfl ?_
 replace hd := (bO hd)
 replace h := h.2 hd
 refine gDr [(20, 2), (21, 3), (22, 2), (23, 2), (24, 0)] (by kernel_rfl) rfl rfl ?_
 obtain ⟨t3_6, hxt3_6, h⟩ := h
 refine dh 25 rfl (by kernel_rfl) (aP (an hxt3_6) aa rfl rfl rfl rfl) rfl rfl ?_
 refine gDr [(26, 0)] (by kernel_rfl) rfl rfl ?_
 obtain ⟨b3_7, hs64, h⟩ := h
 refine bH 27 hs64 (by kernel_rfl) rfl (by kernel_rfl) rfl rfl .rfl rfl rfl ?_
 refine gDr [(28, 0), (29, 0)] (by kernel_rfl) rfl rfl ?_
 refine gDe (by kernel_rfl) ?_
 refine gR 1 rfl ?_
 refine gB 106 rfl rfl rfl (fun hd => ?_) (fun hd => ?_)
 replace hd := (bP hd)
 replace h := h.1 hd
 refine gR 9 rfl ?_
 refine aF ?_
 refine gR 3 rfl ?_
 refine aF ?_
 refine gR 2 rfl ?_
 subst h
 refine ab (F' := (mkF 112 0 [(2, .bool false)])) (H' := ⟨0, []⟩) [] [] rfl hK ⟨⟨_, rfl, .rfl⟩, trivial⟩ trivial rfl ?_
 exact ac aa (rs := [.tmp 2]) rfl rfl rfl
 replace hd := (bO hd)
 replace h := h.2 hd
 refine gR 6 rfl ?_
 obtain ⟨hb, h⟩ := h
 refine gR 1 rfl ?_
 refine gV 35 (.int .i64 ((i3v3 + 1 : Nat) : Int)) rfl (ar (by omega) (by omega)) rfl ?_
 refine gR 2 rfl ?_
 refine aq ?_
 exact gJ (h K _ _ hK (by omega) (by omega)) [] [] rfl hK ⟨⟨_, rfl, .rfl⟩, ⟨_, rfl, .rfl⟩, ⟨_, rfl, .rfl⟩, ⟨_, rfl, .rfl⟩, trivial⟩ trivial rfl
theorem m8 (m : Nat) (r0 : Bool) (h : ∃ (t0_1 : Tree), ∃ (n0_2 : Int), ∃ (n0_3 : Int), mz [109, 111, 100, 117, 108, 101, 32, 65, 32, 116, 121, 112, 101, 32, 84, 32, 61, 32, 91, 66, 46, 85, 93] t0_1 n0_2 n0_3 ∧ ∃ (t0_4 : Tree), ∃ (n0_5 : Int), ∃ (n0_6 : Int), mz [109, 111, 100, 117, 108, 101, 32, 66, 32, 116, 121, 112, 101, 32, 85, 32, 61, 32, 73, 110, 116, 32, 116, 121, 112, 101, 32, 86, 32, 61, 32, 86] t0_4 n0_5 n0_6 ∧ ∃ (t0_7 : Tree), ∃ (n0_8 : Int), dp [t0_1, t0_4] 0 (Tree.node 9 [84] [] []) t0_7 n0_8 ∧ ∃ (t0_9 : Tree), ∃ (n0_10 : Int), dp [t0_1, t0_4] 1 (Tree.node 9 [86] [] []) t0_9 n0_10 ∧ ((n0_3 = 0) → ((n0_6 = 0) → ((n0_8 = 0) → ((t0_7.kind = 8) → ((((t0_7.kids.length : Nat) : Int) = 1) → ∃ (t0_11 : Tree), t0_7.kids[0]? = some t0_11 ∧ ((t0_11.kind = 5) → ((n0_10 = 19) → ∃ (b0_12 : Bool), fe [t0_1, t0_4] 1 1 b0_12 ∧ ((b0_12 = true) → ∃ (b0_13 : Bool), fe [t0_1, t0_4] 1 0 b0_13 ∧ (!b0_13) = r0) ∧ ((b0_12 = false) → false = r0)) ∧ ((n0_10 ≠ 19) → false = r0)) ∧ ((t0_11.kind ≠ 5) → false = r0)) ∧ ((((t0_7.kids.length : Nat) : Int) ≠ 1) → false = r0)) ∧ ((t0_7.kind ≠ 8) → false = r0)) ∧ ((n0_8 ≠ 0) → false = r0)) ∧ ((n0_6 ≠ 0) → false = r0)) ∧ ((n0_3 ≠ 0) → false = r0)) : jN r0 := by
 refine ⟨rfl, rfl, ?_⟩
 refine ak 79 [] Tryz.func7 rfl rfl rfl (aC rfl) fun K hK => ?_
 refine gR 7 rfl ?_
 obtain ⟨t0_1, n0_2, n0_3, hs8, h⟩ := h
 refine gC0 hs8 (by kernel_rfl) rfl rfl .rfl rfl ?_
 refine gR 12 rfl ?_
 obtain ⟨t0_4, n0_5, n0_6, hs9, h⟩ := h
 refine gC0 hs9 (by kernel_rfl) rfl rfl .rfl rfl ?_
 refine gR 15 rfl ?_
 refine gHR 2 (kidsV [t0_1, t0_4]) rfl (pX [t0_1, t0_4]) rfl ?_
 refine gR 7 rfl ?_
 refine gFR 2 rfl (cj _) rfl rfl ?_
 obtain ⟨t0_7, n0_8, hs10, h⟩ := h
 refine gC0 hs10 (by kernel_rfl) rfl rfl (.cons .rfl (.cons .rfl (.cons (.agg (.cons .rfl (.cons .rfl (.cons (.nil 1) (.cons (.nil 4) .nil))))) .nil))) rfl ?_
 refine gR 12 rfl ?_
 obtain ⟨t0_9, n0_10, hs11, h⟩ := h
 refine gC0 hs11 (by kernel_rfl) rfl rfl (.cons .rfl (.cons .rfl (.cons (.agg (.cons .rfl (.cons .rfl (.cons (.nil 1) (.cons (.nil 4) .nil))))) .nil))) rfl ?_
 refine gR 8 rfl ?_
 refine ab (F' := (mkF 79 0 [(3, .int .i64 n0_3), (6, .int .i64 n0_6), (7, .row 4 (kidsV [t0_1, t0_4])), (8, .ptr 0 0), (9, .int .i64 n0_8), (11, .int .i64 n0_10)])) (H' := ⟨1, [(0, .var 29 (aj t0_7))]⟩) [3] [] rfl hK ⟨⟨_, rfl, .rfl⟩, ⟨_, rfl, .rfl⟩, ⟨_, rfl, .rfl⟩, ⟨_, rfl, .rfl⟩, ⟨_, rfl, .rfl⟩, ⟨_, rfl, .rfl⟩, trivial⟩ ⟨⟨_, rfl, ⟨rfl, ah.rfl⟩⟩, trivial⟩ rfl ?_
 refine gR 5 rfl ?_
 refine gB 39 rfl rfl rfl (fun hd => ?_) (fun hd => ?_)
 refine gT 38 rfl hd rfl ?_
 replace hd := (eq_of_beq hd)
 replace h := h.1 hd
 refine gR 4 rfl ?_
 refine gB 43 rfl rfl rfl (fun hd => ?_) (fun hd => ?_)
 refine gT 42 rfl hd rfl ?_
 replace hd := (eq_of_beq hd)
 replace h := h.1 hd
 refine gR 4 rfl ?_
 refine gB 47 rfl rfl rfl (fun hd => ?_) (fun hd => ?_)
 refine gT 46 rfl hd rfl ?_
 replace hd := (eq_of_beq hd)
 replace h := h.1 hd
 refine gR 5 rfl ?_
 refine gB 52 rfl rfl rfl (fun hd => ?_) (fun hd => ?_)
 refine gT 51 rfl hd rfl ?_
 replace hd := (eq_of_beq hd)
 replace h := h.1 hd
 refine gR 3 rfl ?_
 refine gV 55 (.int .i64 ((t0_7.kids.length : Nat) : Int)) rfl (be (aH _)) rfl ?_
 refine gLB 54 rfl (aH _) fun hl12 => ?_
 refine gR 3 rfl ?_
 refine gB 58 rfl rfl rfl (fun hd => ?_) (fun hd => ?_)
 refine gT 57 rfl hd rfl ?_
 replace hd := (eq_of_beq hd)
 replace h := h.1 hd
 refine gR 2 rfl ?_
 obtain ⟨t0_11, hxt0_11, h⟩ := h
 refine gY (aP (an hxt0_11) aa rfl rfl rfl rfl) rfl rfl ?_
 refine gR 5 rfl ?_
 refine gB 66 rfl rfl rfl (fun hd => ?_) (fun hd => ?_)
 refine gT 65 rfl hd rfl ?_
 replace hd := (eq_of_beq hd)
 replace h := h.1 hd
 refine gR 4 rfl ?_
 refine gB 70 rfl rfl rfl (fun hd => ?_) (fun hd => ?_)
 refine gT 69 rfl hd rfl ?_
 replace hd := (eq_of_beq hd)
 replace h := h.1 hd
 refine gR 1 rfl ?_
 obtain ⟨b0_12, hs13, h⟩ := h
 refine gC0 hs13 (by kernel_rfl) rfl rfl .rfl rfl ?_
 refine gR 2 rfl ?_
 refine gB 74 rfl rfl rfl (fun hd => ?_) (fun hd => ?_)
 refine gT 73 rfl hd rfl ?_
 replace h := h.1 hd
 refine gR 1 rfl ?_
 obtain ⟨b0_13, hs14, h⟩ := h
 refine gC0 hs14 (by kernel_rfl) rfl rfl .rfl rfl ?_
 refine gR 6 rfl ?_
 subst h
 refine ab (F' := (mkF 79 0 [(0, .bool (!b0_13))])) (H' := ⟨0, []⟩) [] [] rfl hK ⟨⟨_, rfl, .rfl⟩, trivial⟩ trivial rfl ?_
 exact ac aa (rs := [.tmp 0]) rfl rfl rfl
 refine gF 73 rfl hd rfl ?_
 replace h := h.2 hd
 refine gR 8 rfl ?_
 subst h
 refine ab (F' := (mkF 79 0 [(0, .bool false)])) (H' := ⟨0, []⟩) [] [] rfl hK ⟨⟨_, rfl, .rfl⟩, trivial⟩ trivial rfl ?_
 exact ac aa (rs := [.tmp 0]) rfl rfl rfl
 refine gF 69 rfl hd rfl ?_
 replace hd := (ne_of_beq_false hd)
 replace h := h.2 hd
 refine gR 12 rfl ?_
 subst h
 refine ab (F' := (mkF 79 0 [(0, .bool false)])) (H' := ⟨0, []⟩) [] [] rfl hK ⟨⟨_, rfl, .rfl⟩, trivial⟩ trivial rfl ?_
 exact ac aa (rs := [.tmp 0]) rfl rfl rfl
 refine gF 65 rfl hd rfl ?_
 replace hd := (ne_of_beq_false hd)
 replace h := h.2 hd
 refine gR 16 rfl ?_
 subst h
 refine ab (F' := (mkF 79 0 [(0, .bool false)])) (H' := ⟨0, []⟩) [] [] rfl hK ⟨⟨_, rfl, .rfl⟩, trivial⟩ trivial rfl ?_
 exact ac aa (rs := [.tmp 0]) rfl rfl rfl
 refine gF 57 rfl hd rfl ?_
 replace hd := (ne_of_beq_false hd)
 replace h := h.2 hd
 refine gR 24 rfl ?_
 subst h
 refine ab (F' := (mkF 79 0 [(0, .bool false)])) (H' := ⟨0, []⟩) [] [] rfl hK ⟨⟨_, rfl, .rfl⟩, trivial⟩ trivial rfl ?_
 exact ac aa (rs := [.tmp 0]) rfl rfl rfl
 refine gF 51 rfl hd rfl ?_
 replace hd := (ne_of_beq_false hd)
 replace h := h.2 hd
 refine gR 30 rfl ?_
 subst h
 refine ab (F' := (mkF 79 0 [(0, .bool false)])) (H' := ⟨0, []⟩) [] [] rfl hK ⟨⟨_, rfl, .rfl⟩, trivial⟩ trivial rfl ?_
 exact ac aa (rs := [.tmp 0]) rfl rfl rfl
 refine gF 46 rfl hd rfl ?_
 replace hd := (ne_of_beq_false hd)
 replace h := h.2 hd
 refine gR 35 rfl ?_
 subst h
 refine ab (F' := (mkF 79 0 [(0, .bool false)])) (H' := ⟨0, []⟩) [] [] rfl hK ⟨⟨_, rfl, .rfl⟩, trivial⟩ trivial rfl ?_
 exact ac aa (rs := [.tmp 0]) rfl rfl rfl
 refine gF 42 rfl hd rfl ?_
 replace hd := (ne_of_beq_false hd)
 replace h := h.2 hd
 refine gR 39 rfl ?_
 subst h
 refine ab (F' := (mkF 79 0 [(0, .bool false)])) (H' := ⟨0, []⟩) [] [] rfl hK ⟨⟨_, rfl, .rfl⟩, trivial⟩ trivial rfl ?_
 exact ac aa (rs := [.tmp 0]) rfl rfl rfl
 refine gF 38 rfl hd rfl ?_
 replace hd := (ne_of_beq_false hd)
 replace h := h.2 hd
 refine gR 43 rfl ?_
 subst h
 refine ab (F' := (mkF 79 0 [(0, .bool false)])) (H' := ⟨0, []⟩) [] [] rfl hK ⟨⟨_, rfl, .rfl⟩, trivial⟩ trivial rfl ?_
 exact ac aa (rs := [.tmp 0]) rfl rfl rfl
end Go.Proofs.YtiknldgpnhikhaaGreat
namespace Go.Proofs.YtiknldgpnhikhaaGreat
open Go.RowKit Lx Sx
set_option maxRecDepth 100000
set_option maxHeartbeats 1000000
theorem xO : ld [] [] true := qJ 1 _ _ _ ⟨fun h => absurd rfl h, fun _ => qg 0 _ _ _ _ ⟨fun h => by simp at h, fun _ => rfl⟩⟩
theorem rO {k k' : Int} (h8 : k ≠ 8) (h8' : k' ≠ 8) : ∀ n n' : Nat, ∃ b, i4 (aL n (.node k [] [] [])) (aL n' (.node k' [] [] [])) b ∧ cw (aL n (.node k [] [] [])) (aL n' (.node k' [] [] [])) b ∧ (n = n' → k = k' → b = true)
  | 0, 0 => by
    by_cases e : k = k'
    · subst e
      exact ⟨true, im 1 _ _ _ ⟨fun h => absurd rfl h, fun _ => ⟨fun h => absurd rfl h, fun _ => ⟨fun h => absurd rfl h, fun _ => ⟨_, xO, fun h => (by cases h), fun _ => lO 0 _ _ _ _ ⟨fun h => by simp [aL, Tree.kids] at h, fun _ => rfl⟩⟩⟩⟩⟩, dQ 1 _ _ _ ⟨fun h => absurd rfl h, fun _ => ⟨fun h => absurd rfl h, fun _ => ⟨_, pN [], fun h => (by cases h), fun _ => ⟨fun h => absurd rfl h, fun _ => gm 0 _ _ _ _ ⟨fun h => by simp [aL, Tree.kids] at h, fun _ => rfl⟩⟩⟩⟩⟩, fun _ _ => rfl⟩
    · exact ⟨false, im 0 _ _ _ ⟨fun _ => rfl, fun h => absurd h e⟩, dQ 0 _ _ _ ⟨fun _ => rfl, fun h => absurd h e⟩, fun _ h => absurd h e⟩
  | 0, n' + 1 => ⟨false, im 0 _ _ _ ⟨fun _ => rfl, fun h => absurd h h8⟩, dQ 0 _ _ _ ⟨fun _ => rfl, fun h => absurd h h8⟩, fun h => by cases h⟩
  | n + 1, 0 => ⟨false, im 0 _ _ _ ⟨fun _ => rfl, fun h => absurd h.symm h8'⟩, dQ 0 _ _ _ ⟨fun _ => rfl, fun h => absurd h.symm h8'⟩, fun h => by cases h⟩
  | n + 1, n' + 1 => by
    obtain ⟨b, h1, h2, h3⟩ := rO h8 h8' n n'
    refine ⟨b, im 2 _ _ _ ⟨fun h => absurd rfl h, fun _ => ⟨fun h => absurd rfl h, fun _ => ⟨fun h => absurd rfl h, fun _ => ⟨_, xO, fun h => (by cases h), fun _ => lO 1 _ _ _ _ ⟨fun _ => ⟨_, rfl, _, rfl, b, h1, fun h => h.symm, fun h => ⟨by omega, ?_⟩⟩, fun h => by simp [aL, Tree.kids] at h⟩⟩⟩⟩⟩, dQ 2 _ _ _ ⟨fun h => absurd rfl h, fun _ => ⟨fun h => absurd rfl h, fun _ => ⟨_, pN [], fun h => (by cases h), fun _ => ⟨fun h => absurd rfl h, fun _ => gm 1 _ _ _ _ ⟨fun _ => ⟨_, rfl, _, rfl, b, h2, fun h => h.symm, fun h => ?_⟩, fun h => by simp [aL, Tree.kids] at h⟩⟩⟩⟩⟩, fun e => h3 (by omega)⟩
    · exact lO 0 _ _ _ _ ⟨fun h => by simp [aL, Tree.kids] at h, fun _ => h.symm⟩
    · exact gm 0 _ _ _ _ ⟨fun h => by simp [aL, Tree.kids] at h, fun _ => h.symm⟩
def pC (B : Nat) (x : Tree × Int) : Prop := ∃ (n : Nat) (k : Int), x.1 = aL n (.node k [] [] []) ∧ k ≠ 8 ∧ k ≠ 9 ∧ (x.2 = 0 → 5 ≤ k ∧ k ≤ 7) ∧ n ≤ B
theorem vF {B : Nat} {e : Int} (he : e ≠ 0) : pC B (lw, e) := ⟨0, 0, rfl, by decide, by decide, fun h => absurd h he, Nat.zero_le _⟩
theorem rC {p : List Tree} (hp : bF p = true) {B : Nat} : ∀ (f : Nat) (seen : List (Int × Int)) (n : Nat) (M : Int) (u : Tree), kv p seen → kbulk p + 1 ≤ f + seen.length → tyK u → u.kind ≠ 8 → n ≤ B + eG (lR p) seen → pC (B + kbulk p) (eZ p f seen n M u)
  | 0, seen, n, M, u, hs, hf, _, _, _ => by
    have := mA hs; omega
  | f + 1, seen, n, M, u, hs, hf, hu, h8, hn => by
    have hss := qd hs
    by_cases h9 : u.kind = 9
    · rw [eZ, if_pos h9]
      by_cases hfd : (ba p M u.text).2.2 = false
      · rw [if_pos hfd]
        exact vF (by decide)
      · rw [if_neg hfd]
        have hfd' : (ba p M u.text).2.2 = true := by simpa using hfd
        obtain ⟨i, d, t, a, b', g1, g2, g3, g4, g5, g6, g7⟩ := oq hp h9 hu.1 hfd'
        rw [g1, g2]
        by_cases hm : ((i : Int), (d : Int)) ∈ seen
        · rw [if_pos hm]
          exact vF (by decide)
        · rw [if_neg hm]
          have hal := nr g3 g4 g6
          rw [hal]
          obtain ⟨t1, t2, _⟩ := k0 b' g7
          exact rC hp f (((i : Int), (d : Int)) :: seen) (n + lisK b') i (leafK b') (lu hs g3 g4 hm) (by simp only [List.length_cons]; omega) t1 t2 (by simp only [eG, lR, hal]; omega)
    · rw [eZ, if_neg h9]
      have := hu.2
      have hk : 5 ≤ u.kind ∧ u.kind ≤ 9 := by simpa [fk] using hu.2
      exact ⟨n, u.kind, rfl, h8, h9, fun _ => by omega, by omega⟩
theorem oy (p : List Tree) (M : Int) (t : Tree) : pC (tbulk t + kbulk p) (dZ p M t) := by
  unfold dZ
  split
  · rename_i hG
    obtain ⟨t1, t2, _⟩ := k0 t ⟨hG.2.2.2.2, hG.2.2.2.1⟩
    obtain ⟨b1, b2⟩ := ku t
    exact rC hG.1 _ _ _ _ _ ⟨List.nodup_nil, fun x h => by cases h⟩ (by simp) t1 t2 (by simp only [eG]; omega)
  · exact vF (by decide)
theorem rR {B : Nat} {x y : Tree × Int} (hx : pC B x) (hy : pC B y) : ∃ b, i4 x.1 y.1 b ∧ cw x.1 y.1 b ∧ (x.1 = y.1 → b = true) := by
  obtain ⟨n, k, e, h8, _⟩ := hx
  obtain ⟨n', k', e', h8', _⟩ := hy
  obtain ⟨b, h1, h2, h3⟩ := rO h8 h8' n n'
  rw [e, e']
  refine ⟨b, h1, h2, fun h => ?_⟩
  have inj : ∀ n n' : Nat, aL n (.node k [] [] []) = aL n' (.node k' [] [] []) → n = n' ∧ k = k' := fun n => by
    induction n with
    | zero =>
      intro n' h
      cases n' with
      | zero => simp only [aL, Tree.node.injEq] at h; exact ⟨rfl, h.1⟩
      | succ n' => simp only [aL, Tree.node.injEq] at h; exact absurd h.1 h8
    | succ n ih =>
      intro n' h
      cases n' with
      | zero => simp only [aL, Tree.node.injEq] at h; exact absurd h.1.symm h8'
      | succ n' =>
        simp only [aL, Tree.node.injEq, List.cons.injEq, and_true, true_and] at h
        obtain ⟨a1, a2⟩ := ih n' h
        exact ⟨by omega, a2⟩
  exact h3 (inj n n' h).1 (inj n n' h).2
theorem ub {p : List Tree} (hb : kbulk p ≤ 10000000) (M N : Int) {t u : Tree} (ht : tbulk t ≤ 10000000) (hu : tbulk u ≤ 10000000) : ∃ b, js p M t N u b ∧ kQ p M t N u b ∧ (dZ p M t = dZ p N u → (dZ p M t).2 = 0 → b = true) := by
  have f1 := oy p M t
  have f2 := oy p N u
  have e1 := kW hb M ht
  have e2 := kW hb N hu
  have r1 := sj hb M ht
  have r2 := sj hb N hu
  obtain ⟨b, hs, hr, hbt⟩ := rR (B := tbulk t + tbulk u + kbulk p) (x := dZ p M t) (y := dZ p N u) (by obtain ⟨n, k, a, b, c, d, e⟩ := f1; exact ⟨n, k, a, b, c, d, by omega⟩) (by obtain ⟨n, k, a, b, c, d, e⟩ := f2; exact ⟨n, k, a, b, c, d, by omega⟩)
  by_cases h1 : (dZ p M t).2 = 0
  · by_cases h2 : (dZ p N u).2 = 0
    · exact ⟨b, lh 0 _ _ _ _ _ _ ⟨_, _, e1, fun h => absurd h1 h, fun _ => ⟨_, _, e2, fun _ => ⟨_, hs, rfl⟩, fun h => absurd h2 h⟩⟩, gu 0 _ _ _ _ _ _ ⟨_, _, r1, _, _, r2, fun _ => ⟨fun _ => ⟨_, hr, rfl⟩, fun h => absurd h2 h⟩, fun h => absurd h1 h⟩, fun h _ => hbt (by rw [h])⟩
    · exact ⟨false, lh 0 _ _ _ _ _ _ ⟨_, _, e1, fun h => absurd h1 h, fun _ => ⟨_, _, e2, fun h => absurd h h2, fun _ => rfl⟩⟩, gu 0 _ _ _ _ _ _ ⟨_, _, r1, _, _, r2, fun _ => ⟨fun h => absurd h h2, fun _ => rfl⟩, fun h => absurd h1 h⟩, fun h h' => absurd (h ▸ h') h2⟩
  · exact ⟨false, lh 0 _ _ _ _ _ _ ⟨_, _, e1, fun _ => rfl, fun h => absurd h h1⟩, gu 0 _ _ _ _ _ _ ⟨_, _, r1, _, _, r2, fun h => absurd h h1, fun _ => rfl⟩, fun _ h => absurd h h1⟩
theorem xp {B : Nat} {x : Tree × Int} (h : pC B x) : cw x.1 x.1 true := by
  obtain ⟨b, _, h2, h3⟩ := rR h h
  rw [h3 rfl] at h2; exact h2
def cx (t : Tree) : List Tree := (nodK t []).map (·.2)
theorem yH : (∀ (t : Tree) (q r : List Int), (nodK t q).map (·.2) = (nodK t r).map (·.2)) := by
  have h : ∀ t : Tree, ∀ (q r : List Int), (nodK t q).map (·.2) = (nodK t r).map (·.2) := cr fun t ih q r => by
    rw [jL, jL, List.map_cons, List.map_cons]
    have go : ∀ (l : List Tree) (i : Nat), t.kids.drop i = l → (nodKs l q i).map (·.2) = (nodKs l r i).map (·.2) := fun l => by
      induction l with
      | nil => intro i _; rfl
      | cons x l ihl =>
        intro i hi
        have hx : t.kids[i]? = some x := by
          have : (t.kids.drop i)[0]? = some x := by rw [hi]; rfl
          simpa using this
        have hr : t.kids.drop (i + 1) = l := by
          have : (t.kids.drop i).drop 1 = l := by rw [hi]; rfl
          simpa [List.drop_drop] using this
        rw [nodKs, nodKs, List.map_append, List.map_append, ih i x hx _ (r ++ [(i : Int)]), ihl (i + 1) hr]
    rw [go t.kids 0 rfl]
  exact h
theorem u3 : ∀ t : Tree, tbulk t ≤ 1000000000 → dV t (cx t) := cr fun t ih hb => by
  have hk := di t
  have hbe := bC t
  have loop : ∀ m i (l : List Tree), t.kids.length - i ≤ m → l.length + kbulk (t.kids.drop i) ≤ 1000000000 → eK (m + 1) t l i (l ++ (nodKs (t.kids.drop i) [] i).map (·.2)) := fun m => by
    induction m with
    | zero =>
      intro i l hi hl
      refine jK 0 _ _ _ _ ⟨fun h => by omega, fun h => ?_⟩
      rw [List.drop_of_length_le (by omega)]; simp [nodKs]
    | succ m ihm =>
      intro i l hi hl
      refine jK (m + 1) _ _ _ _ ⟨fun h => ?_, fun h => ?_⟩
      · obtain ⟨u, hu, _⟩ | h' := aU t.kids i
        · have := bU hu
          have hln := nodK_len u []
          rw [bQ hu, kbulk] at hl
          have hlen : (cx u).length ≤ tbulk u := by unfold cx; rw [List.length_map]; exact hln
          refine ⟨u, hu, _, ih i u hu (by omega), by rw [List.length_append]; omega, ?_⟩
          have := ihm (i + 1) (l ++ cx u) (by omega) (by rw [List.length_append]; omega)
          rw [bQ hu, nodKs, List.map_append, yH u _ [], ← List.append_assoc]
          exact this
        · exact absurd h h'
      · rw [List.drop_of_length_le (by omega)]; simp [nodKs]
  have := loop t.kids.length 0 [t] (by omega) (by rw [List.drop_zero]; simp only [List.length_singleton]; omega)
  have e : cx t = [t] ++ (nodKs (t.kids.drop 0) [] 0).map (·.2) := by unfold cx; rw [jL, List.drop_zero]; rfl
  rw [e]
  exact nP _ _ _ this
theorem uq {t u : Tree} (h : u ∈ cx t) : tbulk u ≤ tbulk t := by
  unfold cx at h
  rw [List.mem_map] at h
  obtain ⟨x, hx, rfl⟩ := h
  have := nodK_bnd t [] x hx
  simp at this
  omega
theorem wG (t : Tree) : (cx t).length ≤ tbulk t := by unfold cx; rw [List.length_map]; exact nodK_len t []
end Go.Proofs.YtiknldgpnhikhaaGreat
namespace Go.Proofs.YtiknldgpnhikhaaGreat
open Go.RowKit Lx Sx
set_option maxHeartbeats 1000000
def Dc (L : List Int) (a : Int) : Prop := 0 ≤ a ∧ a ≤ L.length ∧ L.length ≤ 1000000000
theorem Bw {a n : Int} (hn : 0 < n) (hn2 : n ≤ 1000000000) : ∃ r, jx a n r ∧ 0 ≤ r ∧ r < n := by
  have h1 := Int.lt_tmod_of_pos a hn
  have h2 := Int.tmod_lt_of_pos a hn
  by_cases h : Int.tmod a n < 0
  · exact ⟨_, lS 0 _ _ _ ⟨by omega, fun _ => ⟨by omega, rfl⟩, fun h' => absurd h h'⟩, by omega, by omega⟩
  · exact ⟨_, lS 0 _ _ _ ⟨by omega, fun h' => absurd h' h, fun _ => rfl⟩, by omega, by omega⟩
theorem ea {L : List Int} {a n : Int} (hd : Dc L a) (hn : 0 < n) (hn2 : n ≤ 1000000000) : ∃ r a', aE L a n r L a' ∧ (0 ≤ r ∧ r < n) ∧ Dc L a' := by
  obtain ⟨h0, h1, h2⟩ := hd
  by_cases h : (L.length : Int) ≤ a
  · exact ⟨0, a, iM 0 _ _ _ _ _ _ ⟨fun _ => ⟨rfl, rfl, rfl⟩, fun h' => absurd h h'⟩, by omega, h0, h1, h2⟩
  · obtain ⟨x, hx, _⟩ | h' := aU L a.toNat
    · obtain ⟨r, hr, hr1⟩ := Bw (a := x) hn hn2
      exact ⟨r, a + 1, iM 0 _ _ _ _ _ _ ⟨fun h' => absurd h' h, fun _ => ⟨by omega, by omega, a.toNat, by omega, x, hx, r, hr, rfl, rfl, rfl⟩⟩, hr1, by omega, by omega, h2⟩
    · omega
theorem gd {L : List Int} {a : Int} (hd : Dc L a) (l : List (List UInt8)) (hl : 0 < l.length) (hl2 : l.length ≤ 1000000000) : ∃ s a', bf L a l s L a' ∧ s ∈ l ∧ Dc L a' := by
  obtain ⟨r, a', h1, h2, h3⟩ := ea hd (n := (l.length : Int)) (by omega) (by omega)
  obtain ⟨x, hx, _⟩ | h' := aU l r.toNat
  · exact ⟨x, a', pc 0 _ _ _ _ _ _ ⟨_, _, _, h1, r.toNat, by omega, x, hx, rfl, rfl, rfl⟩, List.mem_of_getElem? hx, h3⟩
  · omega
def Gt (L : List Int) (C : Tree → Int → Prop) (B : Nat) : Prop := ∃ t a', C t a' ∧ Dc L a' ∧ tbulk t ≤ B
theorem Gt.map {L : List Int} {C C' : Tree → Int → Prop} {B B' : Nat} (h : Gt L C B) (hb : B ≤ B') (k : ∀ t a', C t a' → C' t a') : Gt L C' B' := by
  obtain ⟨t, a', h1, h2, h3⟩ := h; exact ⟨t, a', k t a' h1, h2, by omega⟩
theorem fI {l : List (List UInt8)} {s : List UInt8} (h : s ∈ l) (hl : l.all (fun x => decide (x.length ≤ 5)) = true) : s.length ≤ 5 := by
  have := List.all_eq_true.1 hl s h; simpa using this
theorem tb0 (k : Int) (s : List UInt8) : tbulk (.node k s [] []) = s.length + 1 := by simp [tbulk, lsum, kbulk]
theorem tb1 (k : Int) (s : List UInt8) (t : Tree) : tbulk (.node k s [] [t]) = s.length + tbulk t + 1 := by simp [tbulk, lsum, kbulk]
theorem tb2 (k : Int) (s : List UInt8) (t u : Tree) : tbulk (.node k s [] [t, u]) = s.length + tbulk t + tbulk u + 1 := by simp [tbulk, lsum, kbulk]; omega
theorem tb3 (k : Int) (s : List UInt8) (t u v : Tree) : tbulk (.node k s [] [t, u, v]) = s.length + tbulk t + tbulk u + tbulk v + 1 := by simp [tbulk, lsum, kbulk]; omega
theorem tbK (k : Int) (s : List UInt8) (l : List Tree) : tbulk (.node k s [] l) = s.length + kbulk l + 1 := by simp [tbulk, lsum]
theorem wd {L : List Int} : ∀ (d : Nat) {a : Int}, Dc L a → d ≤ 100 → Gt L (fun t a' => ce L a d t L a') (6 + d) := fun d => by
  induction d with
  | zero =>
    intro a hd _
    obtain ⟨r, a1, h1, h2, h3⟩ := ea hd (n := 7) (by omega) (by omega)
    have top : ∀ {t a'}, eF 1 0 r L a1 false t L a' → r ≠ 0 → r ≠ 1 → ce L a 0 t L a' := fun h n0 n1 => fY 1 _ _ _ _ _ _ ⟨_, _, _, h1, fun e => absurd e n0, fun _ => by rw [show (r == 1) = false by simpa using n1]; exact h⟩
    by_cases e0 : r = 0 ∨ r = 1
    · refine ⟨_, a1, fY 1 _ _ _ _ _ _ ⟨_, _, _, h1, fun e => bm 0 _ _ _ _ _ _ _ _ ⟨fun _ => ⟨rfl, rfl, rfl⟩, fun h => nomatch h⟩, fun e => bm 0 _ _ _ _ _ _ _ _ ⟨fun _ => ⟨rfl, rfl, rfl⟩, fun h => ?_⟩⟩, h3, by rw [tb0]; simp only [List.length_nil]; omega⟩
      rcases e0 with e0 | e0
      · exact absurd e0 e
      · rw [e0] at h; cases h
    · by_cases e2 : r = 2
      · exact ⟨_, a1, top (bm 0 _ _ _ _ _ _ _ _ ⟨fun h => (nomatch h), fun _ => ⟨fun _ => ⟨rfl, rfl, rfl⟩, fun h => absurd e2 h⟩⟩) (by omega) (by omega), h3, by rw [tb0]; simp only [List.length_nil]; omega⟩
      · by_cases e3 : r = 3
        · exact ⟨_, a1, top (bm 0 _ _ _ _ _ _ _ _ ⟨fun h => (nomatch h), fun _ => ⟨fun h => absurd h e2, fun _ => ⟨fun _ => ⟨rfl, rfl, rfl⟩, fun h => absurd e3 h⟩⟩⟩) (by omega) (by omega), h3, by rw [tb0]; simp only [List.length_nil]; omega⟩
        · by_cases e4 : r = 4
          · obtain ⟨s, a2, g1, g2, g3⟩ := gd h3 [[84], [85], [65, 46, 84], [66, 46, 85]] (by decide) (by decide)
            have := fI g2 (by decide)
            exact ⟨_, a2, top (bm 0 _ _ _ _ _ _ _ _ ⟨fun h => (nomatch h), fun _ => ⟨fun h => absurd h e2, fun _ => ⟨fun h => absurd h e3, fun _ => ⟨fun _ => ⟨_, _, _, g1, rfl, rfl, rfl⟩, fun h => absurd e4 h⟩⟩⟩⟩) (by omega) (by omega), g3, by rw [tb0]; omega⟩
          · exact ⟨_, a1, top (bm 0 _ _ _ _ _ _ _ _ ⟨fun h => (nomatch h), fun _ => ⟨fun h => absurd h e2, fun _ => ⟨fun h => absurd h e3, fun _ => ⟨fun h => absurd h e4, fun _ => ⟨fun _ => ⟨rfl, rfl, rfl⟩, fun h => by omega⟩⟩⟩⟩⟩) (by omega) (by omega), h3, by rw [tb0]; simp only [List.length_nil]; omega⟩
  | succ d ih =>
    intro a hd hd100
    obtain ⟨r, a1, h1, h2, h3⟩ := ea hd (n := 7) (by omega) (by omega)
    have top : ∀ {t a'}, eF 1 ((d + 1 : Nat) : Int) r L a1 false t L a' → r ≠ 0 → r ≠ 1 → ce L a ((d + 1 : Nat) : Int) t L a' := fun h n0 n1 => fY 1 _ _ _ _ _ _ ⟨_, _, _, h1, fun e => absurd e n0, fun _ => by rw [show (r == 1) = false by simpa using n1]; exact h⟩
    by_cases e0 : r = 0 ∨ r = 1
    · refine ⟨_, a1, fY 1 _ _ _ _ _ _ ⟨_, _, _, h1, fun e => bm 0 _ _ _ _ _ _ _ _ ⟨fun _ => ⟨rfl, rfl, rfl⟩, fun h => nomatch h⟩, fun e => bm 0 _ _ _ _ _ _ _ _ ⟨fun _ => ⟨rfl, rfl, rfl⟩, fun h => ?_⟩⟩, h3, by rw [tb0]; simp only [List.length_nil]; omega⟩
      rcases e0 with e0 | e0
      · exact absurd e0 e
      · rw [e0] at h; cases h
    · by_cases e2 : r = 2
      · exact ⟨_, a1, top (bm 0 _ _ _ _ _ _ _ _ ⟨fun h => (nomatch h), fun _ => ⟨fun _ => ⟨rfl, rfl, rfl⟩, fun h => absurd e2 h⟩⟩) (by omega) (by omega), h3, by rw [tb0]; simp only [List.length_nil]; omega⟩
      · by_cases e3 : r = 3
        · exact ⟨_, a1, top (bm 0 _ _ _ _ _ _ _ _ ⟨fun h => (nomatch h), fun _ => ⟨fun h => absurd h e2, fun _ => ⟨fun _ => ⟨rfl, rfl, rfl⟩, fun h => absurd e3 h⟩⟩⟩) (by omega) (by omega), h3, by rw [tb0]; simp only [List.length_nil]; omega⟩
        · by_cases e4 : r = 4
          · obtain ⟨s, a2, g1, g2, g3⟩ := gd h3 [[84], [85], [65, 46, 84], [66, 46, 85]] (by decide) (by decide)
            have := fI g2 (by decide)
            exact ⟨_, a2, top (bm 0 _ _ _ _ _ _ _ _ ⟨fun h => (nomatch h), fun _ => ⟨fun h => absurd h e2, fun _ => ⟨fun h => absurd h e3, fun _ => ⟨fun _ => ⟨_, _, _, g1, rfl, rfl, rfl⟩, fun h => absurd e4 h⟩⟩⟩⟩) (by omega) (by omega), g3, by rw [tb0]; omega⟩
          · obtain ⟨t, a2, g1, g2, g3⟩ := ih h3 (by omega)
            have g1' : ce L a1 (((d + 1 : Nat) : Int) - 1) t L a2 := by rw [show ((d + 1 : Nat) : Int) - 1 = (d : Int) by omega]; exact g1
            exact ⟨_, a2, top (bm 0 _ _ _ _ _ _ _ _ ⟨fun h => (nomatch h), fun _ => ⟨fun h => absurd h e2, fun _ => ⟨fun h => absurd h e3, fun _ => ⟨fun h => absurd h e4, fun _ => ⟨fun h => by omega, fun _ => ⟨by omega, _, _, _, g1', rfl, rfl, rfl⟩⟩⟩⟩⟩⟩) (by omega) (by omega), g2, by rw [tb1]; simp only [List.length_nil]; omega⟩
def eB : Nat → Nat
  | 0 => 6
  | d + 1 => 3 * eB d + 20
section
variable {L : List Int} {d a z : Int} {t : Tree} {a' : Int} {m : Nat}
theorem up2 (h0 : z ≠ 0) (h1 : z ≠ 1) (h : fR m d L a z t L a') : cc (m + 2) d L a z t L a' :=
  rL0_semvcsmake_Expr (m + 1) _ _ _ _ _ _ _ ⟨fun e => absurd e h0, fun _ => gX m _ _ _ _ _ _ _ _ ⟨fun e => absurd (eq_of_beq e) h1, fun _ => h⟩⟩
theorem up6 (h2 : z ≠ 2) (h3 : z ≠ 3) (h4 : z ≠ 4) (h5 : z ≠ 5) (h : fS m d L a z t L a') : fR (m + 4) d L a z t L a' :=
  rL2_semvcsmake_Expr (m + 3) _ _ _ _ _ _ _ ⟨fun e => absurd e h2, fun _ => dU (m + 2) _ _ _ _ _ _ _ ⟨fun e => absurd e h3, fun _ => fj (m + 1) _ _ _ _ _ _ _ ⟨fun e => absurd e h4, fun _ => g8 m _ _ _ _ _ _ _ ⟨fun e => absurd e h5, fun _ => h⟩⟩⟩⟩
theorem up9 (h6 : z ≠ 6) (h7 : z ≠ 7) (h : ef m d L a z t L a') : fS (m + 2) d L a z t L a' :=
  rL6_semvcsmake_Expr (m + 1) _ _ _ _ _ _ _ ⟨fun e => absurd e h6, fun _ => gZ m _ _ _ _ _ _ _ _ ⟨fun e => absurd (eq_of_beq e) h7, fun _ => h⟩⟩
theorem Aj (h8 : z ≠ 8) (h : fu m d L a z t L a') : ef (m + 1) d L a z t L a' := kL m _ _ _ _ _ _ _ ⟨fun e => absurd e h8, fun _ => h⟩
theorem Cl (h9 : z ≠ 9) (h : dX m d L a z t L a') : fu (m + 1) d L a z t L a' := kx m _ _ _ _ _ _ _ ⟨fun e => absurd e h9, fun _ => h⟩
theorem Cd (h10 : z ≠ 10) (h11 : z ≠ 11) (h : fi m d L a z t L a') : dX (m + 2) d L a z t L a' :=
  rL14_semvcsmake_Expr (m + 1) _ _ _ _ _ _ _ ⟨fun e => absurd e h10, fun _ => gD m _ _ _ _ _ _ _ _ ⟨fun e => absurd (eq_of_beq e) h11, fun _ => h⟩⟩
end
theorem qZ {L : List Int} {d a z : Int} (M : Nat) (hd : Dc L a) (h0 : 0 ≤ z) (h5 : z ≤ 5) : Gt L (fun t a' => cc (M + 8) d L a z t L a') 6 := by
  by_cases e0 : z = 0 ∨ z = 1
  · obtain ⟨s, a2, g1, g2, g3⟩ := gd hd [[120], [121], [122]] (by decide) (by decide)
    have := fI g2 (by decide)
    refine ⟨_, a2, rL0_semvcsmake_Expr (M + 7) _ _ _ _ _ _ _ ⟨fun e => gX (M + 6) _ _ _ _ _ _ _ _ ⟨fun _ => ⟨_, _, _, g1, rfl, rfl, rfl⟩, fun h => nomatch h⟩, fun e => gX (M + 6) _ _ _ _ _ _ _ _ ⟨fun _ => ⟨_, _, _, g1, rfl, rfl, rfl⟩, fun h => ?_⟩⟩, g3, by rw [tb0]; omega⟩
    rcases e0 with e0 | e0
    · exact absurd e0 e
    · rw [e0] at h; exact absurd h (by decide)
  have n0 : z ≠ 0 := by omega
  have n1 : z ≠ 1 := by omega
  by_cases e2 : z = 2
  · obtain ⟨s, a2, g1, g2, g3⟩ := gd hd [[48], [49], [50], [49, 48]] (by decide) (by decide)
    have := fI g2 (by decide)
    exact ⟨_, a2, up2 n0 n1 (rL2_semvcsmake_Expr (M + 5) _ _ _ _ _ _ _ ⟨fun _ => ⟨_, _, _, g1, rfl, rfl, rfl⟩, fun h => absurd e2 h⟩), g3, by rw [tb0]; omega⟩
  by_cases e3 : z = 3
  · obtain ⟨s, a2, g1, g2, g3⟩ := gd hd [[34, 34], [34, 97, 34], [34, 35, 32, 98, 34]] (by decide) (by decide)
    have := fI g2 (by decide)
    exact ⟨_, a2, up2 n0 n1 (rL2_semvcsmake_Expr (M + 5) _ _ _ _ _ _ _ ⟨fun h => absurd h e2, fun _ => dU (M + 4) _ _ _ _ _ _ _ ⟨fun _ => ⟨_, _, _, g1, rfl, rfl, rfl⟩, fun h => absurd e3 h⟩⟩), g3, by rw [tb0]; omega⟩
  by_cases e4 : z = 4
  · obtain ⟨r, a2, g1, g2, g3⟩ := ea hd (n := 2) (by omega) (by omega)
    exact ⟨_, a2, up2 n0 n1 (rL2_semvcsmake_Expr (M + 5) _ _ _ _ _ _ _ ⟨fun h => absurd h e2, fun _ => dU (M + 4) _ _ _ _ _ _ _ ⟨fun h => absurd h e3, fun _ => fj (M + 3) _ _ _ _ _ _ _ ⟨fun _ => ⟨_, _, _, g1, by omega, rfl, rfl, rfl⟩, fun h => absurd e4 h⟩⟩⟩), g3, by rw [tb0]; simp only [List.length_nil]; omega⟩
  have e5 : z = 5 := by omega
  obtain ⟨r, a2, g1, g2, g3⟩ := ea hd (n := 3) (by omega) (by omega)
  by_cases er : r = 0
  · exact ⟨_, a2, up2 n0 n1 (rL2_semvcsmake_Expr (M + 5) _ _ _ _ _ _ _ ⟨fun h => absurd h e2, fun _ => dU (M + 4) _ _ _ _ _ _ _ ⟨fun h => absurd h e3, fun _ => fj (M + 3) _ _ _ _ _ _ _ ⟨fun h => absurd h e4, fun _ => g8 (M + 2) _ _ _ _ _ _ _ ⟨fun _ => ⟨_, _, _, g1, fun _ => ⟨rfl, rfl, rfl⟩, fun h => absurd er h⟩, fun h => absurd e5 h⟩⟩⟩⟩), g3, by rw [tb0]; simp only [List.length_nil]; omega⟩
  · exact ⟨_, a2, up2 n0 n1 (rL2_semvcsmake_Expr (M + 5) _ _ _ _ _ _ _ ⟨fun h => absurd h e2, fun _ => dU (M + 4) _ _ _ _ _ _ _ ⟨fun h => absurd h e3, fun _ => fj (M + 3) _ _ _ _ _ _ _ ⟨fun h => absurd h e4, fun _ => g8 (M + 2) _ _ _ _ _ _ _ ⟨fun _ => ⟨_, _, _, g1, fun h => absurd h er, fun _ => ⟨rfl, rfl, rfl⟩⟩, fun h => absurd e5 h⟩⟩⟩⟩), g3, by rw [tb0]; simp⟩
theorem vj {L : List Int} {a : Int} (hd : Dc L a) : Gt L (fun t a' => aO L a 0 t L a') 6 := by
  obtain ⟨r, a1, h1, h2, h3⟩ := ea hd (n := 14) (by omega) (by omega)
  by_cases e1 : 5 < r
  · by_cases e2 : 5 < r - 6
    · exact (qZ 0 (d := 0) h3 (z := 0) (by omega) (by omega)).map (Nat.le_refl _) fun t a' h => fG 8 _ _ _ _ _ _ ⟨_, _, _, h1, fun _ => ⟨fun _ => ⟨by omega, fun _ => h, fun h' => absurd e2 h'⟩, fun h' => absurd e1 h'⟩, fun h' => by omega⟩
    · exact (qZ 0 (d := 0) h3 (z := r - 6) (by omega) (by omega)).map (Nat.le_refl _) fun t a' h => fG 8 _ _ _ _ _ _ ⟨_, _, _, h1, fun _ => ⟨fun _ => ⟨by omega, fun h' => absurd h' e2, fun _ => h⟩, fun h' => absurd e1 h'⟩, fun h' => by omega⟩
  · exact (qZ 0 (d := 0) h3 (z := r) (by omega) (by omega)).map (Nat.le_refl _) fun t a' h => fG 8 _ _ _ _ _ _ ⟨_, _, _, h1, fun _ => ⟨fun h' => absurd h' e1, fun _ => h⟩, fun h' => by omega⟩
theorem qE {L : List Int} {k : Int} {B : Nat} {a : Int} (h : Gt L (fun t a' => aO L a k t L a') B) : Gt L (fun t a' => dG L a k t L a') (B + 1) := by
  obtain ⟨t, a2, g1, g2, g3⟩ := h
  cases hu : pw t.kind with
  | true => exact ⟨t, a2, lL 0 _ _ _ _ _ _ ⟨_, _, _, g1, _, oU _, fun h => absurd (hu.symm.trans h) (by decide), fun _ => ⟨rfl, rfl, rfl⟩⟩, g2, by omega⟩
  | false => exact ⟨_, a2, lL 0 _ _ _ _ _ _ ⟨_, _, _, g1, _, oU _, fun _ => ⟨rfl, rfl, rfl⟩, fun h => absurd (hu.symm.trans h) (by decide)⟩, g2, by rw [tb1]; simp only [List.length_nil]; omega⟩
theorem wP : ∀ d, 6 ≤ eB d
  | 0 => Nat.le_refl _
  | d + 1 => by have := wP d; simp only [eB]; omega
theorem Ax {L : List Int} : ∀ (d : Nat) {a : Int}, Dc L a → d ≤ 5 → Gt L (fun t a' => aO L a d t L a') (eB d) := fun d => by
  induction d with
  | zero => intro a hd _; exact vj hd
  | succ d ih =>
    intro a hd hd5
    obtain ⟨z, a1, h1, h2, h3⟩ := ea hd (n := 14) (by omega) (by omega)
    have top : ∀ {M t a'}, cc M ((d + 1 : Nat) : Int) L a1 z t L a' → aO L a ((d + 1 : Nat) : Int) t L a' := fun {M} {t} {a'} h => fG M _ _ _ _ _ _ ⟨_, _, _, h1, fun h' => by omega, fun _ => h⟩
    have sub : ∀ {a}, Dc L a → Gt L (fun t a' => aO L a (((d + 1 : Nat) : Int) - 1) t L a') (eB d) := fun {a} h => by rw [show ((d + 1 : Nat) : Int) - 1 = (d : Int) by omega]; exact ih h (by omega)
    have hB : eB (d + 1) = 3 * eB d + 20 := rfl
    have hp := wP d
    by_cases c5 : z ≤ 5
    · exact (qZ 0 (d := ((d + 1 : Nat) : Int)) h3 (by omega) c5).map (by omega) fun t a' h => top h
    have n0 : z ≠ 0 := by omega
    have n1 : z ≠ 1 := by omega
    have n2 : z ≠ 2 := by omega
    have n3 : z ≠ 3 := by omega
    have n4 : z ≠ 4 := by omega
    have n5 : z ≠ 5 := by omega
    by_cases c7 : z ≤ 7
    · -- a call
      obtain ⟨s, a2, g1, g2, g3⟩ := gd h3 [[102], [103], [104], [65, 46, 102], [66, 46, 103], [65, 46, 104]] (by decide) (by decide)
      have hs := fI g2 (by decide)
      obtain ⟨n, a3, g4, g5, g6⟩ := ea g3 (n := 4) (by omega) (by omega)
      have loop : ∀ (k : Nat) (a : Int) (l : List Tree), Dc L a → l.length + k ≤ 100 → Gt L (fun t a' => fq (k + 1) ((d + 1 : Nat) : Int) s L a l (k : Int) t L a') (s.length + 1 + kbulk l + k * (eB d + 1)) := fun k => by
        induction k with
        | zero => intro a l hd hl; exact ⟨_, a, kp 0 _ _ _ _ _ _ _ _ _ ⟨fun h => by omega, fun _ => ⟨rfl, rfl, rfl⟩⟩, hd, by rw [tbK]; omega⟩
        | succ k ihk =>
          intro a l hd hl
          obtain ⟨t, b, q1, q2, q3⟩ := sub hd
          refine (ihk b (l ++ [.node 17 [] [] [t]]) q2 (by simp; omega)).map ?_ fun t' a' h => kp (k + 1) _ _ _ _ _ _ _ _ _ ⟨fun _ => ⟨by omega, _, _, _, q1, by simp; omega, by omega, by rw [show ((k + 1 : Nat) : Int) - 1 = (k : Int) by omega]; exact h⟩, fun h => by omega⟩
          rw [eb, Nat.succ_mul]; simp only [kbulk, tb1, List.length_nil]
          omega
      refine (loop n.toNat a3 [] g6 (by simp; omega)).map (by
        have : n.toNat * (eB d + 1) ≤ 3 * (eB d + 1) := Nat.mul_le_mul_right _ (by omega)
        simp only [kbulk]; omega) fun t a' h => ?_
      have h8 : iB (n.toNat + 2) ((d + 1 : Nat) : Int) L a1 t L a' := oG (n.toNat + 1) _ _ _ _ _ _ ⟨_, _, _, g1, _, _, _, g4, by rw [show n = ((n.toNat : Nat) : Int) by omega]; exact h⟩
      refine top (up2 n0 n1 (up6 n2 n3 n4 n5 (rL6_semvcsmake_Expr (n.toNat + 3) _ _ _ _ _ _ _ ⟨fun _ => gZ (n.toNat + 2) _ _ _ _ _ _ _ _ ⟨fun _ => h8, fun h => nomatch h⟩, fun h => gZ (n.toNat + 2) _ _ _ _ _ _ _ _ ⟨fun _ => h8, fun h' => ?_⟩⟩)))
      have : z ≠ 7 := by simpa using h'
      omega
    have n6 : z ≠ 6 := by omega
    have n7 : z ≠ 7 := by omega
    have t9 : ∀ {M t a'}, ef M ((d + 1 : Nat) : Int) L a1 z t L a' → aO L a ((d + 1 : Nat) : Int) t L a' := fun h => top (up2 n0 n1 (up6 n2 n3 n4 n5 (up9 n6 n7 h)))
    by_cases c8 : z = 8
    · -- a list
      obtain ⟨n, a3, g4, g5, g6⟩ := ea h3 (n := 3) (by omega) (by omega)
      have loop : ∀ (k : Nat) (a : Int) (l : List Tree), Dc L a → l.length + k ≤ 100 → Gt L (fun t a' => fg (k + 1) ((d + 1 : Nat) : Int) L a l (k : Int) t L a') (1 + kbulk l + k * (eB d)) := fun k => by
        induction k with
        | zero => intro a l hd hl; exact ⟨_, a, j8 0 _ _ _ _ _ _ _ _ ⟨fun h => by omega, fun _ => ⟨rfl, rfl, rfl⟩⟩, hd, by rw [tbK]; simp only [List.length_nil]; omega⟩
        | succ k ihk =>
          intro a l hd hl
          obtain ⟨t, b, q1, q2, q3⟩ := sub hd
          refine (ihk b (l ++ [t]) q2 (by simp; omega)).map ?_ fun t' a' h => j8 (k + 1) _ _ _ _ _ _ _ _ ⟨fun _ => ⟨by omega, _, _, _, q1, by simp; omega, by omega, by rw [show ((k + 1 : Nat) : Int) - 1 = (k : Int) by omega]; exact h⟩, fun h => by omega⟩
          rw [eb, Nat.succ_mul]; simp only [kbulk]
          omega
      exact (loop (1 + n).toNat a3 [] g6 (by simp; omega)).map (by
        have : (1 + n).toNat * eB d ≤ 3 * eB d := Nat.mul_le_mul_right _ (by omega)
        simp only [kbulk]; omega) fun t a' h => t9 (kL ((1 + n).toNat + 1) _ _ _ _ _ _ _ ⟨fun _ => ⟨_, _, _, g4, by omega, by rw [show (((1 + n).toNat : Nat) : Int) = 1 + n by omega] at h; exact h⟩, fun h' => absurd c8 h'⟩)
    by_cases c9 : z = 9
    · obtain ⟨t1, b1, q1, r1, s1⟩ := sub h3
      obtain ⟨t2, b2, q2, r2, s2⟩ := sub r1
      obtain ⟨t3, b3, q3, r3, s3⟩ := sub r2
      exact ⟨_, b3, t9 (Aj c8 (kx 1 _ _ _ _ _ _ _ ⟨fun _ => nX 0 _ _ _ _ _ _ ⟨by omega, _, _, _, q1, by omega, _, _, _, q2, by omega, _, _, _, q3, rfl, rfl, rfl⟩, fun h => absurd c9 h⟩)), r3, by rw [tb3]; simp only [List.length_nil]; omega⟩
    have t14 : ∀ {M t a'}, dX M ((d + 1 : Nat) : Int) L a1 z t L a' → aO L a ((d + 1 : Nat) : Int) t L a' := fun h => t9 (Aj c8 (Cl c9 h))
    by_cases c11 : z ≤ 11
    · obtain ⟨s, b0, g1, g2, g3⟩ := gd h3 [[120], [121], [122]] (by decide) (by decide)
      have hs := fI g2 (by decide)
      obtain ⟨t1, b1, q1, r1, s1⟩ := sub g3
      obtain ⟨t2, b2, q2, r2, s2⟩ := sub r1
      refine ⟨.node 20 s [] [t1, t2], b2, ?_, r2, by rw [tb2]; omega⟩
      have h16 : gL 1 ((d + 1 : Nat) : Int) L a1 (.node 20 s [] [t1, t2]) L b2 := oh 0 _ _ _ _ _ _ ⟨_, _, _, g1, by omega, _, _, _, q1, by omega, _, _, _, q2, rfl, rfl, rfl⟩
      refine t14 (rL14_semvcsmake_Expr 2 _ _ _ _ _ _ _ ⟨fun _ => gD 1 _ _ _ _ _ _ _ _ ⟨fun _ => h16, fun h => nomatch h⟩, fun h => gD 1 _ _ _ _ _ _ _ _ ⟨fun _ => h16, fun h' => ?_⟩⟩)
      have : z ≠ 11 := by simpa using h'
      omega
    have t17 : ∀ {M t a'}, fi M ((d + 1 : Nat) : Int) L a1 z t L a' → aO L a ((d + 1 : Nat) : Int) t L a' := fun h => t14 (Cd (by omega) (by omega) h)
    by_cases c12 : z = 12
    · obtain ⟨s, b0, g1, g2, g3⟩ := gd h3 [[43], [45], [42], [60], [61, 61]] (by decide) (by decide)
      have hs := fI g2 (by decide)
      obtain ⟨t1, b1, q1, r1, s1⟩ := qE (sub g3)
      obtain ⟨n, b2, q2, q3, q4⟩ := ea r1 (n := 3) (by omega) (by omega)
      by_cases hn : n = 0
      · obtain ⟨s', b3, g4, g5, g6⟩ := gd q4 [[43], [42]] (by decide) (by decide)
        have hs' := fI g5 (by decide)
        obtain ⟨t2, b4, q5, r5, s5⟩ := qE (vj g6)
        obtain ⟨t3, b5, q6, r6, s6⟩ := qE (sub r5)
        exact ⟨_, b5, t17 (gq 1 _ _ _ _ _ _ _ ⟨fun _ => kr 0 _ _ _ _ _ _ ⟨_, _, _, g1, by omega, _, _, _, q1, _, _, _, q2, fun _ => ⟨_, _, _, g4, _, _, _, q5, by omega, _, _, _, q6, rfl, rfl, rfl⟩, fun h => absurd hn h⟩, fun h => absurd c12 h⟩), r6, by rw [tb2, tb2]; omega⟩
      · obtain ⟨t3, b5, q6, r6, s6⟩ := qE (sub q4)
        exact ⟨_, b5, t17 (gq 1 _ _ _ _ _ _ _ ⟨fun _ => kr 0 _ _ _ _ _ _ ⟨_, _, _, g1, by omega, _, _, _, q1, _, _, _, q2, fun h => absurd h hn, fun _ => ⟨by omega, _, _, _, q6, rfl, rfl, rfl⟩⟩, fun h => absurd c12 h⟩), r6, by rw [tb2]; omega⟩
    · obtain ⟨t1, b1, q1, r1, s1⟩ := sub h3
      exact ⟨_, b1, t17 (gq 1 _ _ _ _ _ _ _ ⟨fun h => absurd h c12, fun _ => ⟨by omega, _, _, _, q1, rfl, rfl, rfl⟩⟩), r1, by rw [tb1]; simp only [List.length_nil]; omega⟩
end Go.Proofs.YtiknldgpnhikhaaGreat
namespace Go.Proofs.YtiknldgpnhikhaaGreat
open Go.RowKit Lx
set_option maxRecDepth 100000
def gx : Bool → List UInt8 → Bool
  | c, [] => c
  | c, x :: r => gx (if x.toNat = 10 then false else if x.toNat = 35 then true else c) r
theorem kl : ∀ (b : Bool) (l : List UInt8) (n m : Nat), aN b l (n + m) = ((aN b l n).1 + m, (aN b l n).2.map (· + m))
  | b, [], n, m => by cases b <;> simp [aN]
  | false, c :: r, n, m => by
    have h1 := kl false r (n + 1) m
    have h2 := kl true r (n + 1) m
    unfold aN
    split
    · rw [← h1]; congr 1; omega
    · split
      · rw [← h2]; congr 1; omega
      · simp
  | true, c :: r, n, m => by
    have h1 := kl false r (n + 1) m
    have h2 := kl true r (n + 1) m
    unfold aN
    split
    · rw [← h1]; congr 1; omega
    · split
      · simp
      · rw [← h2]; congr 1; omega
def gK (c : Bool) (l : List UInt8) : Bool := (aN c l 0).2.isNone && (aN c l 0).1 == l.length
theorem lA {c d : Bool} {x : UInt8} {r : List UInt8} (h : aN c (x :: r) 0 = aN d r 1) : gK c (x :: r) = gK d r := by
  unfold gK
  rw [h, show (1 : Nat) = 0 + 1 from rfl, kl]
  simp
theorem qD : ∀ (l : List UInt8) (c fin : Bool), fC c l fin = (gK c l && (!gx c l || fin))
  | [], c, fin => by cases c <;> cases fin <;> rfl
  | x :: r, c, fin => by
    have ih := qD r
    unfold fC gx
    cases c with
    | true =>
      by_cases ha : aY x = false
      · have h10 : ¬ x.toNat = 10 := fun h => by simp [aY, bN, h] at ha
        have : gK true (x :: r) = false := by simp [gK, aN, h10, ha]
        rw [if_pos ha, this]; rfl
      · have ha' : aY x = true := by simpa using ha
        rw [if_neg ha, if_pos rfl, ih]
        by_cases h10 : x.toNat = 10
        · rw [lA (d := false) (by simp [aN, h10])]; simp [h10]
        · have hb : (x.toNat == 10) = false := by simpa using h10
          rw [lA (d := true) (by simp [aN, h10, ha']), hb]; simp [h10]
    | false =>
      by_cases ha : aY x = false
      · have hw : bN x = false := by cases h : bN x <;> simp_all [aY]
        have h35 : ¬ x.toNat = 35 := fun h => by simp [aY, dc, h] at ha
        have : gK false (x :: r) = false := by simp [gK, aN, hw, h35]
        rw [if_pos ha, this]; rfl
      · rw [if_neg ha, if_neg (by simp)]
        by_cases h35 : x.toNat = 35
        · have hw : bN x = false := by simp [bN, h35]
          rw [if_pos h35, ih, lA (d := true) (by simp [aN, h35, hw])]; simp [h35]
        · rw [if_neg h35]
          by_cases hw : bN x = false
          · have : gK false (x :: r) = false := by simp [gK, aN, hw, h35]
            rw [if_pos hw, this]; rfl
          · have hw' : bN x = true := by simpa using hw
            rw [if_neg hw, ih, lA (d := false) (by simp [aN, hw'])]
            by_cases h10 : x.toNat = 10 <;> simp [h10, h35]
theorem sq {l : List UInt8} {k : Nat} {x : UInt8} {c : Bool} (h : k < l.length) (hc : l[k] = x) : gx c (l.drop k) = gx (if x.toNat = 10 then false else if x.toNat = 35 then true else c) (l.drop (k + 1)) := by
  rw [List.drop_eq_getElem_cons h, hc]; rfl
theorem ua {l : List UInt8} {k : Nat} {c : Bool} (h : l.length ≤ k) : gx c (l.drop k) = c := by
  rw [List.drop_of_length_le h]; rfl
end Go.Proofs.YtiknldgpnhikhaaGreat
namespace Go.Proofs.YtiknldgpnhikhaaGreat
open Go.RowKit Lx
set_option maxRecDepth 100000
set_option maxHeartbeats 1000000 in
theorem Af (l : List UInt8) (fin : Bool) (w : World) (hl : l.length ≤ 281474976710656) : Calls Tryz.prog 105 #[.string ⟨l.toArray⟩, .bool fin] w fun e w' => e = .returned (.bool (fC false l fin)) ∧ w = w' := by
  obtain ⟨n, b, hLd⟩ : ∃ n b, aN false l 0 = (n, b) := ⟨_, _, rfl⟩
  have hnl : n ≤ l.length := by have h := lb false l 0; rw [hLd] at h; simpa using h
  have HLd := Lib.hid hLd
  have HW := Lib.hid (show gK false l = (b.isNone && n == l.length) from by rw [gK, hLd])
  have HT := Lib.hid (qD l false fin)
  clear hLd
  go_enter Tryz.func105, Tryz.ntmps105
  go_wp2_with fail
  refine (zc l 0 0 rfl _ (Nat.zero_le _) hl).mono ?_
  rintro e w' ⟨rfl, rfl⟩
  rw [List.drop_zero, HLd.out]
  cases b with
  | some q =>
    have hq2 : p5 0 (some q) = ((0 + q : Nat) : Int) := rfl
    rw [hq2, Nat.zero_add]
    have hq : (0 : Int) ≤ (q : Int) := by omega
    have HF := Lib.hid (show fC false l fin = false from by rw [HT.out, HW.out]; rfl)
    go_wp2
    go_ret
    exact ⟨bu HF.out.symm, rfl⟩
  | none =>
    have hq2 : p5 0 none = -1 := rfl
    rw [hq2]
    clear hq2
    by_cases hn : n < l.length
    · have HF := Lib.hid (show fC      false l fin = false from by rw [HT.out, HW.out]; have : (n == l.length) = false := by simp; omega
                                                                   rw [this]; rfl)
      go_wp2
      go_ret
      exact ⟨bu HF.out.symm, rfl⟩
    · have hnb : decide (n < l.length) = false := by simpa using hn
      have HF := Lib.hid (show fC false l fin = (!gx false l || fin) from by
        rw [HT.out, HW.out]; have : (n == l.length) = true := by simp; omega
        rw [this]; rfl)
      cases fin with
      | true =>
        go_wp2
        go_ret
        exact ⟨bu (by rw [HF.out]; simp), rfl⟩
      | false =>
        obtain ⟨r, hr⟩ : ∃ r, gx false l = r := ⟨_, rfl⟩
        have HR := Lib.hid hr; clear hr
        go_wp2
        go_loopg [7, 8] l.length (fun g s7 s8 wx => ∃ (i : Nat) (c : Bool), g = l.length - i ∧ wx = w ∧ i ≤ l.length ∧ s7 = .bool c ∧ s8 = .int .i64 i ∧ Hid (gx c (l.drop i) = r))
        case atStart => exact ⟨0, false, rfl, rfl, Nat.zero_le _, rfl, rfl, Lib.hid (by simpa using HR.out)⟩
        case round =>
          obtain ⟨i, c, rfl, rfl, hil, rfl, rfl, HC⟩ := hrel
          by_cases hit : i < l.length
          rotate_left
          · have HF2 := Lib.hid (show c = r from by rw [← HC.out, ua (by omega)])
            go_wp2_with fail
            go_ret
            exact ⟨bu (by rw [HF.out, HR.out, HF2.out]; simp), rfl⟩
          obtain ⟨x, hx⟩ : ∃ c, ({ data := l.toArray } : ByteArray)[i]'hit = c := ⟨_, rfl⟩
          have HXi := Lib.hid (show l[i] = x from hx)
          have HS := Lib.hid (HC.out.symm.trans (sq hit HXi.out))
          clear HC
          cases h35 : ((x.toNat : Int) == 35) <;> cases h10 : ((x.toNat : Int) == 10)
          · go_wp2
            go_roundg (l.length - (i + 1))
            case measure => omega
            case rel => exact ⟨i + 1, c, rfl, rfl, by omega, rfl, by go_num, Lib.hid (by rw [HS.out, if_neg (bR (m := 10) h10), if_neg (bR (m := 35) h35)])⟩
          · go_wp2
            go_roundg (l.length - (i + 1))
            case measure => omega
            case rel => exact ⟨i + 1, false, rfl, rfl, by omega, rfl, by go_num, Lib.hid (by rw [HS.out, if_pos (cR (m := 10) h10)])⟩
          · go_wp2
            go_roundg (l.length - (i + 1))
            case measure => omega
            case rel => exact ⟨i + 1, true, rfl, rfl, by omega, rfl, by go_num, Lib.hid (by rw [HS.out, if_neg (bR (m := 10) h10), if_pos (cR (m := 35) h35)])⟩
          · have h1 := cR (m := 10) h10
            have h2 := cR (m := 35) h35
            omega
end Go.Proofs.YtiknldgpnhikhaaGreat
namespace Go.Proofs.YtiknldgpnhikhaaGreat
open Go.RowKit Lx
set_option maxRecDepth 100000
theorem yz (a b : List UInt8) : (ByteArray.mk a.toArray) ++ (ByteArray.mk b.toArray) = ⟨(a ++ b).toArray⟩ := by
  apply ByteArray.ext; simp
theorem rH {a b : List UInt8} (h : bi a = 0 ∨ bi b = 0) : fusesT a b = false := by simp [fusesT, h]
theorem mn {a b : List UInt8} (h : ¬ (bi a = 0 ∨ bi b = 0)) (h2 : ¬ ((scan (a ++ b)).err = 0 ∧ (scan (a ++ b)).toks.length = 2 ∧ (scan (a ++ b)).tail = [])) : fusesT a b = true := by
  unfold fusesT; rw [if_neg h]; simp only; rw [if_neg h2]
theorem vx {a b : List UInt8} {t0 t1 : Tok} (h : ¬ (bi a = 0 ∨ bi b = 0)) (h1 : (scan (a ++ b)).err = 0) (h2 : (scan (a ++ b)).toks = [t0, t1]) (h3 : (scan (a ++ b)).tail = []) :
    fusesT a b = !(t0.lead == [] && t0.text == a && t1.lead == [] && t1.text == b) := by
  unfold fusesT; rw [if_neg h]; simp only; rw [h1, h2, h3]; simp
theorem vW {l : List UInt8} {b : Bool} (h : (l == []) = b) : l.isEmpty = b := by rw [← h]; cases l <;> rfl
theorem sH {l : List Tok} (h : l.length = 2) : ∃ t0 t1, l = [t0, t1] := by
  match l, h with
  | [a, b], _ => exact ⟨a, b, rfl⟩
set_option maxHeartbeats 2000000 in
theorem AT (a b : List UInt8) (w : World) (ha : a.length ≤ 140737488355328) (hb : b.length ≤ 140737488355328) : Calls Tryz.prog 77 #[.string ⟨a.toArray⟩, .string ⟨b.toArray⟩] w fun e w' => e = .returned (.bool (fusesT a b)) ∧ Ext w w' := by
  have hx := yz
  obtain ⟨ka, hka⟩ : ∃ k, bi a = k := ⟨_, rfl⟩
  obtain ⟨kb, hkb⟩ : ∃ k, bi b = k := ⟨_, rfl⟩
  have HKa := Lib.hid hka
  have HKb := Lib.hid hkb
  clear hka hkb
  go_enter Tryz.func77, Tryz.ntmps77
  go_wp2_with fail
  refine (tQ _ _ (by omega)).mono ?_
  rintro e1 w1 ⟨rfl, hx1⟩
  rw [HKa.out]
  have HX1 := Lib.hid hx1; clear hx1
  by_cases h1 : ka = 0
  · subst h1
    go_wp2_with fail
    go_ret
    exact ⟨bu (rH (.inl HKa.out)).symm, HX1.out⟩
  have h1b : ((ka : Int) == 0) = false := by simp; omega
  go_wp2_with fail
  refine (tQ _ _ (by omega)).mono ?_
  rintro e2 w2 ⟨rfl, hx2⟩
  rw [HKb.out]
  have HX2 := Lib.hid (HX1.out.trans hx2); clear hx2
  by_cases h2 : kb = 0
  · subst h2
    go_wp2_with fail
    go_ret
    exact ⟨bu (rH (.inr HKb.out)).symm, HX2.out⟩
  have h2b : ((kb : Int) == 0) = false := by simp; omega
  have HN := Lib.hid (show ¬ (bi a = 0 ∨ bi b = 0) from by rw [HKa.out, HKb.out]; omega)
  obtain ⟨Rs, hRs⟩ : ∃ Rs, scan (a ++ b) = Rs := ⟨_, rfl⟩
  have HRs := Lib.hid hRs
  clear hRs
  go_wp2_with fail
  refine (BS _ _ (by simp; omega)).mono ?_
  rintro e3 w3 ⟨v, rfl, htr, hx3⟩
  rw [HRs.out] at htr ⊢
  obtain ⟨A, c, rfl, hc1, hc2, hrow⟩ := htr
  unfold maxLen at hc2
  have HX3 := Lib.hid (HX2.out.trans hx3); clear hx3
  have HRow := Lib.hid hrow; clear hrow
  obtain ⟨toks, tail, place, er⟩ := Rs
  simp only at HRow hc1 hc2 ⊢
  by_cases h3 : er = 0
  rotate_left
  · have h3b : ((er : Int) != 0) = true := by simp; omega
    have HF := Lib.hid (mn HN.out (fun h => h3 (by rw [HRs.out] at h; exact h.1)))
    go_wp2_with fail
    go_ret
    exact ⟨bu HF.out.symm, HX3.out⟩
  subst h3
  by_cases h4 : toks.length = 2
  rotate_left
  · have h4b : ((toks.length : Int) != 2) = true := by simp; omega
    have HF := Lib.hid (mn HN.out (fun h => h4 (by rw [HRs.out] at h; exact h.2.1)))
    go_wp2_with fail
    go_ret
    exact ⟨bu HF.out.symm, HX3.out⟩
  by_cases h5 : tail = []
  rotate_left
  · have h5b : (tail == []) = false := by simpa using h5
    have h5c : tail.isEmpty = false := by simpa using h5
    obtain ⟨t0, t1, rfl⟩ := sH h4
    have HF := Lib.hid (mn HN.out (fun h => h5 (by rw [HRs.out] at h; exact h.2.2)))
    clear h5 h4
    go_wp2_with fail
    go_ret
    exact ⟨bu HF.out.symm, HX3.out⟩
  subst h5
  obtain ⟨t0, t1, rfl⟩ := sH h4
  clear h4
  obtain ⟨b0, off, rfl, hb0, p0, p1, p2⟩ := rJ HRow.out (k := 0) (by simp)
  obtain ⟨b0', off', heq, _, q0, q1, q2⟩ := rJ HRow.out (k := 1) (by simp)
  obtain ⟨rfl, rfl⟩ : b0 = b0' ∧ off = off' := by simpa using heq
  clear heq
  have HF := Lib.hid (vx HN.out (by rw [HRs.out]) (by rw [HRs.out]) (by rw [HRs.out]))
  simp only [Nat.zero_mul, Nat.one_mul, Nat.add_zero, List.getElem_cons_zero, List.getElem_cons_succ] at p0 p1 p2 q0 q1 q2
  cases g1 : (t0.text == a)
  · skip
    go_wp2_with fail
    go_ret
    exact ⟨bu (by rw [HF.out, g1]; simp), HX3.out⟩
  cases g0 : (t0.lead == [])
  · skip
    have g0' : t0.lead.isEmpty = false := by simpa using g0
    go_wp2_with fail
    go_ret
    exact ⟨bu (by rw [HF.out, g1, g0]; simp), HX3.out⟩
  have g0' : t0.lead.isEmpty = true := by simpa using g0
  cases g3 : (t1.text == b)
  · skip
    go_wp2_with fail
    go_ret
    exact ⟨bu (by rw [HF.out, g1, g0, g3]; simp), HX3.out⟩
  cases g2 : (t1.lead == [])
  all_goals
    have g2' := vW g2
    go_wp2_with fail
    go_ret
    exact ⟨bu (by rw [HF.out, g1, g0, g3, g2]; simp), HX3.out⟩
end Go.Proofs.YtiknldgpnhikhaaGreat
namespace Go.Proofs.YtiknldgpnhikhaaGreat
open Go.RowKit Lx Sx
set_option maxHeartbeats 1000000
theorem yD (a b : List UInt8) (ha : a.length ≤ 140737488355328) (hb : b.length ≤ 140737488355328) : kU a b (fusesT a b) := sum0_calls rfl rfl fun S w ρ xs hx => by
  simp only [LRel] at hx
  obtain ⟨x, ys, rfl, h1, y, zs, rfl, h2, rfl⟩ := hx
  simp only [VRel] at h1 h2; subst h1 h2
  exact (AT a b w ha hb).mono fun e w' ⟨h1, h2⟩ => ⟨_, h1, by simp only [VRel], vi h2⟩
theorem rD (a : List UInt8) (f : Bool) (ha : a.length ≤ 140737488351232) : gv a f (fC false a f) := sum0_calls rfl rfl fun S w ρ xs hx => by
  simp only [LRel] at hx
  obtain ⟨x, ys, rfl, h1, y, zs, rfl, h2, rfl⟩ := hx
  simp only [VRel] at h1 h2; subst h1 h2
  exact (Af a f w (by omega)).mono fun e w' ⟨h1, h2⟩ => ⟨_, h1, by simp only [VRel], h2 ▸ Chg.refl _ _⟩
abbrev Pce := GSemvcsref02Piece
def Qp (l : List Pce) : Prop := ∀ x ∈ l, x.Lead.length ≤ 1000000 ∧ x.Text.length ≤ 1000010
theorem bV {a b : List Pce} : Qp (a ++ b) ↔ Qp a ∧ Qp b := ⟨fun h => ⟨fun x hx => h x (by simp [hx]), fun x hx => h x (by simp [hx])⟩, fun h x hx => by rcases List.mem_append.1 hx with h1 | h1; exact h.1 x h1; exact h.2 x h1⟩
theorem bA {x : Pce} {a : List Pce} : Qp (x :: a) ↔ (x.Lead.length ≤ 1000000 ∧ x.Text.length ≤ 1000010) ∧ Qp a := ⟨fun h => ⟨h x (by simp), fun y hy => h y (by simp [hy])⟩, fun h y hy => by rcases List.mem_cons.1 hy with h1 | h1; subst h1; exact h.1; exact h.2 y h1⟩
theorem bM : Qp [] := fun x hx => by cases hx
theorem bj {t : Tree} (k : Nat) (ht : tbulk t ≤ 1000000) : ∃ s, ai t (k : Int) s ∧ s.length ≤ 1000000 := by
  by_cases h : (k : Int) < (t.leads.length : Nat)
  · obtain ⟨s, hs, _⟩ | h' := aU t.leads k
    · have := pZ hs
      have := bC t
      exact ⟨s, kP 0 _ _ _ ⟨fun _ => ⟨k, rfl, s, hs, rfl⟩, fun h' => absurd h h'⟩, by omega⟩
    · omega
  · exact ⟨[], kP 0 _ _ _ ⟨fun h' => absurd h' h, fun _ => rfl⟩, by simp⟩
def Pok (t : Tree) : Prop := ∀ l, l.length + 8 * tbulk t ≤ 900000000 → ∃ r, az l t r ∧ r.length + 1 ≤ l.length + 8 * tbulk t ∧ (Qp l → Qp r)
theorem pL {k n : Int} : ∀ {l : List Tree} {i : Nat}, shapeKs k n i l = true → ∀ j u, l[j]? = some u → hZ k n ((i + j : Nat) : Int) u.kind = true ∧ shapeK u = true
  | [], _, _, j, u, h => by simp at h
  | t :: r, i, hs, 0, u, h => by
    simp only [shapeKs, Bool.and_eq_true] at hs
    simp at h; subst h
    exact ⟨hs.1.1, hs.1.2⟩
  | t :: r, i, hs, j + 1, u, h => by
    simp only [shapeKs, Bool.and_eq_true] at hs
    have := pL hs.2 j u (by simpa using h)
    rw [show i + 1 + j = i + (j + 1) by omega] at this
    exact this
theorem se {t u : Tree} {i : Nat} (hs : shapeK t = true) (hu : t.kids[i]? = some u) : shapeK u = true ∧ hZ t.kind t.kids.length i u.kind = true := by
  rw [dI] at hs
  simp only [Bool.and_eq_true] at hs
  have := pL hs.2 i u hu
  rw [Nat.zero_add] at this
  exact ⟨this.2, this.1⟩
theorem mW {t : Tree} (hs : shapeK t = true) : 0 ≤ cH t.kind t.kids.length := by
  rw [dI] at hs
  simp only [Bool.and_eq_true, decide_eq_true_eq] at hs
  exact hs.1.1
theorem eL {t : Tree} (hs : shapeK t = true) : (t.kind = 2 → 2 ≤ t.kids.length) ∧ (t.kind = 18 → 1 ≤ t.kids.length) ∧ (t.kind = 3 ∨ t.kind = 4 ∨ t.kind = 8 ∨ t.kind = 17 ∨ t.kind = 22 → t.kids.length = 1) ∧ (t.kind = 19 → t.kids.length = 3) ∧ (t.kind = 20 ∨ t.kind = 21 → t.kids.length = 2) := by
  have h := mW hs
  refine ⟨fun hk => ?_, fun hk => ?_, fun hk => ?_, fun hk => ?_, fun hk => ?_⟩
  · rw [hk] at h; simp only [cH, f0] at h; simp at h; omega
  · rw [hk] at h; simp only [cH, f0] at h; simp at h; omega
  · rcases hk with hk | hk | hk | hk | hk <;> (rw [hk] at h; simp only [cH, f0] at h; simp at h; omega)
  · rw [hk] at h; simp only [cH, f0] at h; simp at h; omega
  · rcases hk with hk | hk <;> (rw [hk] at h; simp only [cH, f0] at h; simp at h; omega)
theorem p_5 {t : Tree} (hk : t.kind = 5) (ht : tbulk t ≤ 1000000) : Pok t := fun l hl => by
  obtain ⟨s1, g1, b1⟩ := bj 0 ht
  have htp := bt t
  have M := 0
  refine ⟨l ++ [⟨s1, [73, 110, 116]⟩], ?_, by simp; omega, fun hq => by simp only [bV, bA]; exact ⟨hq, ⟨b1, by decide⟩, bM⟩⟩
  exact ax (M + 5) _ _ _ ⟨fun h => absurd (hk.symm.trans h) (by decide), fun _ => aA (M + 4) _ _ _ ⟨fun h => absurd (hk.symm.trans h) (by decide), fun _ => aD (M + 3) _ _ _ ⟨fun h => absurd (hk.symm.trans h) (by decide), fun _ => aI (M + 2) _ _ _ ⟨fun h => absurd (hk.symm.trans h) (by decide), fun _ => aM (M + 1) _ _ _ ⟨fun _ => ⟨_, g1, by simp; omega, rfl⟩, fun h => absurd hk h⟩⟩⟩⟩⟩
theorem p_6 {t : Tree} (hk : t.kind = 6) (ht : tbulk t ≤ 1000000) : Pok t := fun l hl => by
  obtain ⟨s1, g1, b1⟩ := bj 0 ht
  have htp := bt t
  have M := 0
  refine ⟨l ++ [⟨s1, [84, 101, 120, 116]⟩], ?_, by simp; omega, fun hq => by simp only [bV, bA]; exact ⟨hq, ⟨b1, by decide⟩, bM⟩⟩
  exact ax (M + 6) _ _ _ ⟨fun h => absurd (hk.symm.trans h) (by decide), fun _ => aA (M + 5) _ _ _ ⟨fun h => absurd (hk.symm.trans h) (by decide), fun _ => aD (M + 4) _ _ _ ⟨fun h => absurd (hk.symm.trans h) (by decide), fun _ => aI (M + 3) _ _ _ ⟨fun h => absurd (hk.symm.trans h) (by decide), fun _ => aM (M + 2) _ _ _ ⟨fun h => absurd (hk.symm.trans h) (by decide), fun _ => aQ (M + 1) _ _ _ ⟨fun _ => ⟨_, g1, by simp; omega, rfl⟩, fun h => absurd hk h⟩⟩⟩⟩⟩⟩
theorem p_7 {t : Tree} (hk : t.kind = 7) (ht : tbulk t ≤ 1000000) : Pok t := fun l hl => by
  obtain ⟨s1, g1, b1⟩ := bj 0 ht
  have htp := bt t
  have M := 0
  refine ⟨l ++ [⟨s1, [66, 111, 111, 108]⟩], ?_, by simp; omega, fun hq => by simp only [bV, bA]; exact ⟨hq, ⟨b1, by decide⟩, bM⟩⟩
  exact ax (M + 7) _ _ _ ⟨fun h => absurd (hk.symm.trans h) (by decide), fun _ => aA (M + 6) _ _ _ ⟨fun h => absurd (hk.symm.trans h) (by decide), fun _ => aD (M + 5) _ _ _ ⟨fun h => absurd (hk.symm.trans h) (by decide), fun _ => aI (M + 4) _ _ _ ⟨fun h => absurd (hk.symm.trans h) (by decide), fun _ => aM (M + 3) _ _ _ ⟨fun h => absurd (hk.symm.trans h) (by decide), fun _ => aQ (M + 2) _ _ _ ⟨fun h => absurd (hk.symm.trans h) (by decide), fun _ => aS (M + 1) _ _ _ ⟨fun _ => ⟨_, g1, by simp; omega, rfl⟩, fun h => absurd hk h⟩⟩⟩⟩⟩⟩⟩
theorem B1 {t : Tree} (hk : t.kind = 13) (ht : tbulk t ≤ 1000000) : Pok t := fun l hl => by
  obtain ⟨s1, g1, b1⟩ := bj 0 ht
  have htp := bt t
  have M := 0
  refine ⟨l ++ [⟨s1, [116, 114, 117, 101]⟩], ?_, by simp; omega, fun hq => by simp only [bV, bA]; exact ⟨hq, ⟨b1, by decide⟩, bM⟩⟩
  exact ax (M + 8) _ _ _ ⟨fun h => absurd (hk.symm.trans h) (by decide), fun _ => aA (M + 7) _ _ _ ⟨fun h => absurd (hk.symm.trans h) (by decide), fun _ => aD (M + 6) _ _ _ ⟨fun h => absurd (hk.symm.trans h) (by decide), fun _ => aI (M + 5) _ _ _ ⟨fun h => absurd (hk.symm.trans h) (by decide), fun _ => aM (M + 4) _ _ _ ⟨fun h => absurd (hk.symm.trans h) (by decide), fun _ => aQ (M + 3) _ _ _ ⟨fun h => absurd (hk.symm.trans h) (by decide), fun _ => aS (M + 2) _ _ _ ⟨fun h => absurd (hk.symm.trans h) (by decide), fun _ => aX (M + 1) _ _ _ ⟨fun _ => ⟨_, g1, by simp; omega, rfl⟩, fun h => absurd hk h⟩⟩⟩⟩⟩⟩⟩⟩
theorem Ca {t : Tree} (hk : t.kind = 14) (ht : tbulk t ≤ 1000000) : Pok t := fun l hl => by
  obtain ⟨s1, g1, b1⟩ := bj 0 ht
  have htp := bt t
  have M := 0
  refine ⟨l ++ [⟨s1, [102, 97, 108, 115, 101]⟩], ?_, by simp; omega, fun hq => by simp only [bV, bA]; exact ⟨hq, ⟨b1, by decide⟩, bM⟩⟩
  exact ax (M + 9) _ _ _ ⟨fun h => absurd (hk.symm.trans h) (by decide), fun _ => aA (M + 8) _ _ _ ⟨fun h => absurd (hk.symm.trans h) (by decide), fun _ => aD (M + 7) _ _ _ ⟨fun h => absurd (hk.symm.trans h) (by decide), fun _ => aI (M + 6) _ _ _ ⟨fun h => absurd (hk.symm.trans h) (by decide), fun _ => aM (M + 5) _ _ _ ⟨fun h => absurd (hk.symm.trans h) (by decide), fun _ => aQ (M + 4) _ _ _ ⟨fun h => absurd (hk.symm.trans h) (by decide), fun _ => aS (M + 3) _ _ _ ⟨fun h => absurd (hk.symm.trans h) (by decide), fun _ => aX (M + 2) _ _ _ ⟨fun h => absurd (hk.symm.trans h) (by decide), fun _ => aZ (M + 1) _ _ _ ⟨fun _ => ⟨_, g1, by simp; omega, rfl⟩, fun h => absurd hk h⟩⟩⟩⟩⟩⟩⟩⟩⟩
theorem Ce {t : Tree} (hk : t.kind = 15) (ht : tbulk t ≤ 1000000) : Pok t := fun l hl => by
  obtain ⟨s1, g1, b1⟩ := bj 0 ht
  have htp := bt t
  have M := 0
  refine ⟨l ++ [⟨s1, [63]⟩], ?_, by simp; omega, fun hq => by simp only [bV, bA]; exact ⟨hq, ⟨b1, by decide⟩, bM⟩⟩
  exact ax (M + 10) _ _ _ ⟨fun h => absurd (hk.symm.trans h) (by decide), fun _ => aA (M + 9) _ _ _ ⟨fun h => absurd (hk.symm.trans h) (by decide), fun _ => aD (M + 8) _ _ _ ⟨fun h => absurd (hk.symm.trans h) (by decide), fun _ => aI (M + 7) _ _ _ ⟨fun h => absurd (hk.symm.trans h) (by decide), fun _ => aM (M + 6) _ _ _ ⟨fun h => absurd (hk.symm.trans h) (by decide), fun _ => aQ (M + 5) _ _ _ ⟨fun h => absurd (hk.symm.trans h) (by decide), fun _ => aS (M + 4) _ _ _ ⟨fun h => absurd (hk.symm.trans h) (by decide), fun _ => aX (M + 3) _ _ _ ⟨fun h => absurd (hk.symm.trans h) (by decide), fun _ => aZ (M + 2) _ _ _ ⟨fun h => absurd (hk.symm.trans h) (by decide), fun _ => bg (M + 1) _ _ _ ⟨fun _ => ⟨_, g1, by simp; omega, rfl⟩, fun h => absurd hk h⟩⟩⟩⟩⟩⟩⟩⟩⟩⟩
theorem no {l : List Tree} {u : Tree} (h0 : l[0]? = some u) : tbulk u ≤ kbulk l := dJ h0
theorem ru {l : List Tree} {u v : Tree} (h0 : l[0]? = some u) (h1 : l[1]? = some v) : tbulk u + tbulk v ≤ kbulk l := by
  match l, h0, h1 with
  | a :: r, h0, h1 => simp at h0; subst h0; have := dJ (ks := r) (i := 0) (by simpa using h1); simp only [kbulk]; omega
theorem zx {l : List Tree} {u v x : Tree} (h0 : l[0]? = some u) (h1 : l[1]? = some v) (h2 : l[2]? = some x) : tbulk u + tbulk v + tbulk x ≤ kbulk l := by
  match l, h0, h1, h2 with
  | a :: r, h0, h1, h2 => simp at h0; subst h0; have := ru (l := r) (by simpa using h1) (by simpa using h2); simp only [kbulk]; omega
theorem p_3 {t : Tree} (hk : t.kind = 3) (hs : shapeK t = true) (ht : tbulk t ≤ 1000000) (ih : ∀ (i : Nat) (u : Tree), t.kids[i]? = some u → Pok u) : Pok t := fun l hl => by
  have htp := bt t
  have htx := cf t
  have hn := eL hs
  have M := 0
  have hkn : t.kids.length = 1 := hn.2.2.1 (by simp [hk])
  obtain ⟨u0, hu0, _⟩ | h' := aU t.kids 0
  rotate_left
  · omega
  have hsum : tbulk u0 + 1 ≤ tbulk t := by
    have hb := bC t
    have hx := no hu0
    omega
  obtain ⟨s1, g1, b1⟩ := bj 0 ht
  obtain ⟨s2, g2, b2⟩ := bj 1 ht
  obtain ⟨s3, g3, b3⟩ := bj 2 ht
  have q1 : Qp l → Qp (l ++ [⟨s1, [116, 121, 112, 101]⟩, ⟨s2, t.text⟩, ⟨s3, [61]⟩]) := fun hq => by simp only [bV, bA]; exact ⟨hq, ⟨b1, by decide⟩, ⟨b2, by omega⟩, ⟨b3, by decide⟩, bM⟩
  obtain ⟨r0, e0, z0, y0⟩ := ih 0 u0 hu0 (l ++ [⟨s1, [116, 121, 112, 101]⟩, ⟨s2, t.text⟩, ⟨s3, [61]⟩]) (by first | omega | (simp only [List.length_append, List.length_cons, List.length_nil]; omega))
  try simp only [List.length_append, List.length_cons, List.length_nil] at z0
  refine ⟨r0, ?_, by first | omega | (simp only [List.length_append, List.length_cons, List.length_nil]; omega), fun hq => (y0 (q1 hq))⟩
  exact ax (M + 3) _ _ _ ⟨fun h => absurd (hk.symm.trans h) (by decide), fun _ => aA (M + 2) _ _ _ ⟨fun h => absurd (hk.symm.trans h) (by decide), fun _ => aD (M + 1) _ _ _ ⟨fun _ => nf (M) _ _ _ ⟨_, g1, _, g2, _, g3, by simp; omega, u0, hu0, _, e0, rfl⟩, fun h => absurd hk h⟩⟩⟩
theorem p_4 {t : Tree} (hk : t.kind = 4) (hs : shapeK t = true) (ht : tbulk t ≤ 1000000) (ih : ∀ (i : Nat) (u : Tree), t.kids[i]? = some u → Pok u) : Pok t := fun l hl => by
  have htp := bt t
  have htx := cf t
  have hn := eL hs
  have M := 0
  have hkn : t.kids.length = 1 := hn.2.2.1 (by simp [hk])
  obtain ⟨u0, hu0, _⟩ | h' := aU t.kids 0
  rotate_left
  · omega
  have hsum : tbulk u0 + 1 ≤ tbulk t := by
    have hb := bC t
    have hx := no hu0
    omega
  obtain ⟨s1, g1, b1⟩ := bj 0 ht
  obtain ⟨s2, g2, b2⟩ := bj 1 ht
  have q1 : Qp l → Qp (l ++ [⟨s1, t.text⟩, ⟨s2, [58]⟩]) := fun hq => by simp only [bV, bA]; exact ⟨hq, ⟨b1, by omega⟩, ⟨b2, by decide⟩, bM⟩
  obtain ⟨r0, e0, z0, y0⟩ := ih 0 u0 hu0 (l ++ [⟨s1, t.text⟩, ⟨s2, [58]⟩]) (by first | omega | (simp only [List.length_append, List.length_cons, List.length_nil]; omega))
  try simp only [List.length_append, List.length_cons, List.length_nil] at z0
  refine ⟨r0, ?_, by first | omega | (simp only [List.length_append, List.length_cons, List.length_nil]; omega), fun hq => (y0 (q1 hq))⟩
  exact ax (M + 4) _ _ _ ⟨fun h => absurd (hk.symm.trans h) (by decide), fun _ => aA (M + 3) _ _ _ ⟨fun h => absurd (hk.symm.trans h) (by decide), fun _ => aD (M + 2) _ _ _ ⟨fun h => absurd (hk.symm.trans h) (by decide), fun _ => aI (M + 1) _ _ _ ⟨fun _ => nj (M) _ _ _ ⟨_, g1, _, g2, by simp; omega, u0, hu0, _, e0, rfl⟩, fun h => absurd hk h⟩⟩⟩⟩
theorem p_8 {t : Tree} (hk : t.kind = 8) (hs : shapeK t = true) (ht : tbulk t ≤ 1000000) (ih : ∀ (i : Nat) (u : Tree), t.kids[i]? = some u → Pok u) : Pok t := fun l hl => by
  have htp := bt t
  have htx := cf t
  have hn := eL hs
  have M := 0
  have hkn : t.kids.length = 1 := hn.2.2.1 (by simp [hk])
  obtain ⟨u0, hu0, _⟩ | h' := aU t.kids 0
  rotate_left
  · omega
  have hsum : tbulk u0 + 1 ≤ tbulk t := by
    have hb := bC t
    have hx := no hu0
    omega
  obtain ⟨s1, g1, b1⟩ := bj 0 ht
  have q1 : Qp l → Qp (l ++ [⟨s1, [91]⟩]) := fun hq => by simp only [bV, bA]; exact ⟨hq, ⟨b1, by decide⟩, bM⟩
  obtain ⟨r0, e0, z0, y0⟩ := ih 0 u0 hu0 (l ++ [⟨s1, [91]⟩]) (by first | omega | (simp only [List.length_append, List.length_cons, List.length_nil]; omega))
  try simp only [List.length_append, List.length_cons, List.length_nil] at z0
  obtain ⟨s2, g2, b2⟩ := bj 1 ht
  have q3 : Qp r0 → Qp (r0 ++ [⟨s2, [93]⟩]) := fun hq => by simp only [bV, bA]; exact ⟨hq, ⟨b2, by decide⟩, bM⟩
  refine ⟨(r0 ++ [⟨s2, [93]⟩]), ?_, by first | omega | (simp only [List.length_append, List.length_cons, List.length_nil]; omega), fun hq => (q3 (y0 (q1 hq)))⟩
  exact ax (M + 11) _ _ _ ⟨fun h => absurd (hk.symm.trans h) (by decide), fun _ => aA (M + 10) _ _ _ ⟨fun h => absurd (hk.symm.trans h) (by decide), fun _ => aD (M + 9) _ _ _ ⟨fun h => absurd (hk.symm.trans h) (by decide), fun _ => aI (M + 8) _ _ _ ⟨fun h => absurd (hk.symm.trans h) (by decide), fun _ => aM (M + 7) _ _ _ ⟨fun h => absurd (hk.symm.trans h) (by decide), fun _ => aQ (M + 6) _ _ _ ⟨fun h => absurd (hk.symm.trans h) (by decide), fun _ => aS (M + 5) _ _ _ ⟨fun h => absurd (hk.symm.trans h) (by decide), fun _ => aX (M + 4) _ _ _ ⟨fun h => absurd (hk.symm.trans h) (by decide), fun _ => aZ (M + 3) _ _ _ ⟨fun h => absurd (hk.symm.trans h) (by decide), fun _ => bg (M + 2) _ _ _ ⟨fun h => absurd (hk.symm.trans h) (by decide), fun _ => bn (M + 1) _ _ _ ⟨fun _ => mI (M) _ _ _ ⟨_, g1, by simp; omega, u0, hu0, _, e0, _, g2, by simp; omega, rfl⟩, fun h => absurd hk h⟩⟩⟩⟩⟩⟩⟩⟩⟩⟩⟩
theorem B9 {t : Tree} (hk : t.kind = 17) (hs : shapeK t = true) (ht : tbulk t ≤ 1000000) (ih : ∀ (i : Nat) (u : Tree), t.kids[i]? = some u → Pok u) : Pok t := fun l hl => by
  have htp := bt t
  have htx := cf t
  have hn := eL hs
  have M := 0
  have hkn : t.kids.length = 1 := hn.2.2.1 (by simp [hk])
  obtain ⟨u0, hu0, _⟩ | h' := aU t.kids 0
  rotate_left
  · omega
  have hsum : tbulk u0 + 1 ≤ tbulk t := by
    have hb := bC t
    have hx := no hu0
    omega
  obtain ⟨r0, e0, z0, y0⟩ := ih 0 u0 hu0 l (by first | omega | (simp only [List.length_append, List.length_cons, List.length_nil]; omega))
  try simp only [List.length_append, List.length_cons, List.length_nil] at z0
  refine ⟨r0, ?_, by first | omega | (simp only [List.length_append, List.length_cons, List.length_nil]; omega), fun hq => (y0 hq)⟩
  exact ax (M + 13) _ _ _ ⟨fun h => absurd (hk.symm.trans h) (by decide), fun _ => aA (M + 12) _ _ _ ⟨fun h => absurd (hk.symm.trans h) (by decide), fun _ => aD (M + 11) _ _ _ ⟨fun h => absurd (hk.symm.trans h) (by decide), fun _ => aI (M + 10) _ _ _ ⟨fun h => absurd (hk.symm.trans h) (by decide), fun _ => aM (M + 9) _ _ _ ⟨fun h => absurd (hk.symm.trans h) (by decide), fun _ => aQ (M + 8) _ _ _ ⟨fun h => absurd (hk.symm.trans h) (by decide), fun _ => aS (M + 7) _ _ _ ⟨fun h => absurd (hk.symm.trans h) (by decide), fun _ => aX (M + 6) _ _ _ ⟨fun h => absurd (hk.symm.trans h) (by decide), fun _ => aZ (M + 5) _ _ _ ⟨fun h => absurd (hk.symm.trans h) (by decide), fun _ => bg (M + 4) _ _ _ ⟨fun h => absurd (hk.symm.trans h) (by decide), fun _ => bn (M + 3) _ _ _ ⟨fun h => absurd (hk.symm.trans h) (by decide), fun _ => bE (M + 2) _ _ _ ⟨fun h => absurd (hk.symm.trans h) (by decide), fun _ => bS (M + 1) _ _ _ ⟨fun _ => ⟨u0, hu0, _, e0, rfl⟩, fun h => absurd hk h⟩⟩⟩⟩⟩⟩⟩⟩⟩⟩⟩⟩⟩
theorem B0 {t : Tree} (hk : t.kind = 19) (hs : shapeK t = true) (ht : tbulk t ≤ 1000000) (ih : ∀ (i : Nat) (u : Tree), t.kids[i]? = some u → Pok u) : Pok t := fun l hl => by
  have htp := bt t
  have htx := cf t
  have hn := eL hs
  have M := 0
  have hkn : t.kids.length = 3 := hn.2.2.2.1 hk
  obtain ⟨u0, hu0, _⟩ | h' := aU t.kids 0
  rotate_left
  · omega
  obtain ⟨u1, hu1, _⟩ | h' := aU t.kids 1
  rotate_left
  · omega
  obtain ⟨u2, hu2, _⟩ | h' := aU t.kids 2
  rotate_left
  · omega
  have hsum : tbulk u0 + tbulk u1 + tbulk u2 + 1 ≤ tbulk t := by
    have hb := bC t
    have hx := zx hu0 hu1 hu2
    omega
  obtain ⟨s1, g1, b1⟩ := bj 0 ht
  have q1 : Qp l → Qp (l ++ [⟨s1, [105, 102]⟩]) := fun hq => by simp only [bV, bA]; exact ⟨hq, ⟨b1, by decide⟩, bM⟩
  obtain ⟨r0, e0, z0, y0⟩ := ih 0 u0 hu0 (l ++ [⟨s1, [105, 102]⟩]) (by first | omega | (simp only [List.length_append, List.length_cons, List.length_nil]; omega))
  try simp only [List.length_append, List.length_cons, List.length_nil] at z0
  obtain ⟨s2, g2, b2⟩ := bj 1 ht
  have q3 : Qp r0 → Qp (r0 ++ [⟨s2, [116, 104, 101, 110]⟩]) := fun hq => by simp only [bV, bA]; exact ⟨hq, ⟨b2, by decide⟩, bM⟩
  obtain ⟨r1, e1, z1, y1⟩ := ih 1 u1 hu1 (r0 ++ [⟨s2, [116, 104, 101, 110]⟩]) (by first | omega | (simp only [List.length_append, List.length_cons, List.length_nil]; omega))
  try simp only [List.length_append, List.length_cons, List.length_nil] at z1
  obtain ⟨s3, g3, b3⟩ := bj 2 ht
  have q5 : Qp r1 → Qp (r1 ++ [⟨s3, [101, 108, 115, 101]⟩]) := fun hq => by simp only [bV, bA]; exact ⟨hq, ⟨b3, by decide⟩, bM⟩
  obtain ⟨r2, e2, z2, y2⟩ := ih 2 u2 hu2 (r1 ++ [⟨s3, [101, 108, 115, 101]⟩]) (by first | omega | (simp only [List.length_append, List.length_cons, List.length_nil]; omega))
  try simp only [List.length_append, List.length_cons, List.length_nil] at z2
  refine ⟨r2, ?_, by first | omega | (simp only [List.length_append, List.length_cons, List.length_nil]; omega), fun hq => (y2 (q5 (y1 (q3 (y0 (q1 hq))))))⟩
  exact ax (M + 15) _ _ _ ⟨fun h => absurd (hk.symm.trans h) (by decide), fun _ => aA (M + 14) _ _ _ ⟨fun h => absurd (hk.symm.trans h) (by decide), fun _ => aD (M + 13) _ _ _ ⟨fun h => absurd (hk.symm.trans h) (by decide), fun _ => aI (M + 12) _ _ _ ⟨fun h => absurd (hk.symm.trans h) (by decide), fun _ => aM (M + 11) _ _ _ ⟨fun h => absurd (hk.symm.trans h) (by decide), fun _ => aQ (M + 10) _ _ _ ⟨fun h => absurd (hk.symm.trans h) (by decide), fun _ => aS (M + 9) _ _ _ ⟨fun h => absurd (hk.symm.trans h) (by decide), fun _ => aX (M + 8) _ _ _ ⟨fun h => absurd (hk.symm.trans h) (by decide), fun _ => aZ (M + 7) _ _ _ ⟨fun h => absurd (hk.symm.trans h) (by decide), fun _ => bg (M + 6) _ _ _ ⟨fun h => absurd (hk.symm.trans h) (by decide), fun _ => bn (M + 5) _ _ _ ⟨fun h => absurd (hk.symm.trans h) (by decide), fun _ => bE (M + 4) _ _ _ ⟨fun h => absurd (hk.symm.trans h) (by decide), fun _ => bS (M + 3) _ _ _ ⟨fun h => absurd (hk.symm.trans h) (by decide), fun _ => cd (M + 2) _ _ _ ⟨fun h => absurd (hk.symm.trans h) (by decide), fun _ => cM (M + 1) _ _ _ ⟨fun _ => mF (M) _ _ _ ⟨u0, hu0, _, g1, by simp; omega, _, e0, u1, hu1, _, g2, by simp; omega, _, e1, u2, hu2, _, g3, by simp; omega, _, e2, rfl⟩, fun h => absurd hk h⟩⟩⟩⟩⟩⟩⟩⟩⟩⟩⟩⟩⟩⟩⟩
theorem Ci {t : Tree} (hk : t.kind = 20) (hs : shapeK t = true) (ht : tbulk t ≤ 1000000) (ih : ∀ (i : Nat) (u : Tree), t.kids[i]? = some u → Pok u) : Pok t := fun l hl => by
  have htp := bt t
  have htx := cf t
  have hn := eL hs
  have M := 0
  have hkn : t.kids.length = 2 := hn.2.2.2.2 (by simp [hk])
  obtain ⟨u0, hu0, _⟩ | h' := aU t.kids 0
  rotate_left
  · omega
  obtain ⟨u1, hu1, _⟩ | h' := aU t.kids 1
  rotate_left
  · omega
  have hsum : tbulk u0 + tbulk u1 + 1 ≤ tbulk t := by
    have hb := bC t
    have hx := ru hu0 hu1
    omega
  obtain ⟨s1, g1, b1⟩ := bj 0 ht
  obtain ⟨s2, g2, b2⟩ := bj 1 ht
  obtain ⟨s3, g3, b3⟩ := bj 2 ht
  have q1 : Qp l → Qp (l ++ [⟨s1, [108, 101, 116]⟩, ⟨s2, t.text⟩, ⟨s3, [61]⟩]) := fun hq => by simp only [bV, bA]; exact ⟨hq, ⟨b1, by decide⟩, ⟨b2, by omega⟩, ⟨b3, by decide⟩, bM⟩
  obtain ⟨r0, e0, z0, y0⟩ := ih 0 u0 hu0 (l ++ [⟨s1, [108, 101, 116]⟩, ⟨s2, t.text⟩, ⟨s3, [61]⟩]) (by first | omega | (simp only [List.length_append, List.length_cons, List.length_nil]; omega))
  try simp only [List.length_append, List.length_cons, List.length_nil] at z0
  obtain ⟨s4, g4, b4⟩ := bj 3 ht
  have q3 : Qp r0 → Qp (r0 ++ [⟨s4, [105, 110]⟩]) := fun hq => by simp only [bV, bA]; exact ⟨hq, ⟨b4, by decide⟩, bM⟩
  obtain ⟨r1, e1, z1, y1⟩ := ih 1 u1 hu1 (r0 ++ [⟨s4, [105, 110]⟩]) (by first | omega | (simp only [List.length_append, List.length_cons, List.length_nil]; omega))
  try simp only [List.length_append, List.length_cons, List.length_nil] at z1
  refine ⟨r1, ?_, by first | omega | (simp only [List.length_append, List.length_cons, List.length_nil]; omega), fun hq => (y1 (q3 (y0 (q1 hq))))⟩
  exact ax (M + 16) _ _ _ ⟨fun h => absurd (hk.symm.trans h) (by decide), fun _ => aA (M + 15) _ _ _ ⟨fun h => absurd (hk.symm.trans h) (by decide), fun _ => aD (M + 14) _ _ _ ⟨fun h => absurd (hk.symm.trans h) (by decide), fun _ => aI (M + 13) _ _ _ ⟨fun h => absurd (hk.symm.trans h) (by decide), fun _ => aM (M + 12) _ _ _ ⟨fun h => absurd (hk.symm.trans h) (by decide), fun _ => aQ (M + 11) _ _ _ ⟨fun h => absurd (hk.symm.trans h) (by decide), fun _ => aS (M + 10) _ _ _ ⟨fun h => absurd (hk.symm.trans h) (by decide), fun _ => aX (M + 9) _ _ _ ⟨fun h => absurd (hk.symm.trans h) (by decide), fun _ => aZ (M + 8) _ _ _ ⟨fun h => absurd (hk.symm.trans h) (by decide), fun _ => bg (M + 7) _ _ _ ⟨fun h => absurd (hk.symm.trans h) (by decide), fun _ => bn (M + 6) _ _ _ ⟨fun h => absurd (hk.symm.trans h) (by decide), fun _ => bE (M + 5) _ _ _ ⟨fun h => absurd (hk.symm.trans h) (by decide), fun _ => bS (M + 4) _ _ _ ⟨fun h => absurd (hk.symm.trans h) (by decide), fun _ => cd (M + 3) _ _ _ ⟨fun h => absurd (hk.symm.trans h) (by decide), fun _ => cM (M + 2) _ _ _ ⟨fun h => absurd (hk.symm.trans h) (by decide), fun _ => dM (M + 1) _ _ _ ⟨fun _ => mJ (M) _ _ _ ⟨_, g1, _, g2, _, g3, by simp; omega, u0, hu0, _, e0, _, g4, by simp; omega, u1, hu1, _, e1, rfl⟩, fun h => absurd hk h⟩⟩⟩⟩⟩⟩⟩⟩⟩⟩⟩⟩⟩⟩⟩⟩
theorem Ck {t : Tree} (hk : t.kind = 21) (hs : shapeK t = true) (ht : tbulk t ≤ 1000000) (ih : ∀ (i : Nat) (u : Tree), t.kids[i]? = some u → Pok u) : Pok t := fun l hl => by
  have htp := bt t
  have htx := cf t
  have hn := eL hs
  have M := 0
  have hkn : t.kids.length = 2 := hn.2.2.2.2 (by simp [hk])
  obtain ⟨u0, hu0, _⟩ | h' := aU t.kids 0
  rotate_left
  · omega
  obtain ⟨u1, hu1, _⟩ | h' := aU t.kids 1
  rotate_left
  · omega
  have hsum : tbulk u0 + tbulk u1 + 1 ≤ tbulk t := by
    have hb := bC t
    have hx := ru hu0 hu1
    omega
  obtain ⟨r0, e0, z0, y0⟩ := ih 0 u0 hu0 l (by first | omega | (simp only [List.length_append, List.length_cons, List.length_nil]; omega))
  try simp only [List.length_append, List.length_cons, List.length_nil] at z0
  obtain ⟨s1, g1, b1⟩ := bj 0 ht
  have q2 : Qp r0 → Qp (r0 ++ [⟨s1, t.text⟩]) := fun hq => by simp only [bV, bA]; exact ⟨hq, ⟨b1, by omega⟩, bM⟩
  obtain ⟨r1, e1, z1, y1⟩ := ih 1 u1 hu1 (r0 ++ [⟨s1, t.text⟩]) (by first | omega | (simp only [List.length_append, List.length_cons, List.length_nil]; omega))
  try simp only [List.length_append, List.length_cons, List.length_nil] at z1
  refine ⟨r1, ?_, by first | omega | (simp only [List.length_append, List.length_cons, List.length_nil]; omega), fun hq => (y1 (q2 (y0 hq)))⟩
  exact ax (M + 17) _ _ _ ⟨fun h => absurd (hk.symm.trans h) (by decide), fun _ => aA (M + 16) _ _ _ ⟨fun h => absurd (hk.symm.trans h) (by decide), fun _ => aD (M + 15) _ _ _ ⟨fun h => absurd (hk.symm.trans h) (by decide), fun _ => aI (M + 14) _ _ _ ⟨fun h => absurd (hk.symm.trans h) (by decide), fun _ => aM (M + 13) _ _ _ ⟨fun h => absurd (hk.symm.trans h) (by decide), fun _ => aQ (M + 12) _ _ _ ⟨fun h => absurd (hk.symm.trans h) (by decide), fun _ => aS (M + 11) _ _ _ ⟨fun h => absurd (hk.symm.trans h) (by decide), fun _ => aX (M + 10) _ _ _ ⟨fun h => absurd (hk.symm.trans h) (by decide), fun _ => aZ (M + 9) _ _ _ ⟨fun h => absurd (hk.symm.trans h) (by decide), fun _ => bg (M + 8) _ _ _ ⟨fun h => absurd (hk.symm.trans h) (by decide), fun _ => bn (M + 7) _ _ _ ⟨fun h => absurd (hk.symm.trans h) (by decide), fun _ => bE (M + 6) _ _ _ ⟨fun h => absurd (hk.symm.trans h) (by decide), fun _ => bS (M + 5) _ _ _ ⟨fun h => absurd (hk.symm.trans h) (by decide), fun _ => cd (M + 4) _ _ _ ⟨fun h => absurd (hk.symm.trans h) (by decide), fun _ => cM (M + 3) _ _ _ ⟨fun h => absurd (hk.symm.trans h) (by decide), fun _ => dM (M + 2) _ _ _ ⟨fun h => absurd (hk.symm.trans h) (by decide), fun _ => fy (M + 1) _ _ _ ⟨fun _ => mM (M) _ _ _ ⟨u0, hu0, _, e0, _, g1, by simp; omega, u1, hu1, _, e1, rfl⟩, fun h => absurd hk h⟩⟩⟩⟩⟩⟩⟩⟩⟩⟩⟩⟩⟩⟩⟩⟩⟩
theorem Ch {t : Tree} (hk : t.kind = 22) (hs : shapeK t = true) (ht : tbulk t ≤ 1000000) (ih : ∀ (i : Nat) (u : Tree), t.kids[i]? = some u → Pok u) : Pok t := fun l hl => by
  have htp := bt t
  have htx := cf t
  have hn := eL hs
  have M := 0
  have hkn : t.kids.length = 1 := hn.2.2.1 (by simp [hk])
  obtain ⟨u0, hu0, _⟩ | h' := aU t.kids 0
  rotate_left
  · omega
  have hsum : tbulk u0 + 1 ≤ tbulk t := by
    have hb := bC t
    have hx := no hu0
    omega
  obtain ⟨s1, g1, b1⟩ := bj 0 ht
  have q1 : Qp l → Qp (l ++ [⟨s1, [40]⟩]) := fun hq => by simp only [bV, bA]; exact ⟨hq, ⟨b1, by decide⟩, bM⟩
  obtain ⟨r0, e0, z0, y0⟩ := ih 0 u0 hu0 (l ++ [⟨s1, [40]⟩]) (by first | omega | (simp only [List.length_append, List.length_cons, List.length_nil]; omega))
  try simp only [List.length_append, List.length_cons, List.length_nil] at z0
  obtain ⟨s2, g2, b2⟩ := bj 1 ht
  have q3 : Qp r0 → Qp (r0 ++ [⟨s2, [41]⟩]) := fun hq => by simp only [bV, bA]; exact ⟨hq, ⟨b2, by decide⟩, bM⟩
  refine ⟨(r0 ++ [⟨s2, [41]⟩]), ?_, by first | omega | (simp only [List.length_append, List.length_cons, List.length_nil]; omega), fun hq => (q3 (y0 (q1 hq)))⟩
  exact ax (M + 18) _ _ _ ⟨fun h => absurd (hk.symm.trans h) (by decide), fun _ => aA (M + 17) _ _ _ ⟨fun h => absurd (hk.symm.trans h) (by decide), fun _ => aD (M + 16) _ _ _ ⟨fun h => absurd (hk.symm.trans h) (by decide), fun _ => aI (M + 15) _ _ _ ⟨fun h => absurd (hk.symm.trans h) (by decide), fun _ => aM (M + 14) _ _ _ ⟨fun h => absurd (hk.symm.trans h) (by decide), fun _ => aQ (M + 13) _ _ _ ⟨fun h => absurd (hk.symm.trans h) (by decide), fun _ => aS (M + 12) _ _ _ ⟨fun h => absurd (hk.symm.trans h) (by decide), fun _ => aX (M + 11) _ _ _ ⟨fun h => absurd (hk.symm.trans h) (by decide), fun _ => aZ (M + 10) _ _ _ ⟨fun h => absurd (hk.symm.trans h) (by decide), fun _ => bg (M + 9) _ _ _ ⟨fun h => absurd (hk.symm.trans h) (by decide), fun _ => bn (M + 8) _ _ _ ⟨fun h => absurd (hk.symm.trans h) (by decide), fun _ => bE (M + 7) _ _ _ ⟨fun h => absurd (hk.symm.trans h) (by decide), fun _ => bS (M + 6) _ _ _ ⟨fun h => absurd (hk.symm.trans h) (by decide), fun _ => cd (M + 5) _ _ _ ⟨fun h => absurd (hk.symm.trans h) (by decide), fun _ => cM (M + 4) _ _ _ ⟨fun h => absurd (hk.symm.trans h) (by decide), fun _ => dM (M + 3) _ _ _ ⟨fun h => absurd (hk.symm.trans h) (by decide), fun _ => fy (M + 2) _ _ _ ⟨fun h => absurd (hk.symm.trans h) (by decide), fun _ => iN (M + 1) _ _ _ ⟨fun _ => mH (M) _ _ _ ⟨_, g1, by simp; omega, u0, hu0, _, e0, _, g2, by simp; omega, rfl⟩, fun h => absurd hk h⟩⟩⟩⟩⟩⟩⟩⟩⟩⟩⟩⟩⟩⟩⟩⟩⟩⟩
theorem AH {t : Tree} (hn : ∀ c : Int, c ∈ [(1 : Int), 2, 3, 4, 5, 6, 7, 13, 14, 15, 8, 16, 17, 18, 19, 20, 21, 22] → t.kind ≠ c) (ht : tbulk t ≤ 1000000) : Pok t := fun l hl => by
  obtain ⟨s1, g1, b1⟩ := bj 0 ht
  have htp := bt t
  have htx := cf t
  have M := 0
  refine ⟨l ++ [⟨s1, t.text⟩], ?_, by simp; omega, fun hq => by simp only [bV, bA]; exact ⟨hq, ⟨b1, by omega⟩, bM⟩⟩
  exact ax (M + 18) _ _ _ ⟨fun h => absurd h (hn 1 (by decide)), fun _ => aA (M + 17) _ _ _ ⟨fun h => absurd h (hn 2 (by decide)), fun _ => aD (M + 16) _ _ _ ⟨fun h => absurd h (hn 3 (by decide)), fun _ => aI (M + 15) _ _ _ ⟨fun h => absurd h (hn 4 (by decide)), fun _ => aM (M + 14) _ _ _ ⟨fun h => absurd h (hn 5 (by decide)), fun _ => aQ (M + 13) _ _ _ ⟨fun h => absurd h (hn 6 (by decide)), fun _ => aS (M + 12) _ _ _ ⟨fun h => absurd h (hn 7 (by decide)), fun _ => aX (M + 11) _ _ _ ⟨fun h => absurd h (hn 13 (by decide)), fun _ => aZ (M + 10) _ _ _ ⟨fun h => absurd h (hn 14 (by decide)), fun _ => bg (M + 9) _ _ _ ⟨fun h => absurd h (hn 15 (by decide)), fun _ => bn (M + 8) _ _ _ ⟨fun h => absurd h (hn 8 (by decide)), fun _ => bE (M + 7) _ _ _ ⟨fun h => absurd h (hn 16 (by decide)), fun _ => bS (M + 6) _ _ _ ⟨fun h => absurd h (hn 17 (by decide)), fun _ => cd (M + 5) _ _ _ ⟨fun h => absurd h (hn 18 (by decide)), fun _ => cM (M + 4) _ _ _ ⟨fun h => absurd h (hn 19 (by decide)), fun _ => dM (M + 3) _ _ _ ⟨fun h => absurd h (hn 20 (by decide)), fun _ => fy (M + 2) _ _ _ ⟨fun h => absurd h (hn 21 (by decide)), fun _ => iN (M + 1) _ _ _ ⟨fun h => absurd h (hn 22 (by decide)), fun _ => ⟨_, g1, by simp; omega, rfl⟩⟩⟩⟩⟩⟩⟩⟩⟩⟩⟩⟩⟩⟩⟩⟩⟩⟩⟩
theorem wA {t : Tree} (ht : tbulk t ≤ 1000000) (ih : ∀ (i : Nat) (u : Tree), t.kids[i]? = some u → Pok u) (n comma : Nat) (hn : n ≤ t.kids.length) (hc : comma ≤ 10) : ∀ l, l.length + 8 * kbulk (t.kids.take n) ≤ 899999999 → ∃ r, dF l t 0 (n : Int) (comma : Int) r ∧ r.length ≤ l.length + 8 * kbulk (t.kids.take n) ∧ (Qp l → Qp r) := by
  have hk := di t
  have loop : ∀ k i l, n - i ≤ k → i ≤ n → l.length + 8 * kbulk ((t.kids.take n).drop i) ≤ 899999999 → ∃ r, eg (k + 1) t 0 (n : Int) (comma : Int) l (i : Int) r ∧ r.length ≤ l.length + 8 * kbulk ((t.kids.take n).drop i) ∧ (Qp l → Qp r) := fun k => by
    induction k with
    | zero =>
      intro i l hi hle hl
      exact ⟨l, ft 0 _ _ _ _ _ _ _ ⟨fun h => by omega, fun _ => rfl⟩, by omega, fun h => h⟩
    | succ k ihk =>
      intro i l hi hle hl
      by_cases hin : i < n
      · obtain ⟨u, hu, hul⟩ | h' := aU t.kids i
        · have hu' : (t.kids.take n)[i]? = some u := by rw [List.getElem?_take, if_pos hin]; exact hu
          have hd := bQ hu'
          rw [hd, kbulk] at hl ⊢
          have hup := bt u
          by_cases h0 : 0 < i
          · obtain ⟨s, g, b⟩ := bj (t := t) (comma + i - 1) ht
            have g' : ai t ((((comma : Int) + (i : Int)) - 0) - 1) s := by rw [show (((comma : Int) + (i : Int)) - 0) - 1 = ((comma + i - 1 : Nat) : Int) by omega]; exact g
            obtain ⟨r, e, z, y⟩ := ih i u hu (l ++ [⟨s, [44]⟩]) (by simp; omega)
            simp only [List.length_append, List.length_cons, List.length_nil] at z
            obtain ⟨r2, e2, z2, y2⟩ := ihk (i + 1) r (by omega) (by omega) (by omega)
            refine ⟨r2, ft (k + 1) _ _ _ _ _ _ _ ⟨fun _ => ⟨fun _ => ⟨by omega, by omega, by omega, s, g', by simp; omega, i, rfl, u, hu, r, e, by omega, ?_⟩, fun h => by omega⟩, fun h => by omega⟩, by omega, fun hq => y2 (y (by simp only [bV, bA]; exact ⟨hq, ⟨b, by decide⟩, bM⟩))⟩
            exact e2
          · obtain ⟨r, e, z, y⟩ := ih i u hu l (by omega)
            obtain ⟨r2, e2, z2, y2⟩ := ihk (i + 1) r (by omega) (by omega) (by omega)
            refine ⟨r2, ft (k + 1) _ _ _ _ _ _ _ ⟨fun _ => ⟨fun h => by omega, fun _ => ⟨i, rfl, u, hu, r, e, by omega, e2⟩⟩, fun h => by omega⟩, by omega, fun hq => y2 (y hq)⟩
        · omega
      · exact ⟨l, ft (k + 1) _ _ _ _ _ _ _ ⟨fun h => by omega, fun _ => rfl⟩, by omega, fun h => h⟩
  intro l hl
  have h1 : kbulk (t.kids.take n) ≤ kbulk t.kids := by
    have : ∀ (l : List Tree) n, kbulk (l.take n) ≤ kbulk l := fun l => by
      induction l with
      | nil => intro n; simp
      | cons a r ih => intro n; cases n with
        | zero => simp [kbulk]
        | succ n => have := ih n; simp only [List.take_succ_cons, kbulk]; omega
    exact this _ _
  have h2 := bC t
  obtain ⟨r, e, z, y⟩ := loop n 0 l (by omega) (by omega) (by simpa using hl)
  exact ⟨r, oP (n + 1) _ _ _ _ _ _ e, by simpa using z, y⟩
theorem pI (l : List Tree) (n : Nat) : kbulk (l.take n) + kbulk (l.drop n) = kbulk l := by rw [← eb, List.take_append_drop]
theorem Co {t : Tree} (hk : t.kind = 16) (hs : shapeK t = true) (ht : tbulk t ≤ 1000000) (ih : ∀ (i : Nat) (u : Tree), t.kids[i]? = some u → Pok u) : Pok t := fun l hl => by
  have hb := bC t
  have htx := cf t
  have M := 0
  obtain ⟨s1, g1, b1⟩ := bj 0 ht
  obtain ⟨s2, g2, b2⟩ := bj 1 ht
  obtain ⟨r, e, z, y⟩ := wA ht ih t.kids.length 3 (Nat.le_refl _) (by decide) (l ++ [⟨s1, t.text⟩, ⟨s2, [40]⟩]) (by simp only [List.length_append, List.length_cons, List.length_nil, List.take_length]; omega)
  simp only [List.length_append, List.length_cons, List.length_nil, List.take_length] at z
  obtain ⟨s9, g9, b9⟩ := bj 2 ht
  refine ⟨r ++ [⟨s9, [41]⟩], ?_, by simp only [List.length_append, List.length_cons, List.length_nil]; omega, fun hq => by
    have := y (by simp only [bV, bA]; exact ⟨hq, ⟨b1, by omega⟩, ⟨b2, by decide⟩, bM⟩)
    simp only [bV, bA]; exact ⟨this, ⟨b9, by decide⟩, bM⟩⟩
  exact ax (M + 12) _ _ _ ⟨fun h => absurd (hk.symm.trans h) (by decide), fun _ => aA (M + 11) _ _ _ ⟨fun h => absurd (hk.symm.trans h) (by decide), fun _ => aD (M + 10) _ _ _ ⟨fun h => absurd (hk.symm.trans h) (by decide), fun _ => aI (M + 9) _ _ _ ⟨fun h => absurd (hk.symm.trans h) (by decide), fun _ => aM (M + 8) _ _ _ ⟨fun h => absurd (hk.symm.trans h) (by decide), fun _ => aQ (M + 7) _ _ _ ⟨fun h => absurd (hk.symm.trans h) (by decide), fun _ => aS (M + 6) _ _ _ ⟨fun h => absurd (hk.symm.trans h) (by decide), fun _ => aX (M + 5) _ _ _ ⟨fun h => absurd (hk.symm.trans h) (by decide), fun _ => aZ (M + 4) _ _ _ ⟨fun h => absurd (hk.symm.trans h) (by decide), fun _ => bg (M + 3) _ _ _ ⟨fun h => absurd (hk.symm.trans h) (by decide), fun _ => bn (M + 2) _ _ _ ⟨fun h => absurd (hk.symm.trans h) (by decide), fun _ => bE (M + 1) _ _ _ ⟨fun _ => mE (M) _ _ _ ⟨_, g1, _, g2, by simp only [List.length_append, List.length_cons, List.length_nil]; omega, _, e, _, g9, by simp only [List.length_append, List.length_cons, List.length_nil]; omega, rfl⟩, fun h => absurd hk h⟩⟩⟩⟩⟩⟩⟩⟩⟩⟩⟩⟩
theorem B5 {t : Tree} (hk : t.kind = 18) (hs : shapeK t = true) (ht : tbulk t ≤ 1000000) (ih : ∀ (i : Nat) (u : Tree), t.kids[i]? = some u → Pok u) : Pok t := fun l hl => by
  have hb := bC t
  have htx := cf t
  have M := 0
  obtain ⟨s1, g1, b1⟩ := bj 0 ht
  obtain ⟨r, e, z, y⟩ := wA ht ih t.kids.length 2 (Nat.le_refl _) (by decide) (l ++ [⟨s1, [91]⟩]) (by simp only [List.length_append, List.length_cons, List.length_nil, List.take_length]; omega)
  simp only [List.length_append, List.length_cons, List.length_nil, List.take_length] at z
  obtain ⟨s9, g9, b9⟩ := bj 1 ht
  refine ⟨r ++ [⟨s9, [93]⟩], ?_, by simp only [List.length_append, List.length_cons, List.length_nil]; omega, fun hq => by
    have := y (by simp only [bV, bA]; exact ⟨hq, ⟨b1, by decide⟩, bM⟩)
    simp only [bV, bA]; exact ⟨this, ⟨b9, by decide⟩, bM⟩⟩
  exact ax (M + 14) _ _ _ ⟨fun h => absurd (hk.symm.trans h) (by decide), fun _ => aA (M + 13) _ _ _ ⟨fun h => absurd (hk.symm.trans h) (by decide), fun _ => aD (M + 12) _ _ _ ⟨fun h => absurd (hk.symm.trans h) (by decide), fun _ => aI (M + 11) _ _ _ ⟨fun h => absurd (hk.symm.trans h) (by decide), fun _ => aM (M + 10) _ _ _ ⟨fun h => absurd (hk.symm.trans h) (by decide), fun _ => aQ (M + 9) _ _ _ ⟨fun h => absurd (hk.symm.trans h) (by decide), fun _ => aS (M + 8) _ _ _ ⟨fun h => absurd (hk.symm.trans h) (by decide), fun _ => aX (M + 7) _ _ _ ⟨fun h => absurd (hk.symm.trans h) (by decide), fun _ => aZ (M + 6) _ _ _ ⟨fun h => absurd (hk.symm.trans h) (by decide), fun _ => bg (M + 5) _ _ _ ⟨fun h => absurd (hk.symm.trans h) (by decide), fun _ => bn (M + 4) _ _ _ ⟨fun h => absurd (hk.symm.trans h) (by decide), fun _ => bE (M + 3) _ _ _ ⟨fun h => absurd (hk.symm.trans h) (by decide), fun _ => bS (M + 2) _ _ _ ⟨fun h => absurd (hk.symm.trans h) (by decide), fun _ => cd (M + 1) _ _ _ ⟨fun _ => mL (M) _ _ _ ⟨_, g1, by simp only [List.length_append, List.length_cons, List.length_nil]; omega, _, e, _, g9, by simp only [List.length_append, List.length_cons, List.length_nil]; omega, rfl⟩, fun h => absurd hk h⟩⟩⟩⟩⟩⟩⟩⟩⟩⟩⟩⟩⟩⟩
theorem p_2 {t : Tree} (hk : t.kind = 2) (hs : shapeK t = true) (ht : tbulk t ≤ 1000000) (ih : ∀ (i : Nat) (u : Tree), t.kids[i]? = some u → Pok u) : Pok t := fun l hl => by
  have hb := bC t
  have htx := cf t
  have hn := (eL hs).1 hk
  have hkl := di t
  have M := 0
  obtain ⟨s1, g1, b1⟩ := bj 0 ht
  obtain ⟨s2, g2, b2⟩ := bj 1 ht
  obtain ⟨s3, g3, b3⟩ := bj 2 ht
  obtain ⟨s4, g4, b4⟩ := bj 3 ht
  obtain ⟨s5, g5, b5⟩ := bj 4 ht
  obtain ⟨s6, g6, b6⟩ := bj 5 ht
  obtain ⟨r, e, z, y⟩ := wA ht ih (t.kids.length - 2) 6 (by omega) (by decide) (l ++ [⟨s1, [100, 101, 102]⟩, ⟨s2, t.text⟩, ⟨s3, [40]⟩]) (by have := pI t.kids (t.kids.length - 2); simp only [List.length_append, List.length_cons, List.length_nil]; omega)
  simp only [List.length_append, List.length_cons, List.length_nil] at z
  obtain ⟨u, hu, _⟩ | h' := aU t.kids (t.kids.length - 2)
  rotate_left
  · omega
  obtain ⟨v, hv, _⟩ | h' := aU t.kids (t.kids.length - 1)
  rotate_left
  · omega
  have hsp := pI t.kids (t.kids.length - 2)
  have hd1 := bQ hu
  have hd2 : t.kids.drop (t.kids.length - 2 + 1) = v :: t.kids.drop (t.kids.length - 1 + 1) := by rw [show t.kids.length - 2 + 1 = t.kids.length - 1 by omega]; exact bQ hv
  rw [hd1, kbulk, hd2, kbulk] at hsp
  have hup := bt u
  have hvp := bt v
  have e' : dF (l ++ [⟨s1, [100, 101, 102]⟩, ⟨s2, t.text⟩, ⟨s3, [40]⟩]) t 0 (((t.kids.length : Nat) : Int) - 2) 6 r := by rw [show ((t.kids.length : Nat) : Int) - 2 = ((t.kids.length - 2 : Nat) : Int) by omega]; exact e
  obtain ⟨r1, e1, z1, y1⟩ := ih _ u hu (r ++ [⟨s4, [41]⟩, ⟨s5, [58]⟩]) (by simp only [List.length_append, List.length_cons, List.length_nil]; omega)
  simp only [List.length_append, List.length_cons, List.length_nil] at z1
  obtain ⟨r2, e2, z2, y2⟩ := ih _ v hv (r1 ++ [⟨s6, [61]⟩]) (by simp only [List.length_append, List.length_cons, List.length_nil]; omega)
  simp only [List.length_append, List.length_cons, List.length_nil] at z2
  refine ⟨r2, ?_, by omega, fun hq => ?_⟩
  · exact ax (M + 2) _ _ _ ⟨fun h => absurd (hk.symm.trans h) (by decide), fun _ => aA (M + 1) _ _ _ ⟨fun _ => m9 (M) _ _ _ ⟨_, g1, _, g2, _, g3, by simp only [List.length_append, List.length_cons, List.length_nil]; omega, by omega, r, e', _, g4, _, g5, by simp only [List.length_append, List.length_cons, List.length_nil]; omega, by omega, t.kids.length - 2, by omega, u, hu, r1, e1, _, g6, by simp only [List.length_append, List.length_cons, List.length_nil]; omega, by omega, t.kids.length - 1, by omega, v, hv, r2, e2, rfl⟩, fun h => absurd hk h⟩⟩
  · have q1 := y (by simp only [bV, bA]; exact ⟨hq, ⟨b1, by decide⟩, ⟨b2, by omega⟩, ⟨b3, by decide⟩, bM⟩)
    have q2 := y1 (by simp only [bV, bA]; exact ⟨q1, ⟨b4, by decide⟩, ⟨b5, by decide⟩, bM⟩)
    exact y2 (by simp only [bV, bA]; exact ⟨q2, ⟨b6, by decide⟩, bM⟩)
theorem p_1 {t : Tree} (hk : t.kind = 1) (hs : shapeK t = true) (ht : tbulk t ≤ 1000000) (ih : ∀ (i : Nat) (u : Tree), t.kids[i]? = some u → Pok u) : Pok t := fun l hl => by
  have hb := bC t
  have htx := cf t
  have hkl := di t
  obtain ⟨s1, g1, b1⟩ := bj 0 ht
  obtain ⟨s2, g2, b2⟩ := bj 1 ht
  obtain ⟨s3, g3, b3⟩ := bj 2 ht
  have loop : ∀ k i l, t.kids.length - i ≤ k → l.length + 8 * kbulk (t.kids.drop i) ≤ 899999996 → ∃ r, dj (k + 1) t l i r ∧ r.length ≤ l.length + 8 * kbulk (t.kids.drop i) + 1 ∧ (Qp l → Qp r) := fun k => by
    have last : ∀ k i l, ¬ i < t.kids.length → l.length ≤ 899999996 → ∃ r, dj (k + 1) t l i r ∧ r.length ≤ l.length + 8 * kbulk (t.kids.drop i) + 1 ∧ (Qp l → Qp r) := fun k i l hi hl => by
      refine ⟨l ++ [⟨s3, []⟩], jb k _ _ _ _ ⟨fun h => absurd h hi, fun _ => ⟨s3, g3, by simp only [List.length_append, List.length_cons, List.length_nil]; omega, rfl⟩⟩, by simp only [List.length_append, List.length_cons, List.length_nil]; omega, fun hq => by simp only [bV, bA]; exact ⟨hq, ⟨b3, by decide⟩, bM⟩⟩
    induction k with
    | zero => intro i l hi hl; exact last 0 i l (by omega) (by omega)
    | succ k ihk =>
      intro i l hi hl
      obtain ⟨u, hu, hul⟩ | h' := aU t.kids i
      · have hd := bQ hu
        rw [hd, kbulk] at hl ⊢
        obtain ⟨r, e, z, y⟩ := ih i u hu l (by omega)
        obtain ⟨r2, e2, z2, y2⟩ := ihk (i + 1) r (by omega) (by omega)
        exact ⟨r2, jb (k + 1) _ _ _ _ ⟨fun _ => ⟨u, hu, r, e, by omega, e2⟩, fun h => absurd hul h⟩, by omega, fun hq => y2 (y hq)⟩
      · exact last (k + 1) i l h' (by omega)
  obtain ⟨r, e, z, y⟩ := loop t.kids.length 0 (l ++ [⟨s1, [109, 111, 100, 117, 108, 101]⟩, ⟨s2, t.text⟩]) (by omega) (by simp only [List.length_append, List.length_cons, List.length_nil, List.drop_zero]; omega)
  simp only [List.length_append, List.length_cons, List.length_nil, List.drop_zero] at z
  refine ⟨r, ax (t.kids.length + 2) _ _ _ ⟨fun _ => nd (t.kids.length + 1) _ _ _ ⟨_, g1, _, g2, by simp only [List.length_append, List.length_cons, List.length_nil]; omega, e⟩, fun h => absurd hk h⟩, by omega, fun hq => y (by simp only [bV, bA]; exact ⟨hq, ⟨b1, by decide⟩, ⟨b2, by omega⟩, bM⟩)⟩
theorem yP : ∀ t : Tree, tbulk t ≤ 1000000 → shapeK t = true → Pok t := cr fun t ih ht hs => by
  have ih' : ∀ (i : Nat) (u : Tree), t.kids[i]? = some u → Pok u := fun i u hu => ih i u hu (by have := bU hu; omega) (se hs hu).1
  by_cases h : ∃ c ∈ [(1 : Int), 2, 3, 4, 5, 6, 7, 13, 14, 15, 8, 16, 17, 18, 19, 20, 21, 22], t.kind = c
  · obtain ⟨c, hc, e⟩ := h
    simp only [List.mem_cons, List.not_mem_nil, or_false] at hc
    rcases hc with rfl | rfl | rfl | rfl | rfl | rfl | rfl | rfl | rfl | rfl | rfl | rfl | rfl | rfl | rfl | rfl | rfl | rfl
    · exact p_1 e hs ht ih'
    · exact p_2 e hs ht ih'
    · exact p_3 e hs ht ih'
    · exact p_4 e hs ht ih'
    · exact p_5 e ht
    · exact p_6 e ht
    · exact p_7 e ht
    · exact B1 e ht
    · exact Ca e ht
    · exact Ce e ht
    · exact p_8 e hs ht ih'
    · exact Co e hs ht ih'
    · exact B9 e hs ht ih'
    · exact B5 e hs ht ih'
    · exact B0 e hs ht ih'
    · exact Ci e hs ht ih'
    · exact Ck e hs ht ih'
    · exact Ch e hs ht ih'
  · exact AH (fun c hc e => h ⟨c, hc, e⟩) ht
theorem yr : ∀ t : Tree, tbulk t ≤ 1000000 → ∃ b, fh t b := cr fun t ih ht => by
  have hk := di t
  have hl := r4 t
  have kids : ∀ k i, t.kids.length - i ≤ k → ∃ b, eN (k + 1) t i b := fun k => by
    induction k with
    | zero => intro i hi; exact ⟨_, ep 0 _ _ _ ⟨fun h => by omega, fun _ => rfl⟩⟩
    | succ k ihk =>
      intro i hi
      obtain ⟨u, hu, hul⟩ | h' := aU t.kids i
      · have := bU hu
        obtain ⟨b, hb⟩ := ih i u hu (by omega)
        cases b with
        | false => exact ⟨false, ep (k + 1) _ _ _ ⟨fun _ => ⟨u, hu, _, hb, fun _ => rfl, fun h => (by cases h)⟩, fun h => absurd hul h⟩⟩
        | true =>
          obtain ⟨b2, hb2⟩ := ihk (i + 1) (by omega)
          exact ⟨b2, ep (k + 1) _ _ _ ⟨fun _ => ⟨u, hu, _, hb, fun h => (by cases h), fun _ => hb2⟩, fun h => absurd hul h⟩⟩
      · exact ⟨true, ep (k + 1) _ _ _ ⟨fun h => absurd h h', fun _ => rfl⟩⟩
  have lead : ∀ k i, t.leads.length - i ≤ k → ∃ b M, cF M t i b := fun k => by
    have last : ∀ i, ¬ i < t.leads.length → ∃ b M, cF M t i b := fun i hi => by
      obtain ⟨b, hb⟩ := kids t.kids.length 0 (by omega)
      exact ⟨b, _, dm _ _ _ _ ⟨fun h => absurd h hi, fun _ => hb⟩⟩
    induction k with
    | zero => intro i hi; exact last i (by omega)
    | succ k ihk =>
      intro i hi
      obtain ⟨s, hs, hsl⟩ | h' := aU t.leads i
      · have := pZ hs
        have := bC t
        obtain ⟨b2, M, hb2⟩ := ihk (i + 1) (by omega)
        by_cases h1 : t.kind = 1
        · have ht1 := rD s (((i : Nat) : Int) == 2) (by omega)
          cases hb : fC false s (((i : Nat) : Int) == 2) with
          | false => rw [hb] at ht1; exact ⟨false, 1, dm 0 _ _ _ ⟨fun _ => ⟨s, hs, fun _ => ⟨_, ht1, fun _ => rfl, fun h => (by cases h)⟩, fun h => absurd h1 h⟩, fun h => absurd hsl h⟩⟩
          | true => rw [hb] at ht1; exact ⟨b2, M + 1, dm M _ _ _ ⟨fun _ => ⟨s, hs, fun _ => ⟨_, ht1, fun h => (by cases h), fun _ => hb2⟩, fun h => absurd h1 h⟩, fun h => absurd hsl h⟩⟩
        · have ht1 := rD s false (by omega)
          cases hb : fC false s false with
          | false => rw [hb] at ht1; exact ⟨false, 1, dm 0 _ _ _ ⟨fun _ => ⟨s, hs, fun h => absurd h h1, fun _ => ⟨_, ht1, fun _ => rfl, fun h => (by cases h)⟩⟩, fun h => absurd hsl h⟩⟩
          | true => rw [hb] at ht1; exact ⟨b2, M + 1, dm M _ _ _ ⟨fun _ => ⟨s, hs, fun h => absurd h h1, fun _ => ⟨_, ht1, fun h => (by cases h), fun _ => hb2⟩⟩, fun h => absurd hsl h⟩⟩
      · exact last i h'
  by_cases h : ((t.leads.length : Nat) : Int) = cH t.kind t.kids.length
  · obtain ⟨b, M, hb⟩ := lead t.leads.length 0 (by omega)
    exact ⟨b, kg M _ _ ⟨_, nQ (by omega) (by omega), fun h' => absurd h h', fun _ => hb⟩⟩
  · exact ⟨false, kg 0 _ _ ⟨_, nQ (by omega) (by omega), fun _ => rfl, fun h' => absurd h' h⟩⟩
theorem wU : ∀ t : Tree, tbulk t ≤ 1000000 → ∃ b, eM t b := cr fun t ih ht => by
  have hk := di t
  have kids : ∀ k i, t.kids.length - i ≤ k → ∃ b, ay (k + 1) t i b := fun k => by
    induction k with
    | zero => intro i hi; exact ⟨_, d8 0 _ _ _ ⟨fun h => by omega, fun _ => rfl⟩⟩
    | succ k ihk =>
      intro i hi
      obtain ⟨u, hu, hul⟩ | h' := aU t.kids i
      · have := bU hu
        obtain ⟨b, hb⟩ := ih i u hu (by omega)
        cases b with
        | false => exact ⟨false, d8 (k + 1) _ _ _ ⟨fun _ => ⟨u, hu, _, hb, fun _ => rfl, fun h => (by cases h)⟩, fun h => absurd hul h⟩⟩
        | true =>
          obtain ⟨b2, hb2⟩ := ihk (i + 1) (by omega)
          exact ⟨b2, d8 (k + 1) _ _ _ ⟨fun _ => ⟨u, hu, _, hb, fun h => (by cases h), fun _ => ⟨by omega, hb2⟩⟩, fun h => absurd hul h⟩⟩
      · exact ⟨true, d8 (k + 1) _ _ _ ⟨fun h => absurd h h', fun _ => rfl⟩⟩
  obtain ⟨b, hb⟩ := kids t.kids.length 0 (by omega)
  by_cases hall : (t.kind = 1 ∧ (40 : Int) < t.kids.length) ∨ (t.kind = 2 ∧ (10 : Int) < t.kids.length) ∨ (t.kind = 16 ∧ (8 : Int) < t.kids.length) ∨ (t.kind = 18 ∧ (16 : Int) < t.kids.length)
  · refine ⟨false, jG (t.kids.length + 1) _ _ ?_⟩
    repeat' (refine And.intro (fun _ => ?_) (fun _ => ?_))
    all_goals first | rfl | (exfalso; omega)
  · refine ⟨b, jG (t.kids.length + 1) _ _ ?_⟩
    repeat' (refine And.intro (fun _ => ?_) (fun _ => ?_))
    all_goals first | exact hb | (exfalso; omega)
theorem x4 : ∀ t : Tree, tbulk t ≤ 1000000 → ∃ n, fo t n ∧ 0 ≤ n ∧ n ≤ tbulk t := cr fun t ih ht => by
  have hk := di t
  have kids : ∀ k i (z : Int), t.kids.length - i ≤ k → 0 ≤ z → z < tbulk t → ∃ n, eS (k + 1) t z i n ∧ 0 ≤ n ∧ n ≤ tbulk t := fun k => by
    induction k with
    | zero => intro i z hi h0 hz; exact ⟨_, gj 0 _ _ _ _ ⟨fun h => by omega, fun _ => ⟨by omega, rfl⟩⟩, by omega, by omega⟩
    | succ k ihk =>
      intro i z hi h0 hz
      obtain ⟨u, hu, hul⟩ | h' := aU t.kids i
      · have := bU hu
        obtain ⟨n, hn, n0, n1⟩ := ih i u hu (by omega)
        obtain ⟨r, hr, r0, r1⟩ := ihk (i + 1) (max z n) (by omega) (by omega) (by omega)
        exact ⟨r, gj (k + 1) _ _ _ _ ⟨fun _ => ⟨u, hu, _, hn, hr⟩, fun h => absurd hul h⟩, r0, r1⟩
      · exact ⟨_, gj (k + 1) _ _ _ _ ⟨fun h => absurd h h', fun _ => ⟨by omega, rfl⟩⟩, by omega, by omega⟩
  obtain ⟨n, hn, n0, n1⟩ := kids t.kids.length 0 0 (by omega) (by omega) (by have := bt t; omega)
  exact ⟨n, oe _ _ _ hn, n0, n1⟩
theorem o8 (t : Tree) (ht : tbulk t ≤ 1000000) : ∃ b, dK t b ∧ (b = true → shapeK t = true) := by
  have h1 := lC t (by omega)
  cases hs : shapeK t with
  | false => rw [hs] at h1; exact ⟨false, iA 0 _ _ ⟨_, h1, fun h => by (cases h), fun _ => rfl⟩, fun h => (by cases h)⟩
  | true =>
    rw [hs] at h1
    obtain ⟨b, hb⟩ := yr t ht
    exact ⟨b, iA 0 _ _ ⟨_, h1, fun _ => ⟨_, hb, rfl⟩, fun h => (by cases h)⟩, fun _ => rfl⟩
theorem yX (t : Tree) (ht : tbulk t ≤ 1000000) : ∃ s, gO t s := by
  obtain ⟨b, hb, hs⟩ := o8 t ht
  cases b with
  | false => exact ⟨[], jZ 0 _ _ ⟨_, hb, fun _ => rfl, fun h => (by cases h)⟩⟩
  | true =>
    obtain ⟨l, e, z, q⟩ := yP t ht (hs rfl) [] (by simp; omega)
    have hq := q bM
    simp only [List.length_nil] at z
    have loop : ∀ k i (s : List UInt8), l.length - i ≤ k → s.length ≤ i * 2000020 → i ≤ l.length → ∃ r, bW (k + 1) l s i r := fun k => by
      induction k with
      | zero => intro i s hi hsl hil; exact ⟨_, cq 0 _ _ _ _ ⟨fun h => by omega, fun _ => rfl⟩⟩
      | succ k ihk =>
        intro i s hi hsl hil
        obtain ⟨x, hx, hxl⟩ | h' := aU l i
        · obtain ⟨hx1, hx2⟩ := hq x (List.mem_of_getElem? hx)
          have hmul : (i + 1) * 2000020 = i * 2000020 + 2000020 := Nat.succ_mul _ _
          obtain ⟨r1, hr1⟩ := ihk (i + 1) (((s ++ [32]) ++ x.Lead) ++ x.Text) (by omega) (by simp only [List.length_append, List.length_cons, List.length_nil]; omega) (by omega)
          obtain ⟨r2, hr2⟩ := ihk (i + 1) ((s ++ x.Lead) ++ x.Text) (by omega) (by simp only [List.length_append]; omega) (by omega)
          have plain : s.length + x.Lead.length ≤ 9223372036854775807 ∧ ∃ y : Pce, l[i]? = some y ∧ (s ++ x.Lead).length + y.Text.length ≤ 9223372036854775807 ∧ bW (k + 1) l ((s ++ x.Lead) ++ y.Text) (i + 1) r2 := ⟨by omega, x, hx, by simp only [List.length_append]; omega, hr2⟩
          by_cases h0 : (0 : Int) < ((i : Nat) : Int)
          · by_cases hle : x.Lead = []
            · obtain ⟨y, hy, hyl⟩ | h' := aU l (i - 1)
              rotate_left
              · omega
              obtain ⟨hy1, hy2⟩ := hq y (List.mem_of_getElem? hy)
              have hf := yD y.Text x.Text (by omega) (by omega)
              cases hb2 : fusesT y.Text x.Text with
              | true =>
                rw [hb2] at hf
                exact ⟨r1, cq (k + 1) _ _ _ _ ⟨fun _ => ⟨fun _ => ⟨x, hx, fun _ => ⟨by omega, i - 1, by omega, y, hy, x, hx, _, hf, fun _ => ⟨by simp only [List.length_cons, List.length_nil]; omega, x, hx, by simp only [List.length_append, List.length_cons, List.length_nil]; omega, x, hx, by simp only [List.length_append, List.length_cons, List.length_nil]; omega, hr1⟩, fun h => by (cases h)⟩, fun h => absurd hle h⟩, fun h => absurd h0 h⟩, fun h => absurd hxl h⟩⟩
              | false =>
                rw [hb2] at hf
                exact ⟨r2, cq (k + 1) _ _ _ _ ⟨fun _ => ⟨fun _ => ⟨x, hx, fun _ => ⟨by omega, i - 1, by omega, y, hy, x, hx, _, hf, fun h => by (cases h), fun _ => ⟨x, hx, plain⟩⟩, fun h => absurd hle h⟩, fun h => absurd h0 h⟩, fun h => absurd hxl h⟩⟩
            · exact ⟨r2, cq (k + 1) _ _ _ _ ⟨fun _ => ⟨fun _ => ⟨x, hx, fun h => absurd h hle, fun _ => ⟨x, hx, plain⟩⟩, fun h => absurd h0 h⟩, fun h => absurd hxl h⟩⟩
          · exact ⟨r2, cq (k + 1) _ _ _ _ ⟨fun _ => ⟨fun h => absurd h h0, fun _ => ⟨x, hx, plain⟩⟩, fun h => absurd hxl h⟩⟩
        · exact ⟨s, cq (k + 1) _ _ _ _ ⟨fun h => absurd h h', fun _ => rfl⟩⟩
    obtain ⟨r, hr⟩ := loop l.length 0 [] (by omega) (by simp) (by omega)
    exact ⟨r, jZ (l.length + 1) _ _ ⟨_, hb, fun h => by (cases h), fun _ => ⟨l, np 0 _ _ ⟨_, e, rfl⟩, hr⟩⟩⟩
theorem yb (t : Tree) (ht : tbulk t ≤ 1000000) : ∃ b, dP t b ∧ (b = true → shapeK t = true) := by
  obtain ⟨b, hb, hsh⟩ := o8 t ht
  cases b with
  | false => exact ⟨false, eQ 0 _ _ ⟨_, hb, fun h => by (cases h), fun _ => rfl⟩, fun h => (by cases h)⟩
  | true =>
    obtain ⟨b2, hb2⟩ := wU t ht
    cases b2 with
    | false => exact ⟨false, eQ 0 _ _ ⟨_, hb, fun _ => ⟨_, hb2, fun h => by (cases h), fun _ => rfl⟩, fun h => (by cases h)⟩, fun h => (by cases h)⟩
    | true =>
      obtain ⟨n, hn, _, _⟩ := x4 t ht
      obtain ⟨s, hs⟩ := yX t ht
      by_cases h40 : n ≤ 40
      · exact ⟨_, eQ 0 _ _ ⟨_, hb, fun _ => ⟨_, hb2, fun _ => ⟨n, hn, fun _ => ⟨s, hs, rfl⟩, fun h => absurd h40 h⟩, fun h => (by cases h)⟩, fun h => (by cases h)⟩, fun _ => hsh rfl⟩
      · exact ⟨false, eQ 0 _ _ ⟨_, hb, fun _ => ⟨_, hb2, fun _ => ⟨n, hn, fun h => absurd h h40, fun _ => rfl⟩, fun h => (by cases h)⟩, fun h => (by cases h)⟩, fun h => (by cases h)⟩
end Go.Proofs.YtiknldgpnhikhaaGreat
namespace Go.Proofs.YtiknldgpnhikhaaGreat
open Go.RowKit Lx Sx
set_option maxHeartbeats 1000000
set_option maxRecDepth 100000
theorem Bp {L : List Int} {a : Int} (hd : Dc L a) : Gt L (fun t a' => jA L a t L a') 500 := by
  obtain ⟨r, a1, h1, h2, h3⟩ := ea hd (n := 5) (by omega) (by omega)
  by_cases hr : r = 0
  · obtain ⟨s, a2, g1, g2, g3⟩ := gd h3 [[84], [85]] (by decide) (by decide)
    have hs := fI g2 (by decide)
    obtain ⟨t, a3, q1, q2, q3⟩ := wd 2 g3 (by omega)
    exact ⟨_, a3, lV 0 _ _ _ _ _ ⟨_, _, _, h1, fun _ => ⟨_, _, _, g1, _, _, _, q1, rfl, rfl, rfl⟩, fun h => absurd hr h⟩, q2, by rw [tb1]; omega⟩
  · obtain ⟨s, a2, g1, g2, g3⟩ := gd h3 [[102], [103], [104]] (by decide) (by decide)
    have hs := fI g2 (by decide)
    obtain ⟨n, a3, g4, g5, g6⟩ := ea g3 (n := 4) (by omega) (by omega)
    have loop : ∀ (k : Nat) (a : Int) (l : List Tree), Dc L a → l.length + k ≤ 100 → Gt L (fun t a' => fZ (k + 1) s L a l (k : Int) t L a') (s.length + 1 + kbulk l + k * 13 + 429) := fun k => by
      induction k with
      | zero =>
        intro a l hd hl
        obtain ⟨t1, b1, q1, q2, q3⟩ := wd 1 hd (by omega)
        obtain ⟨t2, b2, q4, q5, q6⟩ := Ax 3 q2 (by omega)
        have : eB 3 = 422 := rfl
        refine ⟨_, b2, lE 0 _ _ _ _ _ _ _ _ ⟨fun h => by omega, fun _ => ⟨_, _, _, q1, _, _, _, q4, by simp; omega, rfl, rfl, rfl⟩⟩, q5, ?_⟩
        rw [tbK, eb]; simp only [kbulk]; omega
      | succ k ihk =>
        intro a l hd hl
        obtain ⟨x, b0, q0, q0', q0''⟩ := gd hd [[120], [121], [122]] (by decide) (by decide)
        have hx := fI q0' (by decide)
        obtain ⟨t, b, q1, q2, q3⟩ := wd 1 q0'' (by omega)
        refine (ihk b (l ++ [.node 4 x [] [t]]) q2 (by simp; omega)).map ?_ fun t' a' h => lE (k + 1) _ _ _ _ _ _ _ _ ⟨fun _ => ⟨_, _, _, q0, _, _, _, q1, by simp; omega, by omega, by rw [show ((k + 1 : Nat) : Int) - 1 = (k : Int) by omega]; exact h⟩, fun h => by omega⟩
        rw [eb]; simp only [kbulk, tb1]; omega
    exact (loop n.toNat a3 [] g6 (by simp; omega)).map (by simp only [kbulk]; omega) fun t a' h => lV (n.toNat + 1) _ _ _ _ _ ⟨_, _, _, h1, fun h => absurd h hr, fun _ => ⟨_, _, _, g1, _, _, _, g4, by rw [show n = ((n.toNat : Nat) : Int) by omega]; exact h⟩⟩
def Sh (l : List (List UInt8)) (n : Nat) : Prop := l.length = n ∧ ∀ x ∈ l, x.length ≤ 2
theorem Sh.sum : ∀ {l : List (List UInt8)} {n : Nat}, Sh l n → lsum l ≤ 3 * n
  | [], n, h => by simp [lsum]
  | x :: r, n, h => by
    obtain ⟨h1, h2⟩ := h
    have := h2 x (by simp)
    have := Sh.sum (l := r) (n := n - 1) ⟨by simp at h1; omega, fun y hy => h2 y (by simp [hy])⟩
    simp only [lsum]; simp at h1; omega
theorem Sh.set {l : List (List UInt8)} {n i : Nat} {x : List UInt8} (h : Sh l n) (hx : x.length ≤ 2) : Sh (l.set i x) n := ⟨by simpa using h.1, fun y hy => by
  rcases List.mem_or_eq_of_mem_set hy with h1 | h1
  · exact h.2 y h1
  · subst h1; exact hx⟩
theorem Sh.get {l : List (List UInt8)} {n i : Nat} (h : Sh l n) (hi : i < n) : ∃ s, l[i]? = some s := by
  obtain ⟨s, hs, _⟩ | h' := aU l i
  · exact ⟨s, hs⟩
  · have := h.1; omega
theorem yO {n : Int} (h0 : 0 ≤ n) (h1 : n ≤ 100000000) : ∃ l, gA n l ∧ Sh l n.toNat := by
  have loop : ∀ k i (l : List (List UInt8)), n.toNat - i ≤ k → i ≤ n.toNat → Sh l i → ∃ r, ev (k + 1) n l i r ∧ Sh r n.toNat := fun k => by
    induction k with
    | zero => intro i l hi hle hl; exact ⟨l, fX 0 _ _ _ _ ⟨fun h => by omega, fun _ => rfl⟩, by rw [show n.toNat = i by omega]; exact hl⟩
    | succ k ihk =>
      intro i l hi hle hl
      by_cases h : (i : Int) < n
      · obtain ⟨r, e, hr⟩ := ihk (i + 1) (l ++ [[32]]) (by omega) (by omega) ⟨by simp [hl.1], fun x hx => by
          rcases List.mem_append.1 hx with h1 | h1
          · exact hl.2 x h1
          · simp at h1; subst h1; simp⟩
        exact ⟨r, fX (k + 1) _ _ _ _ ⟨fun _ => ⟨by simp [hl.1]; omega, by omega, e⟩, fun h' => absurd h h'⟩, hr⟩
      · exact ⟨l, fX (k + 1) _ _ _ _ ⟨fun h' => absurd h' h, fun _ => rfl⟩, by rw [show n.toNat = i by omega]; exact hl⟩
  obtain ⟨r, e, hr⟩ := loop n.toNat 0 [] (by omega) (by omega) ⟨rfl, fun x hx => by cases hx⟩
  exact ⟨r, nz _ _ _ e, hr⟩
def px (t : Tree) (i : Int) (first : List UInt8) : List UInt8 := if t.kind = 1 then [10, 10] else if 0 < i then [32] else if t.kind = 8 ∨ t.kind = 22 ∨ t.kind = 16 ∨ t.kind = 18 then [] else if t.kind = 2 then (if (2 : Int) < t.kids.length then [] else [32]) else if t.kind = 17 ∨ t.kind = 21 then first else [32]
theorem yI (t : Tree) (i : Int) (first : List UInt8) : gG t i first (px t i first) := by
  refine nl 1 _ _ _ _ ?_
  repeat' first | (refine And.intro (fun _ => ?_) (fun _ => ?_)) | (refine ng 0 _ _ _ _ ?_)
  all_goals simp_all [px]
  all_goals (intro h; omega)
theorem vn (t : Tree) (i : Int) (first : List UInt8) (hf : first.length ≤ 2) : (px t i first).length ≤ 2 := by
  unfold px
  repeat' split
  all_goals first | exact hf | simp
theorem lr {n : Int} (hn : 0 ≤ n) (a b c : Nat) (z : Int) : f0 n a b c z ≤ b + n := by
  unfold f0; repeat' split
  all_goals omega
theorem A5 {k n : Int} (hn : 0 ≤ n) : cH k n ≤ 6 + n := by
  have a1 := lr hn 2 6 2 (-1)
  have a2 := lr hn 0 3 0 (-1)
  have a3 := lr hn 1 2 0 (-1)
  have a4 := lr hn 1 3 0 1
  have a5 := lr hn 1 2 0 1
  have a6 := lr hn 1 0 0 1
  have a7 := lr hn 3 3 0 3
  have a8 := lr hn 2 4 0 2
  have a9 := lr hn 2 1 0 2
  have a10 := lr hn 0 1 0 0
  simp only [cH]
  repeat' first | omega | split
theorem xM {t : Tree} (hs : shapeK t = true) : (t.kind = 1 → cH t.kind t.kids.length = 3) ∧ (t.kind = 2 → 6 ≤ cH t.kind t.kids.length) ∧ (t.kind = 4 ∨ t.kind = 8 ∨ t.kind = 22 → cH t.kind t.kids.length = 2) ∧ (t.kind ≠ 17 → 1 ≤ cH t.kind t.kids.length) := by
  have h := mW hs
  refine ⟨fun hk => ?_, fun hk => ?_, fun hk => ?_, fun hk => ?_⟩
  · rw [hk]; simp only [cH]; simp
  · rw [hk] at h ⊢; simp only [cH, f0] at h ⊢; simp at h ⊢; repeat' split
    all_goals first | omega | (simp_all; omega)
  · rcases hk with hk | hk | hk <;> (rw [hk] at h ⊢; simp only [cH, f0] at h ⊢; simp at h ⊢; repeat' split) <;> first | omega | (simp_all; done) | (simp_all; omega)
  · have key : ∀ k n : Int, 0 ≤ n → k ≠ 17 → 0 ≤ cH k n → 1 ≤ cH k n := fun k n hn hk h => by
      have q : ∀ (a b c : Nat) z, 1 ≤ b → f0 n a b c z = -1 ∨ 1 ≤ f0 n a b c z := fun a b c z hb => by
        unfold f0; repeat' split
        all_goals omega
      have a1 := q 2 6 2 (-1) (by decide)
      have a2 := q 0 3 0 (-1) (by decide)
      have a3 := q 1 2 0 (-1) (by decide)
      have a4 := q 1 3 0 1 (by decide)
      have a5 := q 1 2 0 1 (by decide)
      have a7 := q 3 3 0 3 (by decide)
      have a8 := q 2 4 0 2 (by decide)
      have a9 := q 2 1 0 2 (by decide)
      have a10 := q 0 1 0 0 (by decide)
      revert h
      simp only [cH]
      repeat' first | (intro h; omega) | split
    exact key _ _ (by omega) hk h
section
variable {t : Tree} {N : Nat} {us : List Tree}
theorem Aa : ∀ k i (l : List (List UInt8)), N - i ≤ k → Sh l N → ∃ l', d9 (k + 1) t l i us (.node t.kind t.text l' us) ∧ Sh l' N := fun k => by
  induction k with
  | zero => intro i l hi hl; exact ⟨l, fw 0 _ _ _ _ _ ⟨fun h => by have := hl.1; omega, fun _ => rfl⟩, hl⟩
  | succ k ihk =>
    intro i l hi hl
    by_cases h : i < l.length
    · obtain ⟨s, hs⟩ := hl.get (i := i) (by have := hl.1; omega)
      obtain ⟨l', e, h'⟩ := ihk (i + 1) (l.set i []) (by omega) (hl.set (by simp))
      exact ⟨l', fw (k + 1) _ _ _ _ _ ⟨fun _ => ⟨s, hs, e⟩, fun h' => absurd h h'⟩, h'⟩
    · exact ⟨l, fw (k + 1) _ _ _ _ _ ⟨fun h' => absurd h' h, fun _ => rfl⟩, hl⟩
theorem u5 : ∀ k i (l : List (List UInt8)), N - i ≤ k → Sh l N → ∃ l', cZ (k + 1) t l i us (.node t.kind t.text l' us) ∧ Sh l' N := fun k => by
  induction k with
  | zero => intro i l hi hl; exact ⟨l, fx 0 _ _ _ _ _ ⟨fun h => by have := hl.1; omega, fun _ => rfl⟩, hl⟩
  | succ k ihk =>
    intro i l hi hl
    by_cases h : i < l.length
    · obtain ⟨s, hs⟩ := hl.get (i := i) (by have := hl.1; omega)
      obtain ⟨l', e, h'⟩ := ihk (i + 1) (l.set i []) (by omega) (hl.set (by simp))
      exact ⟨l', fx (k + 1) _ _ _ _ _ ⟨fun _ => ⟨s, hs, e⟩, fun h' => absurd h h'⟩, h'⟩
    · exact ⟨l, fx (k + 1) _ _ _ _ _ ⟨fun h' => absurd h' h, fun _ => rfl⟩, hl⟩
theorem rf (hs : shapeK t = true) (hN : N = (cH t.kind t.kids.length).toNat) {l : List (List UInt8)} (hl : Sh l N) : ∃ l', cX (N + 2) t l us (.node t.kind t.text l' us) ∧ Sh l' N := by
  obtain ⟨g1, g2, g3, g4⟩ := xM hs
  have e0 : ([] : List UInt8).length ≤ 2 := by simp
  by_cases h1 : t.kind = 1
  · have := g1 h1
    obtain ⟨s, hs⟩ := hl.get (i := 2) (by omega)
    exact ⟨_, bD (N + 1) _ _ _ _ ⟨fun _ => ⟨s, hs, rfl⟩, fun h => absurd h1 h⟩, hl.set (by simp)⟩
  by_cases h2 : t.kind = 2
  · have := g2 h2
    have l1 := hl.set (i := 2) e0
    have l2 := l1.set (i := 3) e0
    have l3 := l2.set (i := 4) e0
    obtain ⟨s, hs⟩ := hl.get (i := 2) (by omega)
    obtain ⟨s', hs'⟩ := l1.get (i := 3) (by omega)
    obtain ⟨s2, hs2⟩ := l2.get (i := 4) (by omega)
    obtain ⟨l', e, h'⟩ := Aa (t := t) (us := us) N 6 _ (by omega) l3
    exact ⟨l', bD (N + 1) _ _ _ _ ⟨fun h => absurd h h1, fun _ => ⟨fun _ => ⟨s, hs, s', hs', s2, hs2, e⟩, fun h => absurd h2 h⟩⟩, h'⟩
  by_cases h4 : t.kind = 4
  · have := g3 (by simp [h4])
    obtain ⟨s, hs⟩ := hl.get (i := 1) (by omega)
    exact ⟨_, bD (N + 1) _ _ _ _ ⟨fun h => absurd h h1, fun _ => ⟨fun h => absurd h h2, fun _ => ⟨fun _ => ⟨s, hs, rfl⟩, fun h => absurd h4 h⟩⟩⟩, hl.set e0⟩
  by_cases h8 : t.kind = 8
  · have := g3 (by simp [h8])
    obtain ⟨s, hs⟩ := hl.get (i := 1) (by omega)
    exact ⟨_, bD (N + 1) _ _ _ _ ⟨fun h => absurd h h1, fun _ => ⟨fun h => absurd h h2, fun _ => ⟨fun h => absurd h h4, fun _ => ⟨fun _ => ⟨s, hs, rfl⟩, fun h => absurd h8 h⟩⟩⟩⟩, hl.set e0⟩
  by_cases h22 : t.kind = 22
  · have := g3 (by simp [h22])
    obtain ⟨s, hs⟩ := hl.get (i := 1) (by omega)
    exact ⟨_, bD (N + 1) _ _ _ _ ⟨fun h => absurd h h1, fun _ => ⟨fun h => absurd h h2, fun _ => ⟨fun h => absurd h h4, fun _ => ⟨fun h => absurd h h8, fun _ => ⟨fun _ => ⟨s, hs, rfl⟩, fun h => absurd h22 h⟩⟩⟩⟩⟩, hl.set e0⟩
  by_cases h16 : t.kind = 16
  · obtain ⟨l', e, h'⟩ := u5 (t := t) (us := us) N 1 _ (by omega) hl
    exact ⟨l', bD (N + 1) _ _ _ _ ⟨fun h => absurd h h1, fun _ => ⟨fun h => absurd h h2, fun _ => ⟨fun h => absurd h h4, fun _ => ⟨fun h => absurd h h8, fun _ => ⟨fun h => absurd h h22, fun _ => ⟨fun _ => e, fun h => absurd h16 h⟩⟩⟩⟩⟩⟩, h'⟩
  by_cases h18 : t.kind = 18
  · obtain ⟨l', e, h'⟩ := u5 (t := t) (us := us) N 1 _ (by omega) hl
    exact ⟨l', bD (N + 1) _ _ _ _ ⟨fun h => absurd h h1, fun _ => ⟨fun h => absurd h h2, fun _ => ⟨fun h => absurd h h4, fun _ => ⟨fun h => absurd h h8, fun _ => ⟨fun h => absurd h h22, fun _ => ⟨fun h => absurd h h16, fun _ => ⟨fun _ => e, fun h => absurd h18 h⟩⟩⟩⟩⟩⟩⟩, h'⟩
  · exact ⟨l, bD (N + 1) _ _ _ _ ⟨fun h => absurd h h1, fun _ => ⟨fun h => absurd h h2, fun _ => ⟨fun h => absurd h h4, fun _ => ⟨fun h => absurd h h8, fun _ => ⟨fun h => absurd h h22, fun _ => ⟨fun h => absurd h h16, fun _ => ⟨fun h => absurd h h18, fun _ => rfl⟩⟩⟩⟩⟩⟩⟩, hl⟩
end
theorem m7 {l : List Tree} {i : Nat} {u : Tree} (h : l[i]? = some u) : kbulk (l.take (i + 1)) = kbulk (l.take i) + tbulk u := by
  rw [List.take_add_one, h, eb]; simp [kbulk]
theorem xl : ∀ t : Tree, tbulk t ≤ 1000000 → shapeK t = true → ∀ first, first.length ≤ 2 → ∃ u, eh t first u ∧ tbulk u + 3 ≤ 25 * tbulk t ∧ u.kind = t.kind := cr fun t ih ht hs first hf => by
  have hk := di t
  have hbt := bC t
  have h0 := mW hs
  have h6 := A5 (k := t.kind) (n := (t.kids.length : Int)) (by omega)
  obtain ⟨g1, g2, g3, g4⟩ := xM hs
  obtain ⟨bl, hbl, hsh⟩ := yO h0 (by omega)
  have loop : ∀ k i (done rest : List Tree), t.kids.length - i ≤ k → done.length = i → i ≤ t.kids.length → rest.length = t.kids.length - i → kbulk done + 3 * i ≤ 25 * kbulk (t.kids.take i) → ∃ M r, db M t first bl (done ++ rest) i r ∧ tbulk r + 3 ≤ 25 * tbulk t ∧ r.kind = t.kind := fun k => by
    have last : ∀ i (done rest : List Tree), ¬ i < t.kids.length → done.length = i → i ≤ t.kids.length → rest.length = t.kids.length - i → kbulk done + 3 * i ≤ 25 * kbulk (t.kids.take i) → ∃ M r, db M t first bl (done ++ rest) i r ∧ tbulk r + 3 ≤ 25 * tbulk t ∧ r.kind = t.kind := fun i done rest hi hd hle hr hb => by
      have hr0 : rest = [] := List.length_eq_zero_iff.1 (by omega)
      subst hr0
      rw [List.append_nil]
      rw [List.take_of_length_le (by omega)] at hb
      have fin : ∀ l', Sh l' (cH t.kind t.kids.length).toNat → tbulk (.node t.kind t.text l' done) + 3 ≤ 25 * tbulk t ∧ (Tree.node t.kind t.text l' done).kind = t.kind := fun l' hl' => by
        have := hl'.sum
        exact ⟨by simp only [tbulk]; omega, rfl⟩
      by_cases h17 : t.kind = 17
      · obtain ⟨l', e, h'⟩ := rf (us := done) hs rfl hsh
        exact ⟨_, _, dO _ _ _ _ _ _ _ ⟨fun h => absurd h hi, fun _ => ⟨fun h => absurd h17 h, fun _ => e⟩⟩, fin l' h'⟩
      · by_cases h21 : t.kind = 21
        · obtain ⟨l', e, h'⟩ := rf (us := done) hs rfl hsh
          exact ⟨_, _, dO _ _ _ _ _ _ _ ⟨fun h => absurd h hi, fun _ => ⟨fun _ => ⟨fun h => absurd h21 h, fun _ => e⟩, fun h => absurd h h17⟩⟩, fin l' h'⟩
        · obtain ⟨l', e, h'⟩ := rf (us := done) hs rfl (hsh.set (i := 0) hf)
          have := g4 h17
          obtain ⟨s, hs0⟩ := hsh.get (i := 0) (by omega)
          exact ⟨_, _, dO _ _ _ _ _ _ _ ⟨fun h => absurd h hi, fun _ => ⟨fun _ => ⟨fun _ => ⟨s, hs0, e⟩, fun h => absurd h h21⟩, fun h => absurd h h17⟩⟩, fin l' h'⟩
    induction k with
    | zero => intro i done rest hi hd hle hr hb; exact last i done rest (by omega) hd hle hr hb
    | succ k ihk =>
      intro i done rest hi hd hle hr hb
      obtain ⟨u, hu, hul⟩ | h' := aU t.kids i
      · have hbu := bU hu
        obtain ⟨v, hv, hvb, _⟩ := ih i u hu (by omega) (se hs hu).1 _ (vn t i first hf)
        match rest, hr with
        | z :: rest', hr =>
          obtain ⟨M, r, e, hb2⟩ := ihk (i + 1) (done ++ [v]) rest' (by omega) (by simp [hd]) (by omega) (by simp at hr; omega) (by rw [m7 hu, eb]; simp only [kbulk]; omega)
          refine ⟨M + 1, r, dO M _ _ _ _ _ _ ⟨fun _ => ⟨u, hu, _, yI t i first, v, hv, z, by simp [← hd], by omega, ?_⟩, fun h => absurd hul h⟩, hb2⟩
          have : (done ++ z :: rest').set i v = done ++ [v] ++ rest' := by simp [← hd]
          rw [this]; exact e
        | [], hr => simp at hr; omega
      · exact last i done rest h' hd hle hr hb
  obtain ⟨M, r, e, hb⟩ := loop t.kids.length 0 [] (List.replicate t.kids.length (.node 0 [] [] [])) (by omega) rfl (by omega) (by simp) (by simp [kbulk])
  exact ⟨r, nk (M + 1) _ _ _ ⟨_, nQ (by omega) (by omega), bl, hbl, mK M _ _ _ _ ⟨by omega, by simpa using e⟩⟩, hb⟩
theorem xy (t : Tree) (ht : tbulk t ≤ 1000000) : ∃ u, gb t u ∧ tbulk u ≤ 25 * tbulk t ∧ (u.kind = t.kind ∨ u.kind = 0) := by
  have h1 := lC t (by omega)
  have := bt t
  cases hs : shapeK t with
  | false => rw [hs] at h1; exact ⟨.node 0 [] [] [], jk 0 _ _ ⟨_, h1, fun _ => rfl, fun h => (by cases h)⟩, by rw [tb0]; simp; omega, .inr rfl⟩
  | true =>
    rw [hs] at h1
    obtain ⟨u, hu, hb, hkk⟩ := xl t ht hs [] (by simp)
    exact ⟨u, jk 0 _ _ ⟨_, h1, fun h => (by cases h), fun _ => ⟨u, hu, rfl⟩⟩, by omega, .inl hkk⟩
theorem sV : ∀ (l : List (List UInt8)) (i : Nat) (x : List UInt8), lsum (l.set i x) ≤ lsum l + x.length
  | [], i, x => by simp [lsum]
  | y :: r, 0, x => by simp only [List.set_cons_zero, lsum]; omega
  | y :: r, i + 1, x => by have := sV r i x; simp only [List.set_cons_succ, lsum]; omega
theorem yC {L : List Int} : ∀ t : Tree, tbulk t ≤ 1000000 → ∀ {a : Int}, Dc L a → Gt L (fun u a' => fL L a t u L a' ∧ u.kind = t.kind) (6 * tbulk t) := cr fun t ih ht a hd => by
  have hk := di t
  have hl := r4 t
  have hbt := bC t
  have kids : ∀ k i (done : List Tree) (ls : List (List UInt8)) (a : Int), t.kids.length - i ≤ k → i ≤ t.kids.length → done.length = i → kbulk done ≤ 6 * kbulk (t.kids.take i) → lsum ls ≤ 6 * lsum t.leads → Dc L a → ∃ M, Gt L (fun u a' => dW M t L a (done ++ t.kids.drop i) i ls u L a' ∧ u.kind = t.kind) (6 * tbulk t) := fun k => by
    have last : ∀ i (done : List Tree) (ls : List (List UInt8)) (a : Int), ¬ i < t.kids.length → i ≤ t.kids.length → done.length = i → kbulk done ≤ 6 * kbulk (t.kids.take i) → lsum ls ≤ 6 * lsum t.leads → Dc L a → ∃ M, Gt L (fun u a' => dW M t L a (done ++ t.kids.drop i) i ls u L a' ∧ u.kind = t.kind) (6 * tbulk t) := fun i done ls a hi hle hdn hb hls hd => by
      rw [List.drop_of_length_le (by omega), List.append_nil]
      rw [List.take_of_length_le (by omega)] at hb
      exact ⟨1, _, a, ⟨km 0 _ _ _ _ _ _ _ _ _ ⟨fun h => absurd h (by omega), fun _ => ⟨rfl, rfl, rfl⟩⟩, rfl⟩, hd, by simp only [tbulk]; omega⟩
    induction k with
    | zero => intro i done ls a hi hle hdn hb hls hd; exact last i done ls a (by omega) hle hdn hb hls hd
    | succ k ihk =>
      intro i done ls a hi hle hdn hb hls hd
      obtain ⟨u, hu, hul⟩ | h' := aU t.kids i
      · have hbu := bU hu
        obtain ⟨v, a1, ⟨q1, _⟩, q2, q3⟩ := ih i u hu (by omega) hd
        obtain ⟨M, hM⟩ := ihk (i + 1) (done ++ [v]) ls a1 (by omega) (by omega) (by simp [hdn]) (by rw [m7 hu, eb]; simp only [kbulk]; omega) hls q2
        have hg : (done ++ t.kids.drop i)[i]? = some u := by rw [List.getElem?_append_right (by omega), hdn]; simpa using hu
        refine ⟨M + 1, hM.map (Nat.le_refl _) fun w b ⟨h, hw⟩ => ⟨km M _ _ _ _ _ _ _ _ _ ⟨fun _ => ⟨u, hg, _, _, _, q1, u, hg, ?_⟩, fun h' => absurd (by simp [hdn]; omega) h'⟩, hw⟩⟩
        have : (done ++ t.kids.drop i).set i v = done ++ [v] ++ t.kids.drop (i + 1) := by rw [bQ hu]; simp [← hdn]
        rw [this]; exact h
      · exact last i done ls a h' hle hdn hb hls hd
  have lead : ∀ k i (ls : List (List UInt8)) (a : Int), t.leads.length - i ≤ k → i ≤ t.leads.length → ls.length = t.leads.length → lsum ls ≤ lsum t.leads + 5 * i → Dc L a → ∃ M, Gt L (fun u a' => cU M t L a ls i u L a' ∧ u.kind = t.kind) (6 * tbulk t) := fun k => by
    have hll := p6 t.leads
    have last : ∀ i (ls : List (List UInt8)) (a : Int), ¬ i < t.leads.length → i ≤ t.leads.length → ls.length = t.leads.length → lsum ls ≤ lsum t.leads + 5 * i → Dc L a → ∃ M, Gt L (fun u a' => cU M t L a ls i u L a' ∧ u.kind = t.kind) (6 * tbulk t) := fun i ls a hi hle hlen hb hd => by
      obtain ⟨M, hM⟩ := kids t.kids.length 0 [] ls a (by omega) (by omega) rfl (by simp [kbulk]) (by omega) hd
      exact ⟨M + 1, hM.map (Nat.le_refl _) fun w b ⟨h, hw⟩ => ⟨gH M _ _ _ _ _ _ _ _ ⟨fun h' => absurd h' (by omega), fun _ => ⟨by omega, by simpa using h⟩⟩, hw⟩⟩
    induction k with
    | zero => intro i ls a hi hle hlen hb hd; exact last i ls a (by omega) hle hlen hb hd
    | succ k ihk =>
      intro i ls a hi hle hlen hb hd
      obtain ⟨x, hx, hxl⟩ | h' := aU ls i
      · obtain ⟨n, a1, h1, h2, h3⟩ := ea hd (n := 9) (by omega) (by omega)
        by_cases hn : n = 1
        · obtain ⟨s, a2, g1, g2, g3⟩ := gd h3 [[32, 35, 32, 99, 10], [32, 32], [10, 9], [35, 10]] (by decide) (by decide)
          have hs5 := fI g2 (by decide)
          have := sV ls i s
          obtain ⟨M, hM⟩ := ihk (i + 1) (ls.set i s) a2 (by omega) (by omega) (by simpa using hlen) (by omega) g3
          exact ⟨M + 1, hM.map (Nat.le_refl _) fun w b ⟨h, hw⟩ => ⟨gH M _ _ _ _ _ _ _ _ ⟨fun _ => ⟨_, _, _, h1, fun _ => ⟨_, _, _, g1, x, hx, h⟩, fun h' => absurd hn h'⟩, fun h' => absurd hxl h'⟩, hw⟩⟩
        · obtain ⟨M, hM⟩ := ihk (i + 1) ls a1 (by omega) (by omega) hlen (by omega) h3
          exact ⟨M + 1, hM.map (Nat.le_refl _) fun w b ⟨h, hw⟩ => ⟨gH M _ _ _ _ _ _ _ _ ⟨fun _ => ⟨_, _, _, h1, fun h' => absurd h' hn, fun _ => h⟩, fun h' => absurd hxl h'⟩, hw⟩⟩
      · exact last i ls a (by omega) hle hlen hb hd
  obtain ⟨M, hM⟩ := lead t.leads.length 0 t.leads a (by omega) (by omega) rfl (by omega) hd
  exact hM.map (Nat.le_refl _) fun w b ⟨h, hw⟩ => ⟨oK M _ _ _ _ _ _ ⟨by omega, h⟩, hw⟩
theorem yR {L : List Int} {a : Int} (hd : Dc L a) (name : List UInt8) (hname : name.length ≤ 5) : Gt L (fun t a' => gU L a name t L a' ∧ (t.kind = 1 ∨ t.kind = 0)) 300000 := by
  obtain ⟨n, a1, h1, h2, h3⟩ := ea hd (n := 4) (by omega) (by omega)
  have loop : ∀ (k : Nat) (a : Int) (l : List Tree), Dc L a → l.length + k ≤ 100 → kbulk l + k * 500 ≤ 1500 → Gt L (fun t a' => eV (k + 1) name L a l (k : Int) t L a' ∧ (t.kind = 1 ∨ t.kind = 0)) 300000 := fun k => by
    induction k with
    | zero =>
      intro a l hd hl hb
      have ht : tbulk (.node 1 name [] l) ≤ 1506 := by rw [tbK]; omega
      obtain ⟨u, hu, hub, huk⟩ := xy (.node 1 name [] l) (by omega)
      obtain ⟨z, a2, g1, g2, g3⟩ := ea hd (n := 2) (by omega) (by omega)
      by_cases hz : z = 0
      · exact (yC u (by omega) g3).map (by omega) fun w b ⟨h, hw⟩ => ⟨gi 0 _ _ _ _ _ _ _ _ ⟨fun h' => by omega, fun _ => ⟨u, hu, _, _, _, g1, fun _ => ⟨_, _, _, h, rfl, rfl, rfl⟩, fun h' => absurd hz h'⟩⟩, by rw [hw]; exact huk⟩
      · exact ⟨u, a2, ⟨gi 0 _ _ _ _ _ _ _ _ ⟨fun h' => by omega, fun _ => ⟨u, hu, _, _, _, g1, fun h' => absurd h' hz, fun _ => ⟨rfl, rfl, rfl⟩⟩⟩, huk⟩, g3, by omega⟩
    | succ k ihk =>
      intro a l hd hl hb
      obtain ⟨t, b, q1, q2, q3⟩ := Bp hd
      exact (ihk b (l ++ [t]) q2 (by simp; omega) (by rw [eb]; simp only [kbulk]; omega)).map (Nat.le_refl _) fun w c ⟨h, hw⟩ => ⟨gi (k + 1) _ _ _ _ _ _ _ _ ⟨fun _ => ⟨_, _, _, q1, by simp; omega, by omega, by rw [show ((k + 1 : Nat) : Int) - 1 = (k : Int) by omega]; exact h⟩, fun h => by omega⟩, hw⟩
  exact (loop n.toNat a1 [] h3 (by simp; omega) (by simp only [kbulk]; omega)).map (Nat.le_refl _) fun w b ⟨h, hw⟩ => ⟨nN (n.toNat + 1) _ _ _ _ _ _ ⟨_, _, _, h1, by rw [show n = ((n.toNat : Nat) : Int) by omega]; exact h⟩, hw⟩
def Mok (p : List Tree) : Prop := ∀ t ∈ p, t.kind = 1 ∧ shapeK t = true
theorem wt (l : List Int) (hl : l.length ≤ 1000000) : ∃ p, gp l p ∧ kbulk p ≤ 1000000 ∧ Mok p := by
  have hd0 : Dc l 0 := ⟨by omega, by omega, by omega⟩
  obtain ⟨n, a1, h1, h2, h3⟩ := ea hd0 (n := 4) (by omega) (by omega)
  have loop : ∀ (k : Nat) (a : Int) (p : List Tree), Dc l a → p.length + k ≤ 3 → kbulk p + k * 300001 ≤ 900003 → Mok p → ∃ r, bB (k + 1) l a p (k : Int) r ∧ kbulk r ≤ 900003 ∧ Mok r := fun k => by
    induction k with
    | zero => intro a p hd hp hb hmk; exact ⟨p, fU 0 _ _ _ _ _ ⟨fun h => by omega, fun _ => rfl⟩, by omega, hmk⟩
    | succ k ihk =>
      intro a p hd hp hb hmk
      have hb2 : kbulk p + k * 300001 + 300001 ≤ 900003 := Nat.le_trans (Nat.le_of_eq (by rw [Nat.succ_mul, Nat.add_assoc])) hb
      have hb3 : kbulk p + k * 300001 ≤ 900003 := Nat.le_trans (Nat.le_add_right _ _) hb2
      obtain ⟨x, hx, _⟩ | h' := aU [[(65 : UInt8)], [66], [67]] p.length
      rotate_left
      · simp at h'; omega
      have hx5 : x.length ≤ 5 := fI (List.mem_of_getElem? hx) (by decide)
      obtain ⟨t, a2, ⟨q1, qk⟩, q2, q3⟩ := yR hd x hx5
      obtain ⟨z, a3, g1, g2, g3⟩ := ea q2 (n := 8) (by omega) (by omega)
      have step : ∀ u : Tree, tbulk u ≤ 300001 → (u.kind = 1 ∨ u.kind = 0) → ∃ b r, dP u b ∧ ((b = true) → (p ++ [u]).length ≤ 1000000000 ∧ InI (((k + 1 : Nat) : Int) - 1) ∧ bB (k + 1) l a3 (p ++ [u]) (((k + 1 : Nat) : Int) - 1) r) ∧ ((b = false) → InI (((k + 1 : Nat) : Int) - 1) ∧ bB (k + 1) l a3 p (((k + 1 : Nat) : Int) - 1) r) ∧ kbulk r ≤ 900003 ∧ Mok r := fun u hu huk => by
        obtain ⟨b, hb', hbs⟩ := yb u (by omega)
        have e : ((k + 1 : Nat) : Int) - 1 = (k : Int) := by omega
        rw [e]
        cases b with
        | true =>
          have hus := hbs rfl
          have hu1 : u.kind = 1 := by
            rcases huk with h | h
            · exact h
            · have := mW hus; rw [h] at this; simp [cH] at this
          obtain ⟨r, hr, hrb⟩ := ihk a3 (p ++ [u]) g3 (by simp; omega) (by clear hb; rw [eb]; simp only [kbulk]; omega) (fun t ht => by
            rcases List.mem_append.1 ht with h | h
            · exact hmk t h
            · rw [List.mem_singleton] at h; subst h; exact ⟨hu1, hus⟩)
          exact ⟨true, r, hb', fun _ => ⟨by simp; omega, by omega, hr⟩, fun h => (by cases h), hrb⟩
        | false =>
          obtain ⟨r, hr, hrb⟩ := ihk a3 p g3 (by omega) hb3 hmk
          exact ⟨false, r, hb', fun h => (by cases h), fun _ => ⟨by omega, hr⟩, hrb⟩
      by_cases hz : z = 7
      · have hub : tbulk (.node t.kind [65] t.leads t.kids) ≤ 300001 := by have := bC t; simp only [tbulk, List.length_cons, List.length_nil]; omega
        obtain ⟨b, r, e1, e2, e3, e4⟩ := step _ hub qk
        exact ⟨r, fU (k + 1) _ _ _ _ _ ⟨fun _ => ⟨x, hx, _, _, _, q1, _, _, _, g1, fun _ => ⟨b, e1, e2, e3⟩, fun h => absurd hz h⟩, fun h => by omega⟩, e4⟩
      · obtain ⟨b, r, e1, e2, e3, e4⟩ := step t (by omega) qk
        exact ⟨r, fU (k + 1) _ _ _ _ _ ⟨fun _ => ⟨x, hx, _, _, _, q1, _, _, _, g1, fun h => absurd h hz, fun _ => ⟨b, e1, e2, e3⟩⟩, fun h => by omega⟩, e4⟩
  obtain ⟨r, hr, hrb, hrm⟩ := loop n.toNat a1 [] h3 (by simp; omega) (by simp only [kbulk]; omega) (fun t h => by cases h)
  exact ⟨r, nF (n.toNat + 1) _ _ ⟨_, _, pa 0 _ _ _ ⟨by omega, rfl, rfl⟩, _, _, _, h1, by rw [show n = ((n.toNat : Nat) : Int) by omega]; exact hr⟩, by omega, hrm⟩
end Go.Proofs.YtiknldgpnhikhaaGreat
namespace Go.Proofs.YtiknldgpnhikhaaGreat
open Go.RowKit
def dk (R : List Nat) (l : List (Nat × Ob)) : List (Nat × Ob) := l.filter fun p => gn p.1 R
def ung : Ob → Ob
  | .free => .gone
  | o => o
def dT (nx : Nat) (R : List Nat) (l : List (Nat × Ob)) : List (Nat × Ob) := (l.filter fun p => !gn p.1 R && Nat.blt p.1 nx).map fun p => (p.1, ung p.2)
theorem ox {α : Type} {R : List Nat} : ∀ (l : List (Nat × Ob)) (c : List (Nat × Ob) → α), po R l c = c (dk R l)
  | [], c => rfl
  | (i, o) :: r, c => by
    simp only [po]
    cases h : gn i R
    · simp only; rw [ox r]; simp [dk, h]
    · simp only; rw [ox r]; simp [dk, h]
theorem oz {α : Type} {nx : Nat} {R : List Nat} : ∀ (l : List (Nat × Ob)) (c : List (Nat × Ob) → α), nW nx R l c = c (dT nx R l)
  | [], c => rfl
  | (i, o) :: r, c => by
    simp only [nW]
    cases h : (!gn i R && Nat.blt i nx)
    · simp only; rw [oz r]; simp only [dT, List.filter_cons, h]; rfl
    · cases o <;> (simp only; rw [oz r]; simp only [dT, List.filter_cons, h]; rfl)
theorem mV {R : List Nat} {i : Nat} : ∀ {l : List (Nat × Ob)}, ao (dk R l) i = ao l i ∨ (gn i R = false ∧ ao (dk R l) i = .gone)
  | [] => .inl rfl
  | (j, o) :: r => by
    by_cases hj : j = i
    · subst hj
      cases h : gn j R
      · right
        refine ⟨rfl, ?_⟩
        have ih := mV (R := R) (i := j) (l := r)
        simp only [dk, List.filter_cons, h] at ih ⊢
        simp only [Bool.false_eq_true, if_false]
        clear ih
        have key : ∀ (l : List (Nat × Ob)), ao (l.filter fun p => gn p.1 R) j = .gone := by
          intro l
          induction l with
          | nil => rfl
          | cons q t ih =>
            obtain ⟨k, o'⟩ := q
            simp only [List.filter_cons]
            split
            · rename_i hk
              have : k ≠ j := fun e => by subst e; simp [h] at hk
              simp only [ao, nbF this]; exact ih
            · exact ih
        exact key r
      · left
        simp only [dk, List.filter_cons, h, if_true, ao, nbT]
    · have ih := mV (R := R) (i := i) (l := r)
      simp only [dk, List.filter_cons]
      split
      · simp only [ao, nbF hj]; exact ih
      · simp only [ao, nbF hj]; exact ih
theorem sr {R : List Nat} {i : Nat} (h : gn i R = false) (l : List (Nat × Ob)) : ao (dk R l) i = .gone := by
  induction l with
  | nil => rfl
  | cons q t ih =>
    obtain ⟨k, o'⟩ := q
    simp only [dk, List.filter_cons]
    split
    · rename_i hk
      have : k ≠ i := fun e => by subst e; simp [h] at hk
      simp only [ao, nbF this]; exact ih
    · exact ih
theorem w6 {nx : Nat} {R : List Nat} {i : Nat} (l : List (Nat × Ob)) : ao (dT nx R l) i = if (!gn i R && Nat.blt i nx) = true then ung (ao l i) else .gone := by
  induction l with
  | nil => simp [dT, ao, ung]
  | cons q t ih =>
    obtain ⟨k, o⟩ := q
    by_cases hk : k = i
    · subst hk
      cases h : (!gn k R && Nat.blt k nx)
      · rw [h] at ih
        simp only [dT, List.filter_cons, h, Bool.false_eq_true, if_false] at ih ⊢
        exact ih
      · simp only [dT, List.filter_cons, h, if_true, List.map_cons, ao, nbT]
    · have e : ao ((k, o) :: t) i = ao t i := by simp only [ao, nbF hk]
      rw [e, ← ih]
      simp only [dT, List.filter_cons]
      split
      · simp only [List.map_cons, ao, nbF hk]
      · rfl
section
variable {P : Program} {T : Tab} {K : Ctx} {Q : Exit → Act → World → Prop} {s : List EI} {n : Nat} {F : Fm} {H : Hp}
theorem uM (lo : Nat) (H : Hp) (v : V) : ∃ v' H', (∀ (α : Type) (c : V → Hp → α), wu lo H v c = c v' H') ∧ H'.nx = H.nx ∧ (∀ K S w ρ x, HRel S w ρ H.get → Inv K S w ρ H.get → VRel S w ρ v x → ∃ S', HRel S' w ρ H'.get ∧ Inv K S' w ρ H'.get ∧ Up S S' w w ρ ρ ∧ VRel S' w ρ v' x) := by
  have triv : ∃ v' H', (∀ (α : Type) (c : V → Hp → α), c v H = c v' H') ∧ H'.nx = H.nx ∧ (∀ K S w ρ x, HRel S w ρ H.get → Inv K S w ρ H.get → VRel S w ρ v x → ∃ S', HRel S' w ρ H'.get ∧ Inv K S' w ρ H'.get ∧ Up S S' w w ρ ρ ∧ VRel S' w ρ v' x) := ⟨v, H, fun _ _ => rfl, rfl, fun K S w ρ x h1 h2 h3 => ⟨S, h1, h2, Up.refl, h3⟩⟩
  cases v with
  | sl id =>
    simp only [wu]
    split
    · split
      · rename_i e sz els ho
        split
        · rename_i hpu
          refine ⟨.row sz els, ⟨H.nx, lz id H.es⟩, fun α c => by rw [pr], rfl, fun K S w ρ x hr hi hx => ?_⟩
          have hg : (⟨H.nx, lz id H.es⟩ : Hp).get = ci H.get id .gone := by
            funext i
            unfold Hp.get
            by_cases hii : i = id
            · subst hii
              rw [bI]
              simp only []
              have hlt : Nat.blt i H.nx = true := by
                unfold Hp.get at ho
                split at ho
                · assumption
                · cases ho
              rw [hlt]
              simp only [ll, if_true]
            · rw [cm _ _ hii]
              simp only [ll, if_neg hii]
          refine ⟨_, by rw [hg]; exact (fH hr).1, by rw [hg]; exact hi.frz hr id, (fH hr).2, qv hr ho hpu hx⟩
        · exact triv
      · exact triv
    · exact triv
  | _ => exact triv
theorem uO (lo : Nat) : ∀ (vs : List V) (H : Hp), ∃ vs' H', (∀ (α : Type) (c : List V → Hp → α), vN lo H vs c = c vs' H') ∧ H'.nx = H.nx ∧ (∀ K S w ρ xs, HRel S w ρ H.get → Inv K S w ρ H.get → LRel S w ρ vs xs → ∃ S', HRel S' w ρ H'.get ∧ Inv K S' w ρ H'.get ∧ Up S S' w w ρ ρ ∧ LRel S' w ρ vs' xs)
  | [], H => ⟨[], H, fun _ _ => rfl, rfl, fun K S w ρ x h1 h2 h3 => ⟨S, h1, h2, Up.refl, h3⟩⟩
  | v :: r, H => by
    obtain ⟨v', H1, e1, n1, k1⟩ := uM lo H v
    obtain ⟨r', H2, e2, n2, k2⟩ := uO lo r H1
    refine ⟨v' :: r', H2, fun α c => by simp only [vN, e1, e2], n2.trans n1, fun K S w ρ xs hr hi hx => ?_⟩
    simp only [LRel] at hx
    obtain ⟨x, ys, rfl, h1, h2⟩ := hx
    obtain ⟨S1, a1, a2, a3, a4⟩ := k1 K S w ρ x hr hi h1
    obtain ⟨S2, b1, b2, b3, b4⟩ := k2 K S1 w ρ ys a1 a2 (h2.up a3)
    exact ⟨S2, b1, b2, ⟨fun b hb => b3.s b (a3.s b hb), fun _ _ _ => rfl, fun _ _ h => h⟩, x, ys, rfl, a4.up b3, b4⟩
theorem zK (lo : Nat) (H : Hp) (v : V) : ∃ v' H', (∀ (α : Type) (c : V → Hp → α), yZ lo H v c = c v' H') ∧ H'.nx = H.nx ∧ (∀ K S w ρ x, HRel S w ρ H.get → Inv K S w ρ H.get → VRel S w ρ v x → ∃ S', HRel S' w ρ H'.get ∧ Inv K S' w ρ H'.get ∧ Up S S' w w ρ ρ ∧ VRel S' w ρ v' x) := by
  have h0 := uM lo H v
  cases v
  case agg cs =>
    obtain ⟨vs', H', e, hn, k⟩ := uO lo cs H
    refine ⟨.agg vs', H', fun α c => by simp only [yZ, e], hn, fun K S w ρ x hr hi hx => ?_⟩
    simp only [VRel] at hx
    obtain ⟨xs, rfl, h1⟩ := hx
    obtain ⟨S', a1, a2, a3, a4⟩ := k K S w ρ xs hr hi h1
    exact ⟨S', a1, a2, a3, by simp only [VRel]; exact ⟨xs, rfl, a4⟩⟩
  all_goals exact h0
theorem rk (lo : Nat) : ∀ (vs : List V) (H : Hp), ∃ vs' H', (∀ (α : Type) (c : List V → Hp → α), tM lo H vs c = c vs' H') ∧ H'.nx = H.nx ∧ (∀ K S w ρ xs, HRel S w ρ H.get → Inv K S w ρ H.get → LRel S w ρ vs xs → ∃ S', HRel S' w ρ H'.get ∧ Inv K S' w ρ H'.get ∧ Up S S' w w ρ ρ ∧ LRel S' w ρ vs' xs)
  | [], H => ⟨[], H, fun _ _ => rfl, rfl, fun K S w ρ x h1 h2 h3 => ⟨S, h1, h2, Up.refl, h3⟩⟩
  | v :: r, H => by
    obtain ⟨v', H1, e1, n1, k1⟩ := zK lo H v
    obtain ⟨r', H2, e2, n2, k2⟩ := rk lo r H1
    refine ⟨v' :: r', H2, fun α c => by simp only [tM, e1, e2], n2.trans n1, fun K S w ρ xs hr hi hx => ?_⟩
    simp only [LRel] at hx
    obtain ⟨x, ys, rfl, h1, h2⟩ := hx
    obtain ⟨S1, a1, a2, a3, a4⟩ := k1 K S w ρ x hr hi h1
    obtain ⟨S2, b1, b2, b3, b4⟩ := k2 K S1 w ρ ys a1 a2 (h2.up a3)
    exact ⟨S2, b1, b2, ⟨fun b hb => b3.s b (a3.s b hb), fun _ _ _ => rfl, fun _ _ h => h⟩, x, ys, rfl, a4.up b3, b4⟩
variable {all : Array Oper} {rest : List Oper} {o : Oper} {u : V} {H' : Hp}
theorem AG {ok : Bool} (hw : bp F all o.guard = some true) (hx : m5 P K o [] ok n F H u H') (k : Go P K Q (.ops all rest) s n (F.seto o.dst (some u)) H') : Go P K Q (.ops all (o :: rest)) s n F H := fun S w ρ a hr hi hF => by
  show wpList P all (da P Q s) (o :: rest) a w
  unfold wpList
  rw [if_pos (cg hF hw)]
  exact .inl (hx S w ρ a hr hi hF _ _ fun x S' w' ρ' hr' hi' hu _ _ hv => k S' w' ρ' _ hr' hi' (ct (hF.up hu) o.dst hv))
variable {L : List Nat} {m left i : Nat} {listed : Array Bool}
theorem Ay (hrd : Region.ready .any all listed = [i]) (hi : all[i]? = some o) (hw : bp F all o.guard = some true) (hx : m5 P K o L ((listed.setIfInBounds i true).getD m false) n F H u H') (k : Go P K Q (.drw all L m left (listed.setIfInBounds i true)) s n (F.seto o.dst (some u)) H') : Go P K Q (.drw all L m (left + 1) listed) s n F H := fun S w ρ a hr hiv hF hs => by
  refine li (S := S) hrd ?_
  unfold wpOp
  simp only [hi]
  rw [if_pos (cg hF hw)]
  exact .inl (hx S w ρ a hr hiv hF _ _ fun x S' w' ρ' hr' hi' hu hA hL hv => kh hu hA hL (k S' w' ρ' _ hr' hi' (ct (hF.up hu) o.dst hv) hs))
def gN (P : Program) (K : Ctx) (Q : Exit → Act → World → Prop) (n : Nat) : Rs → Prop
  | .ok e F H => ∀ S w ρ a, HRel S w ρ H.get → Inv K S w ρ H.get → FRel S w ρ a n F → Q (match e with | true => .ret | false => .normal) a w
  | .pt p s F H => Go P K Q p s n F H
  | .er _ _ => False
variable {ih : EP → List EI → Fm → Hp → Rs}
theorem vc {S : Nat → Prop} {w : World} {ρ : Nat → Option Value} {x : Value} : ∀ {rs : List V}, VRel S w ρ (k7 rs) x → ∃ ys, LRel S w ρ rs ys ∧ x = oZ ys
  | [], hvx => by simp only [k7, VRel] at hvx; obtain ⟨ys, rfl, h1⟩ := hvx; exact ⟨ys, h1, by simp only [LRel] at h1; subst h1; rfl⟩
  | [v], hvx => ⟨[x], ⟨x, [], rfl, hvx, rfl⟩, rfl⟩
  | v :: u :: r, hvx => by
    simp only [k7, VRel] at hvx; obtain ⟨ys, rfl, h1⟩ := hvx
    refine ⟨ys, h1, ?_⟩
    simp only [LRel] at h1
    obtain ⟨_, _, rfl, _, _, _, rfl, _⟩ := h1
    rfl
theorem yo (hT : TabOk P T) (IH : ∀ p s F H K Q n, gN P K Q n (ih p s F H) → Go P K Q p s n F H) {X : Rs → Prop} (hX : ∀ n m, ¬ X (.er n m)) {keep ok : Bool} {vs : List V} {fid : FuncId} {fn : Func} {b : Code} {c : V → Hp → Rs} (hf : P.funcs[fid]? = some fn) (hb : fn.body = some b) (hl : Nat.ble vs.length fn.ntmps = true)
    (h : X (vo T ih keep vs fn b H L ok c)) : ∃ u H' L', (L' = L ∨ ok = true) ∧ CallR P K fid vs H L' (fun u' H'' => u' = u ∧ H'' = H') ∧ X (c u H') := by
  unfold vo at h
  simp only [] at h
  generalize hR : lI H 40 (oc vs []) [] = R at h
  split at h
  · rename_i hok
    rw [ox] at h
    split at h
    · rename_i e F1 H1 hrun
      split at h
      · rename_i rs hres
        split at h
        · rename_i hnx
          have hnx' : H.nx ≤ H1.nx := Nat.le_of_ble_eq_true hnx
          -- the objects that the call gets
          have hin : ∀ i, (⟨H.nx, dk R H.es⟩ : Hp).get i = H.get i ∨ (⟨H.nx, dk R H.es⟩ : Hp).get i = .gone := fun i => by
            unfold Hp.get
            simp only []
            split
            · rcases mV (R := R) (i := i) (l := H.es) with e | ⟨_, e⟩
              · exact .inl e
              · exact .inr e
            · exact .inl rfl
          have hout : ∀ i, gn i R = false → Nat.blt i H.nx = true → (⟨H.nx, dk R H.es⟩ : Hp).get i = .gone := fun i hi hlt => by
            unfold Hp.get
            simp only [hlt]
            exact sr hi _
          -- the objects behind the call
          have key : ∀ (H2 : Hp) (es3 : List (Nat × Ob)), H2.nx = H1.nx → (∀ i, ao es3 i = ao H2.es i ∨ ao es3 i = .gone) → ∀ i, ((⟨H2.nx, es3 ++ dT H.nx R H.es⟩ : Hp).get i = H2.get i ∨ (⟨H2.nx, es3 ++ dT H.nx R H.es⟩ : Hp).get i = .gone) ∨ ((⟨H2.nx, es3 ++ dT H.nx R H.es⟩ : Hp).get i = H.get i ∧ (⟨H.nx, dk R H.es⟩ : Hp).get i = .gone ∧ H.get i ≠ .free) := fun H2 es3 hn h3 i => by
            by_cases hlt2 : Nat.blt i H2.nx = true
            · have e0 : (⟨H2.nx, es3 ++ dT H.nx R H.es⟩ : Hp).get i = ao (es3 ++ dT H.nx R H.es) i := by unfold Hp.get; simp only [hlt2]
              have e2 : H2.get i = ao H2.es i := by unfold Hp.get; rw [hlt2]
              rw [e0, e2]
              rcases ug es3 (dT H.nx R H.es) i with e | ⟨e', e⟩
              · rw [e]
                rcases h3 i with h3 | h3
                · exact .inl (.inl h3)
                · exact .inl (.inr h3)
              · rw [e]
                rw [w6]
                cases hm : (!gn i R && Nat.blt i H.nx)
                · exact .inl (.inr (by simp))
                · have hm' := hm
                  simp only [Bool.and_eq_true, Bool.not_eq_true'] at hm'
                  have eH : H.get i = ao H.es i := by unfold Hp.get; rw [hm'.2]
                  rw [if_pos rfl]
                  cases hf : ao H.es i
                  case free => exact .inl (.inr rfl)
                  all_goals exact .inr ⟨by rw [eH, hf]; rfl, hout i hm'.1 hm'.2, by rw [eH, hf]; simp⟩
            · have e0 : (⟨H2.nx, es3 ++ dT H.nx R H.es⟩ : Hp).get i = .free := by
                unfold Hp.get; simp only [Bool.not_eq_true] at hlt2; simp only [hlt2]
              have e2 : H2.get i = .free := by unfold Hp.get; simp only [Bool.not_eq_true] at hlt2; rw [hlt2]
              exact .inl (.inl (by rw [e0, e2]))
          -- what holds behind the call
          have fin : ∀ (H2 : Hp) (es3 : List (Nat × Ob)) (rs2 : List V), H2.nx = H1.nx → (∀ i, ao es3 i = ao H2.es i ∨ ao es3 i = .gone) →
              (∀ K S w ρ xs, HRel S w ρ H1.get → Inv K S w ρ H1.get → LRel S w ρ rs xs → ∃ S', HRel S' w ρ H2.get ∧ Inv K S' w ρ H2.get ∧ Up S S' w w ρ ρ ∧ LRel S' w ρ rs2 xs) →
              ∃ L', (L' = L ∨ ok = true) ∧ CallR P K fid vs H L' (fun u' H'' => u' = k7 rs2 ∧ H'' = ⟨H2.nx, es3 ++ dT H.nx R H.es⟩) := fun H2 es3 rs2 hn h3 hfz => by
            have main : ∀ L', (∀ (S : Nat → Prop) (w : World) (ρ : Nat → Option Value), HRel S w ρ H.get → L' = [] ∨ (cI H.get L' = true ∧ ∀ id, id ∈ L' → (⟨H.nx, dk R H.es⟩ : Hp).get id = .gone)) → CallR P K fid vs H L' (fun u' H'' => u' = k7 rs2 ∧ H'' = ⟨H2.nx, es3 ++ dT H.nx R H.es⟩) := fun L' hL' S w ρ xs hr hi hx => by
              have hr1 := hr.drop (h' := (⟨H.nx, dk R H.es⟩ : Hp).get) hin
              have hi1 : Inv ⟨w, S, fun b => ∃ id, own ρ id ((⟨H.nx, dk R H.es⟩ : Hp).get id) b, ρ⟩ S w ρ (⟨H.nx, dk R H.es⟩ : Hp).get := ⟨ChgP.refl _ _, fun _ h => h, fun _ h => .inl h, fun id b hb => .inl ⟨id, hb⟩, fun _ _ h => h⟩
              refine qp hf hb hl hr1 hi1 hx (IH _ _ _ _ _ _ _ ?_)
              rw [hrun]
              intro S' w' ρ' a' hr' hi' hF'
              obtain ⟨rl, hrl⟩ : ∃ l : List ResultVar, fn.results = l.toArray := ⟨fn.results.toList, by simp⟩
              rw [hrl] at hres
              refine ret_go hT (rs := rl) (by cases e <;> simp) hrl hr' hF' (by simpa using hres) fun x hvx => ?_
              have hLR := vc hvx
              obtain ⟨ys, hys, rfl⟩ := hLR
              obtain ⟨S2, a1, a2, a3, a4⟩ := hfz _ S' w' ρ' ys hr' hi' hys
              obtain ⟨m1, m2, m3, m4⟩ := t6 (h1 := (⟨H.nx, dk R H.es⟩ : Hp).get) (h2 := (⟨H2.nx, es3 ++ dT H.nx R H.es⟩ : Hp).get) hr hi hin a1 a2 (key H2 es3 hn h3)
              refine ⟨_, S2, ρ', _, _, rfl, ⟨rfl, rfl⟩, m1, m2, m3, uT a4, ?_⟩
              rcases hL' S w ρ hr with rfl | ⟨g1, g2⟩
              · intro id hid; simp at hid
              · exact m4 L' g1 g2
            rcases qN hok with hok | hok
            · simp only [Bool.and_eq_true] at hok
              refine ⟨L, .inl rfl, main L fun S w ρ hr => .inr ⟨hok.1, fun id hid => ?_⟩⟩
              have hmem := List.all_eq_true.1 hok.2 id hid
              simp only [Bool.not_eq_true'] at hmem
              by_cases hlt : Nat.blt id H.nx = true
              · exact hout id hmem hlt
              · exfalso
                have hfree : H.get id = .free := by unfold Hp.get; simp only [Bool.not_eq_true] at hlt; rw [hlt]
                have hnl : ∀ (l : List Nat), id ∈ l → cI H.get l = true → False := by
                  intro l
                  induction l with
                  | nil => intro h; simp at h
                  | cons j t ih =>
                    intro hm hl
                    simp only [cI] at hl
                    rcases List.mem_cons.1 hm with e | e
                    · subst e; rw [hfree] at hl; cases hl
                    · split at hl
                      · exact ih e hl
                      · exact ih e hl
                      · cases hl
                exact hnl L hid hok.1
            · exact ⟨[], .inr hok, main [] fun _ _ _ _ => .inl rfl⟩
          split at h
          · rw [oz] at h
            obtain ⟨L', g1, g2⟩ := fin H1 H1.es rs rfl (fun i => .inl rfl) (fun K S w ρ xs h1 h2 h3 => ⟨S, h1, h2, Up.refl, h3⟩)
            exact ⟨_, _, L', g1, g2, h⟩
          · obtain ⟨rs2, H2, e1, e2, e3⟩ := rk H.nx rs H1
            rw [e1] at h
            rw [ox, oz] at h
            obtain ⟨L', g1, g2⟩ := fin H2 (dk _ H2.es) rs2 e2 (fun i => by
              rcases mV (R := lI H2 60 (oc rs2 R) []) (i := i) (l := H2.es) with e | ⟨_, e⟩
              · exact .inl e
              · exact .inr e) e3
            exact ⟨_, _, L', g1, g2, h⟩
        · exact absurd h (hX _ _)
      · exact absurd h (hX _ _)
    · exact absurd h (hX _ _)
    · exact absurd h (hX _ _)
  · exact absurd h (hX _ _)
theorem me (hT : TabOk P T) (IH : ∀ p s F H K Q n, gN P K Q n (ih p s F H) → Go P K Q p s n F H) {X : Rs → Prop} (hX : ∀ n m, ¬ X (.er n m)) {ok : Bool} {c : Option V → Hp → Rs} (h : X (nS T ih F H L ok o c)) : ∃ u H', m5 P K o L ok n F H u H' ∧ X (c (some u) H') := by
  unfold nS at h
  split at h
  · rename_i v hv
    exact ⟨v, H, xt hT hv, h⟩
  · rw [cV] at h
    split at h
    · rename_i v ed hv
      split at h
      · rename_i hc
        rw [Hp.ap_eq] at h
        refine ⟨_, _, nU hT hv hc, ?_⟩
        cases v with
        | none => exact h
        | some v => exact h
      · exact absurd h (hX _ _)
    · split at h
      · rename_i fid args tys hop
        split at h
        · rename_i vs hvs
          split at h
          · rename_i v hn
            obtain ⟨he, hnat⟩ := hT.nat _ _ _ hn
            refine ⟨v, H, lM (L' := L) he (by rw [hop]) hvs (fun S w ρ xs hr hi hx => ?_) (.inl rfl), h⟩
            obtain ⟨x, h1, h2⟩ := hnat S w ρ xs hx
            refine h2.mono fun e w' hR => ?_
            obtain ⟨rfl, rfl⟩ := hR
            exact ⟨x, S, ρ, v, H, rfl, ⟨rfl, rfl⟩, hr, hi, Up.refl, h1, la⟩
          · split at h
            · rename_i fn hfn
              obtain ⟨hf, he⟩ := hT.fn _ _ hfn
              split at h
              · rename_i b hb
                split at h
                · rename_i hl
                  obtain ⟨u, H', L', g1, g2, g3⟩ := yo (K := K) hT IH hX hf hb hl h
                  exact ⟨u, H', lM he (by rw [hop]) hvs g2 g1, g3⟩
                · exact absurd h (hX _ _)
              · exact absurd h (hX _ _)
            · exact absurd h (hX _ _)
        · exact absurd h (hX _ _)
      · exact absurd h (hX _ _)
theorem xU {l : List Nat} {j : Nat} (h : tH l j = true) : l = [j] := by
  unfold tH at h
  split at h
  · rw [Nat.eq_of_beq_eq_true h]
  · cases h
theorem tu (hT : TabOk P T) (IH : ∀ p s F H K Q n, gN P K Q n (ih p s F H) → Go P K Q p s n F H) {i : Nat} {ps : List (Nat × Operand)} {vs : List (Nat × V)} {v : V} (hp : mU T all i vs = some (o, ps, v)) : ∀ (left : Nat) (listed : Array Bool) (F : Fm) (H : Hp), gN P K Q n (sy T ih all L m i o ps v s left listed F H) → GoP P K Q all L m left listed s n F H i o ps vs v
  | left, listed, F, H, h => by
    unfold sy at h
    split at h
    · rename_i hl
      split at h
      · rename_i x hrd
        split at h
        · rename_i hb
          have := Nat.eq_of_beq_eq_true hb
          subst this
          rw [Fm.puto_eq] at h
          exact zC hT hp hrd hl (IH _ _ _ _ _ _ _ h)
        · exact h.elim
      · rename_i x y hrd
        cases left with
        | zero => exact h.elim
        | succ left =>
          simp only [cV] at h
          generalize hj : vz x y i = j at h
          unfold vz at hj
          split at h
          · exact h.elim
          · rename_i hji
            have hne : j ≠ i := Nat.ne_of_beq_eq_false hji
            split at h
            · rename_i oj hoj
              split at h
              · rename_i hc
                simp only [Bool.and_eq_true] at hc
                obtain ⟨⟨⟨hc1, hc2⟩, hc3⟩, hc4⟩ := hc
                split at h
                · rename_i hw
                  obtain ⟨u, H', hx, hk⟩ := me (K := K) (n := n) hT IH (X := gN P K Q n) (fun _ _ h => h) h
                  rw [Fm.puto_eq] at hk
                  have ih2 := tu hT IH hp left _ _ _ hk
                  have hpair : (match Region.ready .any all listed with | [x, y] => (Nat.beq x i && Nat.beq y j) || (Nat.beq x j && Nat.beq y i) | _ => false) = true := by
                    rw [hrd]
                    simp only []
                    cases hx1 : Nat.beq x i
                    · rw [hx1] at hj
                      cases hy1 : Nat.beq y i
                      · rw [hy1] at hj; exact absurd hj.symm hne
                      · rw [hy1] at hj; simp only at hj; subst hj; simp
                    · rw [hx1] at hj; simp only at hj; subst hj; simp
                  refine yQ hT hp hoj hpair (xU hc1) hl (fun t ht => ?_) hc2 hc3 (Array.setIfInBounds_comm _ _ (Ne.symm hne)) (Post := fun u' H'' => u' = u ∧ H'' = H') (fun S w ρ a hr hi hF K2 hK2 => ?_) (fun u' H'' hP => by obtain ⟨rfl, rfl⟩ := hP; exact ih2)
                  · rw [ht] at hc4
                    simp only [Option.isNone_iff_eq_none] at hc4
                    exact hc4
                  · unfold wpOp
                    simp only [hoj]
                    rw [if_pos (cg hF hw)]
                    refine .inl (hx S w ρ a hr hi hF _ _ fun x S' w' ρ' hr' hi' hu hA hL hv => hK2 x S' w' ρ' u H' ⟨rfl, rfl⟩ hr' hi' hu hA (hL.imp id fun h => ?_) hv)
                    simpa only [Bool.and_eq_true] using h
                · exact h.elim
              · exact h.elim
            · exact h.elim
      · exact h.elim
    · exact h.elim
theorem z7 (hT : TabOk P T) (IH : ∀ p s F H K Q n, gN P K Q n (ih p s F H) → Go P K Q p s n F H) {i j : Nat} {left : Nat} {listed : Array Bool} (hrd : Region.ready .any all listed = [i, j]) (h : gN P K Q n (yj T ih all L m left i j listed s F H)) : Go P K Q (.drw all L m (left + 1) listed) s n F H := by
  unfold yj at h
  split at h
  · rename_i oi hoi
    split at h
    · rename_i oj hoj
      split at h
      · rename_i hwi
        split at h
        · rename_i hwj
          obtain ⟨ui, Hi, xi, hk⟩ := me (K := K) (n := n) hT IH (X := gN P K Q n) (fun _ _ h => h) h
          rw [Fm.puto_eq] at hk
          split at hk
          · rename_i F1 H1 e1
            obtain ⟨uj, Hj, xj, hk2⟩ := me (K := K) (n := n) hT IH (X := gN P K Q n) (fun _ _ h => h) hk
            rw [Fm.puto_eq] at hk2
            split at hk2
            · rename_i F2 H2 e2
              split at hk2
              · rename_i hal
                have c : Go P K Q (.ex .normal) s n F1 H1 := IH _ _ _ _ _ _ _ hk2
                intro S w ρ a hr hi hF
                have hpin : ∀ id x, K.pin id = some x → id < H.nx := fun id x hx => Decidable.byContradiction fun hn => by
                  have h1 := hi.pin id x hx
                  have h2 := hr.ob id
                  have h3 : H.get id = .free := by
                    unfold Hp.get
                    have : Nat.blt id H.nx = false := by
                      cases hb : Nat.blt id H.nx
                      · rfl
                      · exact absurd (by simpa [Nat.blt_eq] using hb) hn
                    simp only [this]
                  rw [h3] at h2
                  have h4 : ρ id = none := h2
                  rw [h4] at h1; cases h1
                have g1 : Go P K (da P Q s) (.drw all L m left (listed.setIfInBounds i true)) [] n (F.seto oi.dst (some ui)) Hi := IH _ _ _ _ _ _ _ (by rw [e1]; exact fun S w ρ a hr hi hF => c S w ρ a hr hi hF)
                have g2 : Go P K (da P Q s) (.drw all L m left (listed.setIfInBounds j true)) [] n (F.seto oj.dst (some uj)) Hj := IH _ _ _ _ _ _ _ (by rw [e2]; exact fun S w ρ a hr hi hF => go_alike hal hpin c S w ρ a hr hi hF)
                exact nZ (by rw [hrd]; simp) hoi hoj hwi hwj xi xj g1 g2 S w ρ a hr hi hF
              · exact hk2.elim
            · exact hk2.elim
            · exact hk2.elim
          · exact hk.elim
          · exact hk.elim
        · exact h.elim
      · exact h.elim
    · exact h.elim
  · exact h.elim
theorem mO : ∀ {R : List Nat} {i : Nat} {ps : List (Nat × Operand)} {v : V}, nC T F all R = some (i, o, ps, v) → ∃ vs, je F ps = some vs ∧ mU T all i vs = some (o, ps, v)
  | [], _, _, _, h => by cases h
  | j :: r, i, ps, v, h => by
    unfold nC at h
    split at h
    · rename_i hj
      split at h
      · rename_i vs hvs
        split at h
        · rename_i o' ps' v' hpb
          simp only [Option.some.injEq, Prod.mk.injEq] at h
          obtain ⟨rfl, rfl, rfl, rfl⟩ := h
          refine ⟨vs, ?_, hpb⟩
          have := hpb
          unfold mU at this
          rw [hj] at this
          simp only at this
          repeat' (split at this)
          all_goals first
            | (cases this; done)
            | (simp only [cV, Option.some.injEq, Prod.mk.injEq] at this; obtain ⟨_, rfl, _⟩ := this; exact hvs)
        · exact mO h
      · exact mO h
    · exact mO h
theorem zY (hT : TabOk P T) (hm : P.follows .mixedOrders = true) (IH : ∀ p s F H K Q n, gN P K Q n (ih p s F H) → Go P K Q p s n F H) : ∀ (p : EP) (s : List EI) (F : Fm) (H : Hp), gN P K Q n (step T ih p s F H) → Go P K Q p s n F H
  | .code c, s, F, H, h => by
    replace h : gN P K Q n (vK T ih c s F H) := h
    unfold vK at h
    split at h
    · exact xF (IH _ _ _ _ _ _ _ h)
    · exact tS (IH _ _ _ _ _ _ _ h)
    · exact uS (IH _ _ _ _ _ _ _ h)
    · exact go_ret (IH _ _ _ _ _ _ _ h)
    · exact uX (IH _ _ _ _ _ _ _ h)
    · exact yG (IH _ _ _ _ _ _ _ h)
    · exact yU (IH _ _ _ _ _ _ _ h)
    · exact go_loop 1000000 (IH _ _ _ _ _ _ _ h)
    · split at h
      · exact sO ‹_› (IH _ _ _ _ _ _ _ h)
      · exact tB ‹_› (IH _ _ _ _ _ _ _ h)
      · exact h.elim
    · exact rG (IH _ _ _ _ _ _ _ h)
    · split at h
      · rename_i hs
        simp only [co, cV] at h
        exact u4 _ _ _ rfl hm hs (IH _ _ _ _ _ _ _ h)
      · exact h.elim
    · exact h.elim
  | .ops all rest, s, F, H, h => by
    replace h : gN P K Q n (tO T ih all rest s F H) := h
    unfold tO at h
    split at h
    · exact wE (IH _ _ _ _ _ _ _ h)
    · split at h
      · rw [Fm.puto_eq] at h
        exact xw ‹_› (IH _ _ _ _ _ _ _ h)
      · obtain ⟨u, H', hx, hk⟩ := me (K := K) (n := n) hT IH (X := gN P K Q n) (fun _ _ h => h) h
        rw [Fm.puto_eq] at hk
        exact AG ‹_› hx (IH _ _ _ _ _ _ _ hk)
      · exact h.elim
  | .ex e, s, F, H, h => by
    replace h : gN P K Q n (ws ih e s F H) := h
    unfold ws at h
    split at h
    · split at h
      · exact fun S w ρ a hr hi hF => h S w ρ a hr hi hF
      · exact fun S w ρ a hr hi hF => h S w ρ a hr hi hF
      · exact h.elim
    · split at h
      · exact uP (IH _ _ _ _ _ _ _ h)
      · exact tx (IH _ _ _ _ _ _ _ h)
      · exact te (IH _ _ _ _ _ _ _ h)
      · exact h.elim
    · split at h
      · split at h
        · exact h.elim
        · exact aq (IH _ _ _ _ _ _ _ h)
      · exact av (IH _ _ _ _ _ _ _ h)
      · exact aF (IH _ _ _ _ _ _ _ h)
      · exact h.elim
    · split at h
      · exact yv (IH _ _ _ _ _ _ _ h)
      · exact x8 (IH _ _ _ _ _ _ _ h)
      · exact yt (IH _ _ _ _ _ _ _ h)
      · exact h.elim
    · split at h
      · exact tJ (IH _ _ _ _ _ _ _ h)
      · split at h
        · exact tt ‹_› (IH _ _ _ _ _ _ _ h)
        · exact uf ‹_› (IH _ _ _ _ _ _ _ h)
      · exact tf (IH _ _ _ _ _ _ _ h)
      · exact h.elim
  | .drw all L m left listed, s, F, H, h => by
    replace h : gN P K Q n (vS T ih all L m left listed s F H) := h
    unfold vS at h
    split at h
    · exact tT ‹_› (IH _ _ _ _ _ _ _ h)
    · rename_i i R hrd
      cases left with
      | zero => exact h.elim
      | succ left =>
        simp only [] at h
        split at h
        · split at h
          · rename_i o ho
            split at h
            · rw [Fm.puto_eq] at h
              exact go_d1S hrd ho ‹_› (IH _ _ _ _ _ _ _ h)
            · obtain ⟨u, H', hx, hk⟩ := me (K := K) (n := n) hT IH (X := gN P K Q n) (fun _ _ h => h) h
              rw [Fm.puto_eq] at hk
              exact Ay hrd ho ‹_› hx (IH _ _ _ _ _ _ _ hk)
            · exact h.elim
          · exact h.elim
        · split at h
          · split at h
            · rename_i o ho
              split at h
              · rename_i hc
                simp only [Bool.and_eq_true, Bool.not_eq_true'] at hc
                obtain ⟨⟨hc1, hc2⟩, hc3⟩ := hc
                split at h
                · rw [Fm.puto_eq] at h
                  exact wf hc3 ho hc2 hc1 ‹_› (IH _ _ _ _ _ _ _ h)
                · rename_i hw
                  split at h
                  · rename_i v hv
                    rw [Fm.puto_eq] at h
                    exact zg hT hc3 ho hc2 hc1 hw hv (IH _ _ _ _ _ _ _ h)
                  · split at h
                    · rename_i id hid
                      split at h
                      · rename_i hL
                        simp only [Bool.and_eq_true, Bool.not_eq_true'] at hL
                        obtain ⟨⟨hL1, hL2⟩, hL3⟩ := hL
                        split at h
                        · rename_i v ed hv
                          rw [Fm.puto_eq] at h
                          exact v1 hT hc3 hL2 hL3 ho hc2 hc1 hw hid hL1 hv (IH _ _ _ _ _ _ _ h)
                        · exact h.elim
                      · exact h.elim
                    · exact h.elim
                · exact h.elim
              · exact h.elim
            · exact h.elim
          · split at h
            · rename_i i' o ps v hpo
              rw [Fm.puto_eq] at h
              obtain ⟨vs, g1, g2⟩ := mO hpo
              exact xX g1 (tu hT IH g2 left listed _ _ h)
            · split at h
              · exact z7 hT IH hrd h
              · exact h.elim
theorem xG (hT : TabOk P T) (hm : P.follows .mixedOrders = true) : ∀ (k : Nat) (p : EP) (s : List EI) (F : Fm) (H : Hp) (K : Ctx) (Q : Exit → Act → World → Prop) (n : Nat), gN P K Q n (run T k p s F H) → Go P K Q p s n F H
  | 0, p, s, F, H, K, Q, n, h => h
  | k + 1, p, s, F, H, K, Q, n, h => zY hT hm (fun p s F H K Q n h => xG hT hm k p s F H K Q n h) p s F H h
def yy (T : Tab) (k : Nat) (fid : FuncId) (vs : List V) (H : Hp) : Option (List V × Hp) := match T.fn fid with
  | some fn => match fn.body with
    | some b => match Nat.ble vs.length fn.ntmps with
      | true => match run T k (.code b) [] (jB fn.ntmps vs) H with
        | .ok _ F1 H1 => match nT T H1.get F1 fn.results.toList with
          | some rs => some (rs, H1)
          | none => none
        | _ => none
      | false => none
    | none => none
  | none => none
theorem zQ (hT : TabOk P T) (hm : P.follows .mixedOrders = true) {k : Nat} {fid : FuncId} {vs rs : List V} {H H1 : Hp} (h : yy T k fid vs H = some (rs, H1)) {S : Nat → Prop} {w : World} {ρ : Nat → Option Value} {xs : List Value} (hr : HRel S w ρ H.get) (hx : LRel S w ρ vs xs) : ds P fid = true ∧
    Calls P fid xs.toArray w fun e w' => ∃ S' ρ' ys, e = .returned (oZ ys) ∧ HRel S' w' ρ' H1.get ∧ Inv ⟨w, S, fun b => ∃ id, own ρ id (H.get id) b, ρ⟩ S' w' ρ' H1.get ∧ LRel S' w' ρ' rs ys := by
  unfold yy at h
  split at h
  · rename_i fn hfn
    obtain ⟨hf, he⟩ := hT.fn _ _ hfn
    split at h
    · rename_i b hb
      split at h
      · rename_i hl
        split at h
        · rename_i e F1 H1' hrun
          split at h
          · rename_i rs' hres
            simp only [Option.some.injEq, Prod.mk.injEq] at h
            obtain ⟨rfl, rfl⟩ := h
            refine ⟨he, ?_⟩
            have hi1 : Inv ⟨w, S, fun b => ∃ id, own ρ id (H.get id) b, ρ⟩ S w ρ H.get := ⟨ChgP.refl _ _, fun _ h => h, fun _ h => .inl h, fun id b hb => .inl ⟨id, hb⟩, fun _ _ h => h⟩
            refine qp hf hb hl hr hi1 hx (xG hT hm k _ _ _ _ _ _ _ ?_)
            rw [hrun]
            intro S' w' ρ' a' hr' hi' hF'
            obtain ⟨rl, hrl⟩ : ∃ l : List ResultVar, fn.results = l.toArray := ⟨fn.results.toList, by simp⟩
            rw [hrl] at hres
            refine ret_go hT (rs := rl) (by cases e <;> simp) hrl hr' hF' (by simpa using hres) fun x hvx => ?_
            have hLR := vc hvx
            obtain ⟨ys, hys, rfl⟩ := hLR
            exact ⟨S', ρ', ys, rfl, hr', hi', hys⟩
          · cases h
        · cases h
      · cases h
    · cases h
  · cases h
end
end Go.Proofs.YtiknldgpnhikhaaGreat
namespace Go.Proofs.YtiknldgpnhikhaaGreat
open Go.RowKit Lx Sx
set_option maxRecDepth 100000
def sA : List (List UInt8) → List V → Bool
  | [], [] => true
  | s :: r, .str l :: q => lEq s l && sA r q
  | _, _ => false
def tV (ls : List (List UInt8)) : V → Bool
  | .nils => ls.isEmpty
  | .row sz els => Nat.beq sz 1 && sA ls els
  | _ => false
mutual
def treeB : Tree → V → Bool
  | .node k s ls ks, v => match v with
    | .agg [.int .i64 k', .str s', l, r] => iEq k k' && lEq s s' && tV ls l && (match r with
      | .nils => ks.isEmpty
      | .row sz els => Nat.beq sz 4 && kidsB ks els
      | _ => false)
    | _ => false
def kidsB : List Tree → List V → Bool
  | [], vs => match vs with
    | [] => true
    | _ => false
  | t :: r, vs => match vs with
    | v :: q => treeB t v && kidsB r q
    | [] => false
end
section
variable {S : Nat → Prop} {w : World}
theorem tI {ρ : Nat → Option Value} : ∀ {ls : List (List UInt8)} {els : List V} {xs : List Value}, sA ls els = true → CRel S w ρ 1 els xs → els.length = ls.length ∧ xs = ls.map lN
  | [], [], xs, _, hc => by simp only [CRel] at hc; subst hc; exact ⟨rfl, rfl⟩
  | s :: r, v :: q, xs, hb, hc => by
    cases v <;> simp only [sA] at hb <;> first | (cases hb; done) | skip
    rename_i l
    simp only [Bool.and_eq_true] at hb
    have hl := hb.1
    rw [nA] at hl
    simp only [beq_iff_eq] at hl
    subst hl
    simp only [CRel] at hc
    obtain ⟨x, ys, rfl, _, h3, h4⟩ := hc
    simp only [VRel] at h3
    subst h3
    obtain ⟨h5, h6⟩ := tI hb.2 h4
    exact ⟨by simp [h5], by simp [h6, Value.cells]⟩
  | [], _ :: _, _, hb, _ => by cases hb
  | _ :: _, [], _, hb, _ => by cases hb
theorem xA {ρ : Nat → Option Value} {ls : List (List UInt8)} {v : V} {x : Value} (hb : tV ls v = true) (hx : VRel S w ρ v x) : ∃ A m, x = .slice A ls.length m ∧ ls.length ≤ m ∧ m ≤ maxLen ∧ RowIn S w 1 A ls.length (ls.map lN) := by
  cases v <;> simp only [tV] at hb <;> first | (cases hb; done) | skip
  · simp only [List.isEmpty_iff] at hb
    subst hb
    simp only [VRel] at hx; subst hx
    exact ⟨none, 0, rfl, Nat.le_refl _, by decide, RowIn.none_⟩
  · rename_i sz els
    simp only [Bool.and_eq_true, Nat.beq_eq] at hb
    obtain ⟨rfl, hb⟩ := hb
    simp only [VRel] at hx
    obtain ⟨A, c, xs, rfl, h3, h4, h5, h6⟩ := hx
    obtain ⟨h7, rfl⟩ := tI hb h5
    rw [h7] at h3 h6 ⊢
    exact ⟨A, c, rfl, h3, h4, h6⟩
mutual
theorem treeB_ok {ρ : Nat → Option Value} : ∀ {t : Tree} {v : V} {x : Value}, treeB t v = true → VRel S w ρ v x → ∃ c, x = .agg c.toArray ∧ TreeIs S w t c
  | .node k s ls ks, v, x, hb, hx => by
    unfold treeB at hb
    split at hb
    · rename_i k' s' l r
      simp only [Bool.and_eq_true] at hb
      obtain ⟨⟨⟨hb1, hb2⟩, hb3⟩, hb4⟩ := hb
      rw [oO] at hb1
      rw [nA] at hb2
      simp only [beq_iff_eq] at hb1 hb2
      subst hb1 hb2
      simp only [VRel] at hx
      obtain ⟨xs, rfl, hl⟩ := hx
      simp only [LRel] at hl
      obtain ⟨x0, _, rfl, h0, x1, _, rfl, h1, x2, _, rfl, h2, x3, _, rfl, h3, rfl⟩ := hl
      simp only [VRel] at h0 h1
      subst h0 h1
      obtain ⟨A, m, rfl, g1, g2, g3⟩ := xA hb3 h2
      have kk : ∃ B n, x3 = .slice B ks.length n ∧ ks.length ≤ n ∧ n ≤ maxLen ∧ ∃ cs, KidsAre S w ks cs ∧ RowIn S w 4 B ks.length cs := by
        split at hb4
        · simp only [List.isEmpty_iff] at hb4
          subst hb4
          simp only [VRel] at h3; subst h3
          exact ⟨none, 0, rfl, Nat.le_refl _, by decide, [], by simp only [KidsAre], RowIn.none_⟩
        · rename_i sz els
          simp only [Bool.and_eq_true, Nat.beq_eq] at hb4
          obtain ⟨rfl, hb4⟩ := hb4
          simp only [VRel] at h3
          obtain ⟨B, c, ys, rfl, q3, q4, q5, q6⟩ := h3
          obtain ⟨q7, q8⟩ := kidsB_ok hb4 q5
          rw [q7] at q3 q6 ⊢
          exact ⟨B, c, rfl, q3, q4, ys, q8, q6⟩
        · cases hb4
      obtain ⟨B, n, rfl, k1, k2, cs, k3, k4⟩ := kk
      exact ⟨_, rfl, zB g1 g2 k1 k2 g3 k3 k4⟩
    · cases hb
theorem kidsB_ok {ρ : Nat → Option Value} : ∀ {ts : List Tree} {vs : List V} {xs : List Value}, kidsB ts vs = true → CRel S w ρ 4 vs xs → vs.length = ts.length ∧ KidsAre S w ts xs
  | [], vs, xs, hb, hc => by
    unfold kidsB at hb
    split at hb
    · simp only [CRel] at hc; subst hc; exact ⟨rfl, by simp only [KidsAre]⟩
    · cases hb
  | t :: r, vs, xs, hb, hc => by
    unfold kidsB at hb
    split at hb
    · rename_i v q
      simp only [Bool.and_eq_true] at hb
      simp only [CRel] at hc
      obtain ⟨x, ys, rfl, _, h3, h4⟩ := hc
      obtain ⟨c, rfl, hT⟩ := treeB_ok hb.1 h3
      obtain ⟨h5, h6⟩ := kidsB_ok hb.2 h4
      exact ⟨by simp [h5], by simp only [KidsAre]; exact ⟨c, ys, by simp [Value.cells], hT, h6⟩⟩
    · cases hb
end
end
def rm (T : Tab) (k : Nat) (fid : FuncId) (vs : List V) : Option (List V) := match yy T k fid vs ⟨0, []⟩ with
  | some (rs, H1) => tM 0 H1 rs fun rs' _ => some rs'
  | none => none
theorem ni (i : Nat) : (⟨0, []⟩ : Hp).get i = .free := by
  unfold Hp.get
  have : Nat.blt i 0 = false := by cases i <;> rfl
  simp only [this]
theorem y5 (w : World) : HRel (fun _ => False) w (fun _ => none) (⟨0, []⟩ : Hp).get :=
  ⟨fun i => by rw [ni]; rfl, fun i b hb => by rw [ni] at hb; exact hb.elim, fun i j b hb _ => by rw [ni] at hb; exact hb.elim, fun _ h => h.elim⟩
theorem zZ {P : Program} {T : Tab} (hT : TabOk P T) (hm : P.follows .mixedOrders = true) {k : Nat} {fid : FuncId} {vs rs : List V} (h : rm T k fid vs = some rs) {w : World} {xs : List Value} (hx : LRel (fun _ => False) w (fun _ => none) vs xs) :
    Calls P fid xs.toArray w fun e w' => ∃ S' ρ' ys, e = .returned (oZ ys) ∧ (∀ b, S' b → w.heap.size ≤ b) ∧ Chg [] w w' ∧ LRel S' w' ρ' rs ys := by
  unfold rm at h
  split at h
  · rename_i rs1 H1 hrun
    obtain ⟨rs2, H2, e1, _, e3⟩ := rk 0 rs1 H1
    rw [e1] at h
    injection h with h; subst h
    have hr0 := y5 w
    refine (zQ hT hm hrun hr0 hx).2.mono fun e w' hR => ?_
    obtain ⟨S', ρ', ys, rfl, hr, hi, hl⟩ := hR
    obtain ⟨S2, a1, a2, a3, a4⟩ := e3 _ S' w' ρ' ys hr hi hl
    have hno : ∀ b, ¬ ∃ id, own (fun _ => none) id ((⟨0, []⟩ : Hp).get id) b := fun b ⟨id, hb⟩ => by rw [ni] at hb; exact hb
    refine ⟨S2, ρ', ys, rfl, fun b hb => ?_, ⟨hi.chg.os, hi.chg.tape, hi.chg.output, hi.chg.size, fun b hb _ => hi.chg.block b hb (hno b)⟩, a4⟩
    rcases a2.s1 b hb with h | h | h
    · exact h.elim
    · exact absurd h (hno b)
    · exact h
  · cases h
def yL (fid : FuncId) (vs : List V) : Option V := match Nat.beq fid 97 with
  | true => match vs with
    | [.str s, .int .u8 (.ofNat c)] => vB (Lib.indexByte s c.toUInt8) fun n => some (.int .i64 n)
    | _ => none
  | false => none
noncomputable def sQ : Tab := ⟨true, lv tyL, lv fnL, yL, fun f => Nat.beq f 39⟩
theorem zF : TabOk Tryz.prog sQ := by
  refine ⟨wT, A7, fun i vs v hv => ?_⟩
  replace hv : yL i vs = some v := hv
  unfold yL at hv
  split at hv
  · rename_i hb
    have := Nat.eq_of_beq_eq_true hb
    subst this
    split at hv
    · rename_i s c
      rw [u9] at hv
      injection hv with hv; subst hv
      refine ⟨by kernel_rfl, fun S w ρ xs hx => ?_⟩
      simp only [LRel] at hx
      obtain ⟨x0, _, rfl, h0, x1, _, rfl, h1, rfl⟩ := hx
      simp only [VRel] at h0 h1
      subst h0 h1
      exact ⟨_, by simp only [VRel]; rfl, wk _ _ _⟩
    · cases hv
  · cases hv
def nD (t : Tree) : Option (List V) → Bool
  | some [v, .int .i64 a, .int .i64 e] => treeB t v && iEq a 0 && iEq e 0
  | _ => false
theorem xg {k : Nat} {l : List UInt8} {t : Tree} (h : nD t (rm sQ k 19 [.str l]) = true) {w : World} : Calls Tryz.prog 19 [lN l].toArray w fun e w' => ∃ c0 c1 c2 c3, e = .returned (.tuple #[.agg #[c0, c1, c2, c3], .int .i64 0, .int .i64 0]) ∧ TreeIs (fun b => w.heap.size ≤ b) w' t [c0, c1, c2, c3] ∧ Chg [] w w' := by
  unfold nD at h
  split at h
  · rename_i v a e hr
    simp only [Bool.and_eq_true, oO, beq_iff_eq] at h
    obtain ⟨⟨h1, rfl⟩, rfl⟩ := h
    refine (zZ zF (by kernel_rfl) hr (xs := [lN l]) ⟨_, [], rfl, by simp only [VRel], rfl⟩).mono fun e w' hR => ?_
    obtain ⟨S', ρ', ys, rfl, g1, g2, g3⟩ := hR
    simp only [LRel] at g3
    obtain ⟨x0, _, rfl, h0, x1, _, rfl, h2, x2, _, rfl, h3, rfl⟩ := g3
    simp only [VRel] at h2 h3
    subst h2 h3
    obtain ⟨c, rfl, hT⟩ := treeB_ok h1 h0
    have h4 := hT.four
    match c, h4, hT with
    | [c0, c1, c2, c3], _, hT => exact ⟨c0, c1, c2, c3, rfl, hT.keep g1 (fun _ _ _ => rfl), g2⟩
  · cases h
end Go.Proofs.YtiknldgpnhikhaaGreat
namespace Go.Proofs.YtiknldgpnhikhaaGreat
open Go.RowKit Lx Sx
section
variable {S : Nat → Prop} {w : World} {ρ : Nat → Option Value}
theorem tR : ∀ ls : List (List UInt8), CRel S w ρ 1 (ls.map .str) (ls.map lN)
  | [] => by simp [CRel]
  | s :: r => by
    simp only [List.map_cons, CRel]
    exact ⟨lN s, r.map lN, by simp [Value.cells, lN], ⟨rfl, rfl⟩, by unfold VRel; rfl, tR r⟩
theorem uc : ∀ ls : List Int, CRel S w ρ 1 (ls.map (V.int .i64)) (ls.map fun z => .int .i64 z)
  | [] => by simp [CRel]
  | s :: r => by
    simp only [List.map_cons, CRel]
    exact ⟨.int .i64 s, _, by simp [Value.cells], ⟨rfl, rfl⟩, by unfold VRel; rfl, uc r⟩
mutual
theorem TreeIs.vrel : ∀ {ρ : Nat → Option Value} {t : Tree} {c : List Value}, TreeIs S w t c → LRel S w ρ (aj t) c
  | ρ, .node k s ls ks, c, h => by
    simp only [TreeIs] at h
    obtain ⟨A, m, B, n, rfl, h1, h2, h3, h4, h5, cs, h6, h7⟩ := h
    simp only [aj, Tree.kind, Tree.text, Tree.leads, Tree.kids, LRel, VRel]
    exact ⟨_, _, rfl, rfl, _, _, rfl, rfl, _, _, rfl, ⟨A, m, _, by simp, by simpa using h1, h2, tR ls, by simpa using h5⟩, _, _, rfl, ⟨B, n, cs, by simp [lG], by simpa [lG] using h3, h4, KidsAre.crel h6, by simpa [lG] using h7⟩, rfl⟩
theorem KidsAre.crel : ∀ {ρ : Nat → Option Value} {ts : List Tree} {cs : List Value}, KidsAre S w ts cs → CRel S w ρ 4 (kidsV ts) cs
  | ρ, [], cs, h => by simp only [KidsAre] at h; simp only [kidsV, CRel]; exact h
  | ρ, t :: r, cs, h => by
    simp only [KidsAre] at h
    obtain ⟨c, d, rfl, h1, h2⟩ := h
    simp only [kidsV, CRel, ix]
    exact ⟨.agg c.toArray, d, by simp [Value.cells], ⟨by simp [Value.cells, h1.four], by simpa [Value.cells] using h1.one⟩, by simp only [VRel]; exact ⟨c, rfl, h1.vrel⟩, KidsAre.crel h2⟩
end
end
theorem uW {k : Nat} {l : List UInt8} {t : Tree} (h : nD t (rm sQ k 19 [.str l]) = true) : aT Tryz.prog 19 [.str l] (.tup [.agg (aj t), .int .i64 0, .int .i64 0]) := by
  refine ⟨rfl, rfl, fun S w ρ xs hr hx => ?_⟩
  simp only [LRel, VRel] at hx
  obtain ⟨x, ys, rfl, rfl, rfl⟩ := hx
  refine (xg h (w := w)).mono ?_
  rintro e w' ⟨c0, c1, c2, c3, rfl, hT, hc⟩
  have hT' := hT.bound
  have g := hr.chg0 hc
  refine ⟨_, fun b => S b ∨ (w.heap.size ≤ b ∧ b < w'.heap.size), ρ, _, ⟨0, []⟩, rfl, rfl, ⟨fun i => ?_, fun i b hb => ?_, fun i j b hb _ => ?_, fun b hb => hb.elim (g.slt b) (·.2)⟩, ⟨ChgP.of0 hc, fun _ h => .inl h, fun b hb => hb.elim .inl fun h => .inr (.inr h.1), fun id b hb => .inl ⟨id, hb⟩, fun id x h => ?_⟩, ?_⟩
  · have := g.ob i; rw [ni] at this ⊢; exact this
  · rw [ni] at hb; exact hb.elim
  · rw [ni] at hb; exact hb.elim
  · simp only [pQ] at h
    split at h
    · exact h
    · cases h
  · have hk := TreeIs.vrel (ρ := ρ) (TreeIs.keep (S' := fun b => S b ∨ (w.heap.size ≤ b ∧ b < w'.heap.size)) (fun b hb => .inr hb) (fun _ _ _ => rfl) hT')
    simp only [VRel]
    exact ⟨[.agg #[c0, c1, c2, c3], .int .i64 0, .int .i64 0], rfl, .agg #[c0, c1, c2, c3], _, rfl, by simp only [VRel]; exact ⟨_, rfl, hk⟩, _, _, rfl, by simp only [VRel], _, _, rfl, by simp only [VRel], rfl⟩
theorem B2 {fid : FuncId} {l : List Int} {b : Bool} (h : aT Tryz.prog fid [.row 1 (l.map (V.int .i64))] (.bool b)) {W : World} {A : Option Addr} {cap : Nat} (hc : l.length ≤ cap) (hm : cap ≤ maxLen) (hr : RowIn Any W 1 A l.length (l.map fun z => .int .i64 z)) : Calls Tryz.prog fid #[.slice A l.length cap] W fun e W' => e = .returned (.bool b) ∧ Ext W W' := by
  have h0 := y5 W
  have hr' : HRel (fun b => b < W.heap.size) W (fun _ => none) (⟨0, []⟩ : Hp).get := ⟨h0.ob, fun i b hb => by rw [ni] at hb; exact hb.elim, fun i j b hb _ => by rw [ni] at hb; exact hb.elim, fun _ h => h⟩
  have hrow : RowIn (fun b => b < W.heap.size) W 1 A l.length (l.map fun z => .int .i64 z) := ⟨hr.1, fun hp => by
    obtain ⟨b, off, h1, _, h3, h4⟩ := hr.2 hp
    exact ⟨b, off, h1, h3, h3, h4⟩⟩
  refine (h.2.2 _ W _ [.slice A l.length cap] hr' ?_).mono ?_
  · simp only [LRel]
    exact ⟨_, _, rfl, by simp only [VRel]; exact ⟨A, cap, _, by simp, by simpa using hc, hm, uc l, by simpa using hrow⟩, rfl⟩
  · rintro e W' ⟨x, S', ρ', v, H', rfl, rfl, h1, h2, h3⟩
    simp only [VRel] at h3
    subst h3
    have hno : ∀ b, ¬ ∃ id, own (fun _ => none) id ((⟨0, []⟩ : Hp).get id) b := fun b ⟨id, hb⟩ => by rw [ni] at hb; exact hb
    exact ⟨rfl, Chg.ext ⟨h2.chg.os, h2.chg.tape, h2.chg.output, h2.chg.size, fun b hb _ => h2.chg.block b hb (hno b)⟩⟩
end Go.Proofs.YtiknldgpnhikhaaGreat
namespace Go.Proofs.YtiknldgpnhikhaaGreat
open Go.RowKit Lx Sx
set_option maxRecDepth 100000
set_option maxHeartbeats 1000000
def xa : List UInt8 := [109, 111, 100, 117, 108, 101, 32, 65, 32, 116, 121, 112, 101, 32, 84, 32, 61, 32, 91, 66, 46, 85, 93]
def xB : List UInt8 := [109, 111, 100, 117, 108, 101, 32, 66, 32, 116, 121, 112, 101, 32, 85, 32, 61, 32, 73, 110, 116, 32, 116, 121, 112, 101, 32, 86, 32, 61, 32, 86]
def il : Tree := (wR xa).1
def iC : Tree := (wR xB).1
theorem xN : nD il (rm sQ 5000 19 [.str xa]) = true := by kernel_rfl
theorem xR : nD iC (rm sQ 5000 19 [.str xB]) = true := by kernel_rfl
theorem xK : kbulk [il, iC] ≤ 10000000 := by decide +kernel
theorem A0 : (dZ [il, iC] 0 (.node 9 [84] [] [])).2 = 0 ∧ (dZ [il, iC] 0 (.node 9 [84] [] [])).1.kind = 8 ∧ (dZ [il, iC] 0 (.node 9 [84] [] [])).1.kids.map (·.kind) = [5] ∧ (dZ [il, iC] 1 (.node 9 [86] [] [])).2 = 19 := by decide +kernel
theorem Ak : od [il, iC] 1 1 = true ∧ od [il, iC] 1 0 = false := by decide +kernel
theorem Cm : jN true := by
  have hb := xK
  obtain ⟨a1, a2, a3, a4⟩ := A0
  obtain ⟨c1, c2⟩ := Ak
  have e1 := kW hb 0 (t := .node 9 [84] [] []) (by decide +kernel)
  have e2 := kW hb 1 (t := .node 9 [86] [] []) (by decide +kernel)
  have k1 := pJ hb 1 1
  have k2 := pJ hb 1 0
  rw [c1] at k1
  rw [c2] at k2
  obtain ⟨u, hu, hu5⟩ : ∃ u, (dZ [il, iC] 0 (.node 9 [84] [] [])).1.kids = [u] ∧ u.kind = 5 := by
    cases hk : (dZ [il, iC] 0 (.node 9 [84] [] [])).1.kids with
    | nil => rw [hk] at a3; cases a3
    | cons u r =>
      rw [hk] at a3
      cases r with
      | nil => exact ⟨u, rfl, by simpa using a3⟩
      | cons v r => simp at a3
  exact m8 0 _ ⟨il, 0, 0, uW xN, iC, 0, 0, uW xR, _, _, e1, _, _, e2, fun _ => ⟨fun _ => ⟨fun _ => ⟨fun _ => ⟨fun _ => ⟨u, (by rw [hu]; rfl), fun _ => ⟨fun _ => ⟨true, k1, fun _ => ⟨false, k2, rfl⟩, fun h => (by cases h)⟩, fun h => absurd a4 h⟩, fun h => absurd hu5 h⟩, fun h => absurd (by rw [hu]; rfl) h⟩, fun h => absurd a2 h⟩, fun h => absurd a1 h⟩, fun h => absurd rfl h⟩, fun h => absurd rfl h⟩
theorem tY (l : List Int) : it l (decide (((l.length : Nat) : Int) ≤ 120)) := oM 0 _ _ rfl
end Go.Proofs.YtiknldgpnhikhaaGreat
namespace Go.Proofs.YtiknldgpnhikhaaGreat
open Go.RowKit Lx Sx
set_option maxRecDepth 100000
set_option maxHeartbeats 1000000
theorem tc : ∀ {p : List Tree}, Mok p → bF p = true
  | [], _ => rfl
  | t :: r, h => by
    obtain ⟨h1, h2⟩ := h t (by simp)
    simp only [bF, h1, h2, tc (p := r) (fun x hx => h x (by simp [hx])), beq_self_eq_true, Bool.and_true]
theorem qO {k : Int} (hk : 5 ≤ k ∧ k ≤ 7) : ∀ n : Nat, shapeK (aL n (.node k [] [] [])) = true ∧ fk (aL n (.node k [] [] [])).kind = true
  | 0 => by
    have : k = 5 ∨ k = 6 ∨ k = 7 := by omega
    rcases this with e | e | e <;> subst e <;> decide +kernel
  | n + 1 => by
    obtain ⟨h1, h2⟩ := qO hk n
    refine ⟨?_, rfl⟩
    simp only [aL, shapeK, shapeKs, h1, Bool.and_true, List.length_singleton]
    have e1 : hZ 8 ((1 : Nat) : Int) ((0 : Nat) : Int) (aL n (.node k [] [] [])).kind = true := by
      simp only [hZ]
      simpa using h2
    have e2 : iJ 8 [] = true := rfl
    have e3 : (0 : Int) ≤ cH 8 ((1 : Nat) : Int) := by decide +kernel
    rw [e1, e2, decide_eq_true e3]
    rfl
theorem o2 {k : Int} (h8 : k ≠ 8) : ∀ n : Nat, leafK (aL n (.node k [] [] [])) = .node k [] [] [] ∧ lisK (aL n (.node k [] [] [])) = n ∧ tbulk (aL n (.node k [] [] [])) = n + 1
  | 0 => by
    obtain ⟨e1, e2⟩ := l7 (t := .node k [] [] []) h8
    exact ⟨e1, e2, rfl⟩
  | n + 1 => by
    obtain ⟨h1, h2, h3⟩ := o2 h8 n
    obtain ⟨e1, e2⟩ := l8 (t := .node 8 [] [] [aL n (.node k [] [] [])]) rfl rfl
    refine ⟨e1.trans h1, e2.trans (by rw [h2]), ?_⟩
    simp only [aL, tbulk, lsum, kbulk, h3, List.length_nil]; omega
theorem yf {p : List Tree} (hp : bF p = true) (h0 : 0 < p.length) {k : Int} (hk : 5 ≤ k ∧ k ≤ 7) (n : Nat) : dZ p 0 (aL n (.node k [] [] [])) = (aL n (.node k [] [] []), 0) := by
  obtain ⟨h1, h2⟩ := qO hk n
  obtain ⟨g1, g2, _⟩ := o2 (k := k) (by omega) n
  rw [dZ, if_pos ⟨hp, Int.le_refl _, by omega, h2, h1⟩, g1, g2, eZ, if_neg (show ¬ (Tree.node k [] [] []).kind = 9 by show ¬ k = 9; omega)]
  rfl
theorem qU {k : Int} (h9 : k ≠ 9) : ∀ (n : Nat) (q : List Int) (x : List Int × Tree), x ∈ nodK (aL n (.node k [] [] [])) q → x.2.kind ≠ 9 ∧ x.2.leads = []
  | 0, q, x, h => by
    rw [jL] at h
    simp only [aL, Tree.kids, nodKs, List.mem_singleton] at h
    subst h
    exact ⟨h9, rfl⟩
  | n + 1, q, x, h => by
    rw [jL] at h
    simp only [aL, Tree.kids, nodKs, List.append_nil, List.mem_cons] at h
    rcases h with rfl | h
    · exact ⟨by show (8 : Int) ≠ 9; decide, rfl⟩
    · exact qU h9 n _ x h
theorem Bo (aw : gW true) (l : List Int) : iO l true := by
  refine Classical.byCases (fun h : ((l.length : Nat) : Int) ≤ 120 => ?_) (fun h => iq 0 _ _ ⟨_, tY l, fun _ => ⟨_, aw, rfl⟩, fun h' => absurd (of_decide_eq_true h') h⟩)
  obtain ⟨p, h1, h2, h3⟩ := wt l (by omega)
  have hp := tc h3
  have hpl := fE p
  have hpr := nO p (by omega)
  rw [hp] at hpr
  have l1 : ∀ (i : Nat) (t : Tree), i < p.length → tbulk t ≤ kbulk p → (∃ m, ca m p (i + 1) true) → ∀ d k, (cx t).length - k ≤ d → ∃ m, cD m p (cx t) k i true := fun i t hi ht ⟨m0, hm0⟩ d => by
    have hnl := wG t
    induction d with
    | zero => intro k hk; exact ⟨m0 + 1, dv m0 _ _ _ _ _ ⟨fun h => by omega, fun _ => ⟨by omega, hm0⟩⟩⟩
    | succ d ihd =>
      intro k hk
      obtain ⟨u, hu, hul⟩ | h' := aU (cx t) k
      · obtain ⟨m, hm⟩ := ihd (k + 1) (by omega)
        have hub := uq (List.mem_of_getElem? hu)
        have hx := kW (p := p) (by omega) (i : Int) (t := u) (by omega)
        by_cases h0 : (dZ p i u).2 = 0
        · obtain ⟨n, z, e1, e8, e9, ez, hn⟩ := oy p i u
          have hz := ez h0
          have hfe := yf hp (by omega) hz n
          obtain ⟨_, _, hfb⟩ := o2 e8 n
          have hex : dZ p i u = (aL n (.node z [] [] []), 0) := Prod.ext e1 h0
          have hy := kW (p := p) (by omega) 0 (t := aL n (.node z [] [] [])) (by omega)
          obtain ⟨q1, hq1, _, hq2⟩ := ub (p := p) (by omega) (i : Int) 0 (t := u) (u := aL n (.node z [] [] [])) (by omega) (by omega)
          obtain ⟨q3, hq3, _, hq4⟩ := ub (p := p) (by omega) 0 (i : Int) (t := aL n (.node z [] [] [])) (u := u) (by omega) (by omega)
          have hqt := hq2 (by rw [hex, hfe]) h0
          have hqt' := hq4 (by rw [hex, hfe]) (by rw [hfe])
          rw [hqt] at hq1
          rw [hqt'] at hq3
          rw [hex] at hx
          have hss := xp (oy p 0 (aL n (.node z [] [] [])))
          rw [hfe] at hy hss
          have l2 : ∀ d j, (cx (aL n (.node z [] [] []))).length - j ≤ d → ∃ m, cv m p (cx t) (aL n (.node z [] [] [])) (aL n (.node z [] [] [])) 0 (cx (aL n (.node z [] [] []))) j i k true := fun d => by
            have fin : ∀ j, ¬ j < (cx (aL n (.node z [] [] []))).length → ∃ m, cv m p (cx t) (aL n (.node z [] [] [])) (aL n (.node z [] [] [])) 0 (cx (aL n (.node z [] [] []))) j i k true := fun j hj =>
              ⟨m + 1, ib m _ _ _ _ _ _ _ _ _ _ ⟨fun h => absurd h hj, fun _ => ⟨fun h => absurd rfl h, fun _ => ⟨true, hss, fun h => (by cases h), fun _ => ⟨u, hu, true, hq1, fun h => (by cases h), fun _ => ⟨u, hu, true, hq3, fun h => (by cases h), fun _ => ⟨by omega, hm⟩⟩⟩⟩⟩⟩⟩
            induction d with
            | zero => intro j hj; exact fin j (by omega)
            | succ d ihd2 =>
              intro j hj
              obtain ⟨v, hv, hvl⟩ | h' := aU (cx (aL n (.node z [] [] []))) j
              · obtain ⟨m', hm'⟩ := ihd2 (j + 1) (by omega)
                have hmem := List.mem_of_getElem? hv
                unfold cx at hmem
                rw [List.mem_map] at hmem
                obtain ⟨x, hxm, rfl⟩ := hmem
                obtain ⟨f1, f2⟩ := qU e9 n [] x hxm
                exact ⟨m' + 1, ib m' _ _ _ _ _ _ _ _ _ _ ⟨fun _ => ⟨_, hv, fun h => absurd h f1, fun _ => ⟨_, hv, fun h => absurd (by rw [f2]; rfl) h, fun _ => hm'⟩⟩, fun h => absurd hvl h⟩⟩
              · exact fin j h'
          obtain ⟨m2, hm2⟩ := l2 (cx (aL n (.node z [] [] []))).length 0 (by omega)
          exact ⟨m2 + 1, dv m2 _ _ _ _ _ ⟨fun _ => ⟨u, hu, _, _, hx, fun h => absurd rfl h, fun _ => ⟨_, _, hy, _, u3 (aL n (.node z [] [] [])) (by omega), hm2⟩⟩, fun h => absurd hul h⟩⟩
        · exact ⟨m + 1, dv m _ _ _ _ _ ⟨fun _ => ⟨u, hu, _, _, hx, fun _ => hm, fun h => absurd h h0⟩, fun h => absurd hul h⟩⟩
      · exact ⟨m0 + 1, dv m0 _ _ _ _ _ ⟨fun h => absurd h h', fun _ => ⟨by omega, hm0⟩⟩⟩
  have l0 : ∀ e i, p.length - i ≤ e → ∃ m, ca m p i true := fun e => by
    have fin : ∀ i, ¬ i < p.length → ∃ m, ca m p i true := fun i hi => ⟨1, ia 0 _ _ _ ⟨fun h => absurd h hi, fun _ => ⟨true, aw, fun _ => ⟨true, hpr, rfl⟩, fun h => (by cases h)⟩⟩⟩
    induction e with
    | zero => intro i hi; exact fin i (by omega)
    | succ e ihe =>
      intro i hi
      obtain ⟨t, ht, hlt⟩ | h' := aU p i
      · have htb := dJ ht
        obtain ⟨m, hm⟩ := l1 i t hlt htb (ihe (i + 1) (by omega)) (cx t).length 0 (by omega)
        exact ⟨m + 1, ia m _ _ _ ⟨fun _ => ⟨t, ht, _, u3 t (by omega), hm⟩, fun h => absurd hlt h⟩⟩
      · exact fin i h'
  obtain ⟨m, hm⟩ := l0 p.length 0 (by omega)
  exact iq m _ _ ⟨_, tY l, fun _ => ⟨_, aw, rfl⟩, fun _ => ⟨p, h1, hm⟩⟩
end Go.Proofs.YtiknldgpnhikhaaGreat
namespace Go.Proofs.YtiknldgpnhikhaaGreat
open Go.RowKit Go.ChangeShapes Go.WideShapes Go.Deep
theorem wZ : Tryz.prog.cellsOf 3 = 1 := by kernel_rfl
theorem Bn {H : Type} {enc : TypeId × Value → H} {W : World} {a0 : Option Addr} {len cap : Nat} {d : DataW H} {p : List MemPlace} (h : DataW.Trod enc Tryz.prog W 0 (fun _ => true) true 22 (.slice a0 len cap) d p) :
    ∃ zs : List Int, len = zs.length ∧ len ≤ cap ∧ cap ≤ maxLen ∧ RowIn Any W 1 a0 zs.length (zs.map fun z => .int .i64 z) := by
  obtain ⟨fuel, hf⟩ := h
  rcases open_ints Tryz.underlying22 Tryz.underlying3 wZ hf with ⟨hcs, hx⟩ | ⟨a, len', cap', zs, hcs, hb, hl, hm, hlen, hx, hcell, hwf⟩
  · simp [Value.cells] at hcs
    obtain ⟨rfl, rfl, rfl⟩ := hcs
    exact ⟨[], rfl, Nat.le_refl _, Nat.zero_le _, RowIn.none_⟩
  · simp [Value.cells] at hcs
    obtain ⟨rfl, rfl, rfl⟩ := hcs
    simp only [if_true] at hlen
    have hlt : (zs.take len).length = len := by simp; omega
    refine ⟨zs.take len, hlt.symm, hl, hm, by simp, fun h0 => ?_⟩
    rw [hlt] at h0 ⊢
    have hs : a.spot = none := World.cell?_spot (a := a) (by have := hcell 0 (by omega); simpa [Addr.add] using this)
    obtain ⟨b, off, spot⟩ := a
    simp only at hs
    subst hs
    have hadd : ∀ k, (⟨b, off, none⟩ : Addr).add k = ⟨b, off + k, none⟩ := fun k => by unfold Addr.add; split <;> simp_all
    refine ⟨b, off, rfl, trivial, ?_, fun j hj => ?_⟩
    · have := hcell 0 (by omega)
      exact World.block_lt_of_cell? W ⟨b, off, none⟩ (by simpa [Addr.add] using this)
    · have hj' : j < len := by omega
      have := hcell j (by omega)
      rw [hadd] at this
      rw [this]
      simp [hj', List.getD_eq_getElem?_getD, show j < zs.length from by omega]
end Go.Proofs.YtiknldgpnhikhaaGreat
