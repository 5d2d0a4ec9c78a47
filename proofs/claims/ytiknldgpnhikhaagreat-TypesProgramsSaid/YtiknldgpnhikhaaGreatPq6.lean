/- Contracts of the functions that the law reaches, part 6. -/
import Derived.Test.YtiknldgpnhikhaaGreatPq5
set_option linter.unusedVariables false
set_option linter.unusedSimpArgs false
namespace Go.Proofs.YtiknldgpnhikhaaGreat
open Go.RowKit Lx Sx
set_option maxRecDepth 100000
set_option maxHeartbeats 4000000
theorem bV (m : Nat) (p0 : (List GSemvcsref02Piece)) (p1 : Tree) (r0 : (List GSemvcsref02Piece)) (h : ((p1.kind = 17) → ∃ (t19_1 : Tree), p1.kids[0]? = some t19_1 ∧ ∃ (r19_2 : (List GSemvcsref02Piece)), ay p0 t19_1 r19_2 ∧ r19_2 = r0) ∧ ((p1.kind ≠ 17) → jg m p0 p1 r0)) : jt (m + 1) p0 p1 r0 := by
 intro K hK
 refine gR 6 rfl ?_
 refine gB 224 rfl rfl rfl (fun hd => ?_) (fun hd => ?_)
 refine gT 225 rfl hd rfl ?_
 replace hd := (eq_of_beq hd)
 replace h := h.1 hd
 refine gR 6 rfl ?_
 obtain ⟨t19_1, hxt19_1, h⟩ := h
 refine gY (aK (am hxt19_1) aa rfl rfl rfl rfl) rfl rfl ?_
 refine gR 1 rfl ?_
 obtain ⟨r19_2, hs149, h⟩ := h
 refine gC hs149 [0] (by kernel_rfl) rfl rfl .rfl ⟨⟨_, rfl, ⟨rfl, rfl, (an _ GSemvcsref02Piece.w (fun _ => rfl) p0).symm⟩⟩, trivial⟩ rfl ?_
 rintro _ _ ⟨rfl, rfl⟩
 refine gHR 2 (List.map GSemvcsref02Piece.w r19_2) rfl (an _ GSemvcsref02Piece.w (fun _ => rfl) r19_2) rfl ?_
 refine gR 6 rfl ?_
 subst h
 refine ab (F' := (mkF 365 0 [(4, .sl 1)])) (H' := ⟨2, [(1, .row 103 2 (List.map GSemvcsref02Piece.w r19_2))]⟩) [1000, 2] [] rfl hK ⟨⟨_, rfl, .rfl⟩, trivial⟩ ⟨⟨_, rfl, ⟨rfl, rfl, (an _ GSemvcsref02Piece.w (fun _ => rfl) r19_2).symm⟩⟩, trivial⟩ rfl ?_
 exact aC [] aa (rs := [.tmp 4]) rfl rfl ⟨rfl, rfl⟩
 refine gF 225 rfl hd rfl ?_
 replace hd := (ne_of_beq_false hd)
 replace h := h.2 hd
 refine gR 1 rfl ?_
 exact gJ (h K hK) [0] [] rfl hK ⟨⟨_, rfl, .rfl⟩, ⟨_, rfl, .rfl⟩, ⟨_, rfl, .rfl⟩, ⟨_, rfl, .rfl⟩, trivial⟩ ⟨⟨_, rfl, ⟨rfl, rfl, (an _ GSemvcsref02Piece.w (fun _ => rfl) p0).symm⟩⟩, trivial⟩ rfl
theorem ch (m : Nat) (p0 : (List GSemvcsref02Piece)) (p1 : Tree) (r0 : (List GSemvcsref02Piece)) (h : ((p1.kind = 18) → jp m p0 p1 r0) ∧ ((p1.kind ≠ 18) → jC m p0 p1 r0)) : jg (m + 1) p0 p1 r0 := by
 intro K hK
 refine gR 6 rfl ?_
 refine gB 232 rfl rfl rfl (fun hd => ?_) (fun hd => ?_)
 refine gT 233 rfl hd rfl ?_
 replace hd := (eq_of_beq hd)
 replace h := h.1 hd
 refine gR 1 rfl ?_
 exact gJ (h K hK) [0] [] rfl hK ⟨⟨_, rfl, .rfl⟩, ⟨_, rfl, .rfl⟩, ⟨_, rfl, .rfl⟩, trivial⟩ ⟨⟨_, rfl, ⟨rfl, rfl, (an _ GSemvcsref02Piece.w (fun _ => rfl) p0).symm⟩⟩, trivial⟩ rfl
 refine gF 233 rfl hd rfl ?_
 replace hd := (ne_of_beq_false hd)
 replace h := h.2 hd
 refine gR 1 rfl ?_
 exact gJ (h K hK) [0] [] rfl hK ⟨⟨_, rfl, .rfl⟩, ⟨_, rfl, .rfl⟩, ⟨_, rfl, .rfl⟩, trivial⟩ ⟨⟨_, rfl, ⟨rfl, rfl, (an _ GSemvcsref02Piece.w (fun _ => rfl) p0).symm⟩⟩, trivial⟩ rfl
theorem nb (m : Nat) (p0 : (List GSemvcsref02Piece)) (p1 : Tree) (r0 : (List GSemvcsref02Piece)) (h : ∃ (s21_1 : (List UInt8)), aj p1 0 s21_1 ∧ (p0 ++ [(GSemvcsref02Piece.mk s21_1 [91])]).length ≤ 1000000000 ∧ ∃ (r21_2 : (List GSemvcsref02Piece)), dO (p0 ++ [(GSemvcsref02Piece.mk s21_1 [91])]) p1 0 ((p1.kids.length : Nat) : Int) 2 r21_2 ∧ ∃ (s21_3 : (List UInt8)), aj p1 1 s21_3 ∧ (r21_2 ++ [(GSemvcsref02Piece.mk s21_3 [93])]).length ≤ 1000000000 ∧ (r21_2 ++ [(GSemvcsref02Piece.mk s21_3 [93])]) = r0) : jp (m + 1) p0 p1 r0 := by
 intro K hK
 refine gR 4 rfl ?_
 obtain ⟨s21_1, hs150, h⟩ := h
 refine gC0 hs150 (by kernel_rfl) rfl rfl .rfl rfl ?_
 refine gR 2 rfl ?_
 obtain ⟨hb, h⟩ := h
 refine gDo (.repl 0 (.row 103 2 (List.map GSemvcsref02Piece.w (p0 ++ [(GSemvcsref02Piece.mk s21_1 [91])])))) (bN aa rfl rfl rfl rfl rfl (apM GSemvcsref02Piece.w p0 (GSemvcsref02Piece.mk s21_1 [91])) (by rw [aV]; exact hb)) (okR rfl) rfl rfl rfl ?_
 refine gR 4 rfl ?_
 refine gDs [] 10 10 rfl (by kernel_rfl) (by kernel_rfl) ?_
 refine gDr [(0, 2), (1, 2), (2, 2), (4, 2)] (by kernel_rfl) rfl rfl ?_
 obtain ⟨r21_2, hs151, h⟩ := h
 refine gDC 3 hs151 [2] (by kernel_rfl) rfl (by kernel_rfl) rfl rfl .rfl ⟨⟨_, rfl, ⟨rfl, rfl, (an _ GSemvcsref02Piece.w (fun _ => rfl) (p0 ++ [(GSemvcsref02Piece.mk s21_1 [91])])).symm⟩⟩, trivial⟩ (by kernel_rfl) rfl ?_
 rintro _ _ ⟨rfl, rfl⟩
 refine gHR 4 (List.map GSemvcsref02Piece.w r21_2) rfl (an _ GSemvcsref02Piece.w (fun _ => rfl) r21_2) rfl ?_
 obtain ⟨s21_3, hs152, h⟩ := h
 refine br 5 hs152 (by kernel_rfl) rfl (by kernel_rfl) rfl rfl .rfl rfl rfl ?_
 refine gDr [(6, 0), (7, 0)] (by kernel_rfl) rfl rfl ?_
 obtain ⟨hb, h⟩ := h
 refine cW 8 (.repl 4 (.row 103 2 (List.map GSemvcsref02Piece.w (r21_2 ++ [(GSemvcsref02Piece.mk s21_3 [93])])))) rfl (by kernel_rfl) (bN aa rfl rfl rfl rfl rfl (apM GSemvcsref02Piece.w r21_2 (GSemvcsref02Piece.mk s21_3 [93])) (by rw [aV]; exact hb)) (okR rfl) rfl (by kernel_rfl) rfl rfl ?_
 refine gDr [(9, 0)] (by kernel_rfl) rfl rfl ?_
 refine gDe (by kernel_rfl) ?_
 refine gR 4 rfl ?_
 subst h
 refine ab (F' := (mkF 365 0 [(4, .sl 1)])) (H' := ⟨2, [(1, .row 103 2 (List.map GSemvcsref02Piece.w (r21_2 ++ [(GSemvcsref02Piece.mk s21_3 [93])])))]⟩) [1000, 6] [] rfl hK ⟨⟨_, rfl, .rfl⟩, trivial⟩ ⟨⟨_, rfl, ⟨rfl, rfl, (an _ GSemvcsref02Piece.w (fun _ => rfl) (r21_2 ++ [(GSemvcsref02Piece.mk s21_3 [93])])).symm⟩⟩, trivial⟩ rfl ?_
 exact aC [] aa (rs := [.tmp 4]) rfl rfl ⟨rfl, rfl⟩
theorem cQ (m : Nat) (p0 : (List GSemvcsref02Piece)) (p1 : Tree) (r0 : (List GSemvcsref02Piece)) (h : ((p1.kind = 19) → jw m p0 p1 r0) ∧ ((p1.kind ≠ 19) → jx m p0 p1 r0)) : jC (m + 1) p0 p1 r0 := by
 intro K hK
 refine gR 6 rfl ?_
 refine gB 249 rfl rfl rfl (fun hd => ?_) (fun hd => ?_)
 refine gT 250 rfl hd rfl ?_
 replace hd := (eq_of_beq hd)
 replace h := h.1 hd
 refine gR 1 rfl ?_
 exact gJ (h K hK) [0] [] rfl hK ⟨⟨_, rfl, .rfl⟩, ⟨_, rfl, .rfl⟩, trivial⟩ ⟨⟨_, rfl, ⟨rfl, rfl, (an _ GSemvcsref02Piece.w (fun _ => rfl) p0).symm⟩⟩, trivial⟩ rfl
 refine gF 250 rfl hd rfl ?_
 replace hd := (ne_of_beq_false hd)
 replace h := h.2 hd
 refine gR 1 rfl ?_
 exact gJ (h K hK) [0] [] rfl hK ⟨⟨_, rfl, .rfl⟩, ⟨_, rfl, .rfl⟩, ⟨_, rfl, .rfl⟩, trivial⟩ ⟨⟨_, rfl, ⟨rfl, rfl, (an _ GSemvcsref02Piece.w (fun _ => rfl) p0).symm⟩⟩, trivial⟩ rfl
theorem nc (m : Nat) (p0 : (List GSemvcsref02Piece)) (p1 : Tree) (r0 : (List GSemvcsref02Piece)) (h : ∃ (t23_1 : Tree), p1.kids[0]? = some t23_1 ∧ ∃ (s23_2 : (List UInt8)), aj p1 0 s23_2 ∧ (p0 ++ [(GSemvcsref02Piece.mk s23_2 [105, 102])]).length ≤ 1000000000 ∧ ∃ (r23_3 : (List GSemvcsref02Piece)), ay (p0 ++ [(GSemvcsref02Piece.mk s23_2 [105, 102])]) t23_1 r23_3 ∧ ∃ (t23_4 : Tree), p1.kids[1]? = some t23_4 ∧ ∃ (s23_5 : (List UInt8)), aj p1 1 s23_5 ∧ (r23_3 ++ [(GSemvcsref02Piece.mk s23_5 [116, 104, 101, 110])]).length ≤ 1000000000 ∧ ∃ (r23_6 : (List GSemvcsref02Piece)), ay (r23_3 ++ [(GSemvcsref02Piece.mk s23_5 [116, 104, 101, 110])]) t23_4 r23_6 ∧ ∃ (t23_7 : Tree), p1.kids[2]? = some t23_7 ∧ ∃ (s23_8 : (List UInt8)), aj p1 2 s23_8 ∧ (r23_6 ++ [(GSemvcsref02Piece.mk s23_8 [101, 108, 115, 101])]).length ≤ 1000000000 ∧ ∃ (r23_9 : (List GSemvcsref02Piece)), ay (r23_6 ++ [(GSemvcsref02Piece.mk s23_8 [101, 108, 115, 101])]) t23_7 r23_9 ∧ r23_9 = r0) : jw (m + 1) p0 p1 r0 := by
 intro K hK
 refine gR 1 rfl ?_
 refine gDs [] 12 12 rfl (by kernel_rfl) (by kernel_rfl) ?_
 refine gDr [(0, 2), (1, 2), (6, 2), (7, 2)] (by kernel_rfl) rfl rfl ?_
 obtain ⟨t23_1, hxt23_1, h⟩ := h
 refine gYd 8 rfl (by kernel_rfl) (aK (am hxt23_1) aa rfl rfl rfl rfl) rfl rfl ?_
 refine gDr [(9, 2)] (by kernel_rfl) rfl rfl ?_
 obtain ⟨s23_2, hs153, h⟩ := h
 refine br 2 hs153 (by kernel_rfl) rfl (by kernel_rfl) rfl rfl .rfl rfl rfl ?_
 refine gDr [(3, 0), (4, 0)] (by kernel_rfl) rfl rfl ?_
 obtain ⟨hb, h⟩ := h
 refine cW 5 (.repl 0 (.row 103 2 (List.map GSemvcsref02Piece.w (p0 ++ [(GSemvcsref02Piece.mk s23_2 [105, 102])])))) rfl (by kernel_rfl) (bN aa rfl rfl rfl rfl rfl (apM GSemvcsref02Piece.w p0 (GSemvcsref02Piece.mk s23_2 [105, 102])) (by rw [aV]; exact hb)) (okR rfl) rfl (by kernel_rfl) rfl rfl ?_
 obtain ⟨r23_3, hs154, h⟩ := h
 refine gDC 10 hs154 [2] (by kernel_rfl) rfl (by kernel_rfl) rfl rfl .rfl ⟨⟨_, rfl, ⟨rfl, rfl, (an _ GSemvcsref02Piece.w (fun _ => rfl) (p0 ++ [(GSemvcsref02Piece.mk s23_2 [105, 102])])).symm⟩⟩, trivial⟩ (by kernel_rfl) rfl ?_
 rintro _ _ ⟨rfl, rfl⟩
 refine gHR 4 (List.map GSemvcsref02Piece.w r23_3) rfl (an _ GSemvcsref02Piece.w (fun _ => rfl) r23_3) rfl ?_
 refine gDr [(11, 0)] (by kernel_rfl) rfl rfl ?_
 refine gDe (by kernel_rfl) ?_
 refine gR 2 rfl ?_
 refine gDs [] 12 12 rfl (by kernel_rfl) (by kernel_rfl) ?_
 refine gDr [(0, 2), (1, 2), (6, 2), (7, 2)] (by kernel_rfl) rfl rfl ?_
 obtain ⟨t23_4, hxt23_4, h⟩ := h
 refine gYd 8 rfl (by kernel_rfl) (aK (am hxt23_4) aa rfl rfl rfl rfl) rfl rfl ?_
 refine gDr [(9, 2)] (by kernel_rfl) rfl rfl ?_
 obtain ⟨s23_5, hs155, h⟩ := h
 refine br 2 hs155 (by kernel_rfl) rfl (by kernel_rfl) rfl rfl .rfl rfl rfl ?_
 refine gDr [(3, 0), (4, 0)] (by kernel_rfl) rfl rfl ?_
 obtain ⟨hb, h⟩ := h
 refine cW 5 (.repl 4 (.row 103 2 (List.map GSemvcsref02Piece.w (r23_3 ++ [(GSemvcsref02Piece.mk s23_5 [116, 104, 101, 110])])))) rfl (by kernel_rfl) (bN aa rfl rfl rfl rfl rfl (apM GSemvcsref02Piece.w r23_3 (GSemvcsref02Piece.mk s23_5 [116, 104, 101, 110])) (by rw [aV]; exact hb)) (okR rfl) rfl (by kernel_rfl) rfl rfl ?_
 obtain ⟨r23_6, hs156, h⟩ := h
 refine gDC 10 hs156 [6] (by kernel_rfl) rfl (by kernel_rfl) rfl rfl .rfl ⟨⟨_, rfl, ⟨rfl, rfl, (an _ GSemvcsref02Piece.w (fun _ => rfl) (r23_3 ++ [(GSemvcsref02Piece.mk s23_5 [116, 104, 101, 110])])).symm⟩⟩, trivial⟩ (by kernel_rfl) rfl ?_
 rintro _ _ ⟨rfl, rfl⟩
 refine gHR 8 (List.map GSemvcsref02Piece.w r23_6) rfl (an _ GSemvcsref02Piece.w (fun _ => rfl) r23_6) rfl ?_
 refine gDr [(11, 0)] (by kernel_rfl) rfl rfl ?_
 refine gDe (by kernel_rfl) ?_
 refine gR 2 rfl ?_
 refine gDs [] 12 12 rfl (by kernel_rfl) (by kernel_rfl) ?_
 refine gDr [(0, 2), (1, 2), (6, 2), (7, 2)] (by kernel_rfl) rfl rfl ?_
 obtain ⟨t23_7, hxt23_7, h⟩ := h
 refine gYd 8 rfl (by kernel_rfl) (aK (am hxt23_7) aa rfl rfl rfl rfl) rfl rfl ?_
 refine gDr [(9, 2)] (by kernel_rfl) rfl rfl ?_
 obtain ⟨s23_8, hs157, h⟩ := h
 refine br 2 hs157 (by kernel_rfl) rfl (by kernel_rfl) rfl rfl .rfl rfl rfl ?_
 refine gDr [(3, 0), (4, 0)] (by kernel_rfl) rfl rfl ?_
 obtain ⟨hb, h⟩ := h
 refine cW 5 (.repl 8 (.row 103 2 (List.map GSemvcsref02Piece.w (r23_6 ++ [(GSemvcsref02Piece.mk s23_8 [101, 108, 115, 101])])))) rfl (by kernel_rfl) (bN aa rfl rfl rfl rfl rfl (apM GSemvcsref02Piece.w r23_6 (GSemvcsref02Piece.mk s23_8 [101, 108, 115, 101])) (by rw [aV]; exact hb)) (okR rfl) rfl (by kernel_rfl) rfl rfl ?_
 obtain ⟨r23_9, hs158, h⟩ := h
 refine gDC 10 hs158 [10] (by kernel_rfl) rfl (by kernel_rfl) rfl rfl .rfl ⟨⟨_, rfl, ⟨rfl, rfl, (an _ GSemvcsref02Piece.w (fun _ => rfl) (r23_6 ++ [(GSemvcsref02Piece.mk s23_8 [101, 108, 115, 101])])).symm⟩⟩, trivial⟩ (by kernel_rfl) rfl ?_
 rintro _ _ ⟨rfl, rfl⟩
 refine gHR 12 (List.map GSemvcsref02Piece.w r23_9) rfl (an _ GSemvcsref02Piece.w (fun _ => rfl) r23_9) rfl ?_
 refine gDr [(11, 0)] (by kernel_rfl) rfl rfl ?_
 refine gDe (by kernel_rfl) ?_
 refine gR 4 rfl ?_
 subst h
 refine ab (F' := (mkF 365 0 [(4, .sl 1)])) (H' := ⟨2, [(1, .row 103 2 (List.map GSemvcsref02Piece.w r23_9))]⟩) [1000, 12] [] rfl hK ⟨⟨_, rfl, .rfl⟩, trivial⟩ ⟨⟨_, rfl, ⟨rfl, rfl, (an _ GSemvcsref02Piece.w (fun _ => rfl) r23_9).symm⟩⟩, trivial⟩ rfl ?_
 exact aC [] aa (rs := [.tmp 4]) rfl rfl ⟨rfl, rfl⟩
theorem dT (m : Nat) (p0 : (List GSemvcsref02Piece)) (p1 : Tree) (r0 : (List GSemvcsref02Piece)) (h : ((p1.kind = 20) → jB m p0 p1 r0) ∧ ((p1.kind ≠ 20) → jj m p0 p1 r0)) : jx (m + 1) p0 p1 r0 := by
 intro K hK
 refine gR 6 rfl ?_
 refine gB 284 rfl rfl rfl (fun hd => ?_) (fun hd => ?_)
 refine gT 285 rfl hd rfl ?_
 replace hd := (eq_of_beq hd)
 replace h := h.1 hd
 refine gR 1 rfl ?_
 exact gJ (h K hK) [0] [] rfl hK ⟨⟨_, rfl, .rfl⟩, ⟨_, rfl, .rfl⟩, trivial⟩ ⟨⟨_, rfl, ⟨rfl, rfl, (an _ GSemvcsref02Piece.w (fun _ => rfl) p0).symm⟩⟩, trivial⟩ rfl
 refine gF 285 rfl hd rfl ?_
 replace hd := (ne_of_beq_false hd)
 replace h := h.2 hd
 refine gR 1 rfl ?_
 exact gJ (h K hK) [0] [] rfl hK ⟨⟨_, rfl, .rfl⟩, ⟨_, rfl, .rfl⟩, ⟨_, rfl, .rfl⟩, trivial⟩ ⟨⟨_, rfl, ⟨rfl, rfl, (an _ GSemvcsref02Piece.w (fun _ => rfl) p0).symm⟩⟩, trivial⟩ rfl
theorem m9 (m : Nat) (p0 : (List GSemvcsref02Piece)) (p1 : Tree) (r0 : (List GSemvcsref02Piece)) (h : ∃ (s25_1 : (List UInt8)), aj p1 0 s25_1 ∧ ∃ (s25_2 : (List UInt8)), aj p1 1 s25_2 ∧ ∃ (s25_3 : (List UInt8)), aj p1 2 s25_3 ∧ (p0 ++ [(GSemvcsref02Piece.mk s25_1 [108, 101, 116]), (GSemvcsref02Piece.mk s25_2 p1.text), (GSemvcsref02Piece.mk s25_3 [61])]).length ≤ 1000000000 ∧ ∃ (t25_4 : Tree), p1.kids[0]? = some t25_4 ∧ ∃ (r25_5 : (List GSemvcsref02Piece)), ay (p0 ++ [(GSemvcsref02Piece.mk s25_1 [108, 101, 116]), (GSemvcsref02Piece.mk s25_2 p1.text), (GSemvcsref02Piece.mk s25_3 [61])]) t25_4 r25_5 ∧ ∃ (s25_6 : (List UInt8)), aj p1 3 s25_6 ∧ (r25_5 ++ [(GSemvcsref02Piece.mk s25_6 [105, 110])]).length ≤ 1000000000 ∧ ∃ (t25_7 : Tree), p1.kids[1]? = some t25_7 ∧ ∃ (r25_8 : (List GSemvcsref02Piece)), ay (r25_5 ++ [(GSemvcsref02Piece.mk s25_6 [105, 110])]) t25_7 r25_8 ∧ r25_8 = r0) : jB (m + 1) p0 p1 r0 := by
 intro K hK
 refine gR 1 rfl ?_
 refine gDs [] 15 15 rfl (by kernel_rfl) (by kernel_rfl) ?_
 refine gDr [(0, 2), (1, 2), (4, 2), (6, 2), (7, 2), (9, 2)] (by kernel_rfl) rfl rfl ?_
 obtain ⟨s25_1, hs159, h⟩ := h
 refine br 2 hs159 (by kernel_rfl) rfl (by kernel_rfl) rfl rfl .rfl rfl rfl ?_
 refine gDr [(3, 2)] (by kernel_rfl) rfl rfl ?_
 obtain ⟨s25_2, hs160, h⟩ := h
 refine br 5 hs160 (by kernel_rfl) rfl (by kernel_rfl) rfl rfl .rfl rfl rfl ?_
 refine gDr [(8, 2)] (by kernel_rfl) rfl rfl ?_
 obtain ⟨s25_3, hs161, h⟩ := h
 refine br 10 hs161 (by kernel_rfl) rfl (by kernel_rfl) rfl rfl .rfl rfl rfl ?_
 refine gDr [(11, 0), (12, 0)] (by kernel_rfl) rfl rfl ?_
 obtain ⟨hb, h⟩ := h
 refine cW 13 (.repl 0 (.row 103 2 (List.map GSemvcsref02Piece.w (p0 ++ [(GSemvcsref02Piece.mk s25_1 [108, 101, 116]), (GSemvcsref02Piece.mk s25_2 p1.text), (GSemvcsref02Piece.mk s25_3 [61])])))) rfl (by kernel_rfl) (bN aa rfl rfl rfl rfl rfl (List.map_append (f := GSemvcsref02Piece.w) (l₁ := p0) (l₂ := [(GSemvcsref02Piece.mk s25_1 [108, 101, 116]), (GSemvcsref02Piece.mk s25_2 p1.text), (GSemvcsref02Piece.mk s25_3 [61])])).symm (by rw [aV]; exact hb)) (okR rfl) rfl (by kernel_rfl) rfl rfl ?_
 refine gDr [(14, 0)] (by kernel_rfl) rfl rfl ?_
 refine gDe (by kernel_rfl) ?_
 refine gR 2 rfl ?_
 refine gDs [] 12 12 rfl (by kernel_rfl) (by kernel_rfl) ?_
 refine gDr [(0, 2), (1, 2), (2, 2)] (by kernel_rfl) rfl rfl ?_
 obtain ⟨t25_4, hxt25_4, h⟩ := h
 refine gYd 3 rfl (by kernel_rfl) (aK (am hxt25_4) aa rfl rfl rfl rfl) rfl rfl ?_
 refine gDr [(4, 2), (6, 2)] (by kernel_rfl) rfl rfl ?_
 obtain ⟨r25_5, hs162, h⟩ := h
 refine gDC 5 hs162 [2] (by kernel_rfl) rfl (by kernel_rfl) rfl rfl .rfl ⟨⟨_, rfl, ⟨rfl, rfl, (an _ GSemvcsref02Piece.w (fun _ => rfl) (p0 ++ [(GSemvcsref02Piece.mk s25_1 [108, 101, 116]), (GSemvcsref02Piece.mk s25_2 p1.text), (GSemvcsref02Piece.mk s25_3 [61])])).symm⟩⟩, trivial⟩ (by kernel_rfl) rfl ?_
 rintro _ _ ⟨rfl, rfl⟩
 refine gHR 4 (List.map GSemvcsref02Piece.w r25_5) rfl (an _ GSemvcsref02Piece.w (fun _ => rfl) r25_5) rfl ?_
 obtain ⟨s25_6, hs163, h⟩ := h
 refine br 7 hs163 (by kernel_rfl) rfl (by kernel_rfl) rfl rfl .rfl rfl rfl ?_
 refine gDr [(8, 0), (9, 0)] (by kernel_rfl) rfl rfl ?_
 obtain ⟨hb, h⟩ := h
 refine cW 10 (.repl 4 (.row 103 2 (List.map GSemvcsref02Piece.w (r25_5 ++ [(GSemvcsref02Piece.mk s25_6 [105, 110])])))) rfl (by kernel_rfl) (bN aa rfl rfl rfl rfl rfl (apM GSemvcsref02Piece.w r25_5 (GSemvcsref02Piece.mk s25_6 [105, 110])) (by rw [aV]; exact hb)) (okR rfl) rfl (by kernel_rfl) rfl rfl ?_
 refine gDr [(11, 0)] (by kernel_rfl) rfl rfl ?_
 refine gDe (by kernel_rfl) ?_
 refine gR 6 rfl ?_
 obtain ⟨t25_7, hxt25_7, h⟩ := h
 refine gY (aK (am hxt25_7) aa rfl rfl rfl rfl) rfl rfl ?_
 refine gR 1 rfl ?_
 obtain ⟨r25_8, hs164, h⟩ := h
 refine gC hs164 [6] (by kernel_rfl) rfl rfl .rfl ⟨⟨_, rfl, ⟨rfl, rfl, (an _ GSemvcsref02Piece.w (fun _ => rfl) (r25_5 ++ [(GSemvcsref02Piece.mk s25_6 [105, 110])])).symm⟩⟩, trivial⟩ rfl ?_
 rintro _ _ ⟨rfl, rfl⟩
 refine gHR 8 (List.map GSemvcsref02Piece.w r25_8) rfl (an _ GSemvcsref02Piece.w (fun _ => rfl) r25_8) rfl ?_
 refine gR 6 rfl ?_
 subst h
 refine ab (F' := (mkF 365 0 [(4, .sl 1)])) (H' := ⟨2, [(1, .row 103 2 (List.map GSemvcsref02Piece.w r25_8))]⟩) [1000, 8] [] rfl hK ⟨⟨_, rfl, .rfl⟩, trivial⟩ ⟨⟨_, rfl, ⟨rfl, rfl, (an _ GSemvcsref02Piece.w (fun _ => rfl) r25_8).symm⟩⟩, trivial⟩ rfl ?_
 exact aC [] aa (rs := [.tmp 4]) rfl rfl ⟨rfl, rfl⟩
theorem fL (m : Nat) (p0 : (List GSemvcsref02Piece)) (p1 : Tree) (r0 : (List GSemvcsref02Piece)) (h : ((p1.kind = 21) → jH m p0 p1 r0) ∧ ((p1.kind ≠ 21) → jy m p0 p1 r0)) : jj (m + 1) p0 p1 r0 := by
 intro K hK
 refine gR 6 rfl ?_
 refine gB 317 rfl rfl rfl (fun hd => ?_) (fun hd => ?_)
 refine gT 318 rfl hd rfl ?_
 replace hd := (eq_of_beq hd)
 replace h := h.1 hd
 refine gR 1 rfl ?_
 exact gJ (h K hK) [0] [] rfl hK ⟨⟨_, rfl, .rfl⟩, ⟨_, rfl, .rfl⟩, trivial⟩ ⟨⟨_, rfl, ⟨rfl, rfl, (an _ GSemvcsref02Piece.w (fun _ => rfl) p0).symm⟩⟩, trivial⟩ rfl
 refine gF 318 rfl hd rfl ?_
 replace hd := (ne_of_beq_false hd)
 replace h := h.2 hd
 refine gR 1 rfl ?_
 exact gJ (h K hK) [0] [] rfl hK ⟨⟨_, rfl, .rfl⟩, ⟨_, rfl, .rfl⟩, ⟨_, rfl, .rfl⟩, trivial⟩ ⟨⟨_, rfl, ⟨rfl, rfl, (an _ GSemvcsref02Piece.w (fun _ => rfl) p0).symm⟩⟩, trivial⟩ rfl
theorem nd (m : Nat) (p0 : (List GSemvcsref02Piece)) (p1 : Tree) (r0 : (List GSemvcsref02Piece)) (h : ∃ (t27_1 : Tree), p1.kids[0]? = some t27_1 ∧ ∃ (r27_2 : (List GSemvcsref02Piece)), ay p0 t27_1 r27_2 ∧ ∃ (s27_3 : (List UInt8)), aj p1 0 s27_3 ∧ (r27_2 ++ [(GSemvcsref02Piece.mk s27_3 p1.text)]).length ≤ 1000000000 ∧ ∃ (t27_4 : Tree), p1.kids[1]? = some t27_4 ∧ ∃ (r27_5 : (List GSemvcsref02Piece)), ay (r27_2 ++ [(GSemvcsref02Piece.mk s27_3 p1.text)]) t27_4 r27_5 ∧ r27_5 = r0) : jH (m + 1) p0 p1 r0 := by
 intro K hK
 refine gR 1 rfl ?_
 refine gDs [] 14 14 rfl (by kernel_rfl) (by kernel_rfl) ?_
 refine gDr [(0, 2), (1, 2), (2, 2)] (by kernel_rfl) rfl rfl ?_
 obtain ⟨t27_1, hxt27_1, h⟩ := h
 refine gYd 3 rfl (by kernel_rfl) (aK (am hxt27_1) aa rfl rfl rfl rfl) rfl rfl ?_
 refine gDr [(4, 2), (6, 2), (8, 2), (9, 2)] (by kernel_rfl) rfl rfl ?_
 obtain ⟨r27_2, hs165, h⟩ := h
 refine gDC 5 hs165 [0] (by kernel_rfl) rfl (by kernel_rfl) rfl rfl .rfl ⟨⟨_, rfl, ⟨rfl, rfl, (an _ GSemvcsref02Piece.w (fun _ => rfl) p0).symm⟩⟩, trivial⟩ (by kernel_rfl) rfl ?_
 rintro _ _ ⟨rfl, rfl⟩
 refine gHR 2 (List.map GSemvcsref02Piece.w r27_2) rfl (an _ GSemvcsref02Piece.w (fun _ => rfl) r27_2) rfl ?_
 obtain ⟨s27_3, hs166, h⟩ := h
 refine br 7 hs166 (by kernel_rfl) rfl (by kernel_rfl) rfl rfl .rfl rfl rfl ?_
 refine gDr [(10, 0), (11, 0)] (by kernel_rfl) rfl rfl ?_
 obtain ⟨hb, h⟩ := h
 refine cW 12 (.repl 2 (.row 103 2 (List.map GSemvcsref02Piece.w (r27_2 ++ [(GSemvcsref02Piece.mk s27_3 p1.text)])))) rfl (by kernel_rfl) (bN aa rfl rfl rfl rfl rfl (apM GSemvcsref02Piece.w r27_2 (GSemvcsref02Piece.mk s27_3 p1.text)) (by rw [aV]; exact hb)) (okR rfl) rfl (by kernel_rfl) rfl rfl ?_
 refine gDr [(13, 0)] (by kernel_rfl) rfl rfl ?_
 refine gDe (by kernel_rfl) ?_
 refine gR 6 rfl ?_
 obtain ⟨t27_4, hxt27_4, h⟩ := h
 refine gY (aK (am hxt27_4) aa rfl rfl rfl rfl) rfl rfl ?_
 refine gR 1 rfl ?_
 obtain ⟨r27_5, hs167, h⟩ := h
 refine gC hs167 [4] (by kernel_rfl) rfl rfl .rfl ⟨⟨_, rfl, ⟨rfl, rfl, (an _ GSemvcsref02Piece.w (fun _ => rfl) (r27_2 ++ [(GSemvcsref02Piece.mk s27_3 p1.text)])).symm⟩⟩, trivial⟩ rfl ?_
 rintro _ _ ⟨rfl, rfl⟩
 refine gHR 6 (List.map GSemvcsref02Piece.w r27_5) rfl (an _ GSemvcsref02Piece.w (fun _ => rfl) r27_5) rfl ?_
 refine gR 6 rfl ?_
 subst h
 refine ab (F' := (mkF 365 0 [(4, .sl 1)])) (H' := ⟨2, [(1, .row 103 2 (List.map GSemvcsref02Piece.w r27_5))]⟩) [1000, 6] [] rfl hK ⟨⟨_, rfl, .rfl⟩, trivial⟩ ⟨⟨_, rfl, ⟨rfl, rfl, (an _ GSemvcsref02Piece.w (fun _ => rfl) r27_5).symm⟩⟩, trivial⟩ rfl ?_
 exact aC [] aa (rs := [.tmp 4]) rfl rfl ⟨rfl, rfl⟩
theorem i6 (m : Nat) (p0 : (List GSemvcsref02Piece)) (p1 : Tree) (r0 : (List GSemvcsref02Piece)) (h : ((p1.kind = 22) → jn m p0 p1 r0) ∧ ((p1.kind ≠ 22) → ∃ (s28_1 : (List UInt8)), aj p1 0 s28_1 ∧ (p0 ++ [(GSemvcsref02Piece.mk s28_1 p1.text)]).length ≤ 1000000000 ∧ (p0 ++ [(GSemvcsref02Piece.mk s28_1 p1.text)]) = r0)) : jy (m + 1) p0 p1 r0 := by
 intro K hK
 refine gR 6 rfl ?_
 refine gB 338 rfl rfl rfl (fun hd => ?_) (fun hd => ?_)
 refine gT 339 rfl hd rfl ?_
 replace hd := (eq_of_beq hd)
 replace h := h.1 hd
 refine gR 1 rfl ?_
 exact gJ (h K hK) [0] [] rfl hK ⟨⟨_, rfl, .rfl⟩, ⟨_, rfl, .rfl⟩, trivial⟩ ⟨⟨_, rfl, ⟨rfl, rfl, (an _ GSemvcsref02Piece.w (fun _ => rfl) p0).symm⟩⟩, trivial⟩ rfl
 refine gF 339 rfl hd rfl ?_
 replace hd := (ne_of_beq_false hd)
 replace h := h.2 hd
 refine gR 5 rfl ?_
 refine gDs [] 9 9 rfl (by kernel_rfl) (by kernel_rfl) ?_
 refine gDr [(0, 2), (1, 2), (3, 2), (4, 2)] (by kernel_rfl) rfl rfl ?_
 obtain ⟨s28_1, hs168, h⟩ := h
 refine br 2 hs168 (by kernel_rfl) rfl (by kernel_rfl) rfl rfl .rfl rfl rfl ?_
 refine gDr [(5, 0), (6, 0)] (by kernel_rfl) rfl rfl ?_
 obtain ⟨hb, h⟩ := h
 refine cW 7 (.repl 0 (.row 103 2 (List.map GSemvcsref02Piece.w (p0 ++ [(GSemvcsref02Piece.mk s28_1 p1.text)])))) rfl (by kernel_rfl) (bN aa rfl rfl rfl rfl rfl (apM GSemvcsref02Piece.w p0 (GSemvcsref02Piece.mk s28_1 p1.text)) (by rw [aV]; exact hb)) (okR rfl) rfl (by kernel_rfl) rfl rfl ?_
 refine gDr [(8, 0)] (by kernel_rfl) rfl rfl ?_
 refine gDe (by kernel_rfl) ?_
 refine gR 2 rfl ?_
 subst h
 refine ab (F' := (mkF 365 0 [(4, .sl 1)])) (H' := ⟨2, [(1, .row 103 2 (List.map GSemvcsref02Piece.w (p0 ++ [(GSemvcsref02Piece.mk s28_1 p1.text)])))]⟩) [1000, 2] [] rfl hK ⟨⟨_, rfl, .rfl⟩, trivial⟩ ⟨⟨_, rfl, ⟨rfl, rfl, (an _ GSemvcsref02Piece.w (fun _ => rfl) (p0 ++ [(GSemvcsref02Piece.mk s28_1 p1.text)])).symm⟩⟩, trivial⟩ rfl ?_
 exact aC [] aa (rs := [.tmp 4]) rfl rfl ⟨rfl, rfl⟩
theorem ng (m : Nat) (p0 : (List GSemvcsref02Piece)) (p1 : Tree) (r0 : (List GSemvcsref02Piece)) (h : ∃ (s29_1 : (List UInt8)), aj p1 0 s29_1 ∧ (p0 ++ [(GSemvcsref02Piece.mk s29_1 [40])]).length ≤ 1000000000 ∧ ∃ (t29_2 : Tree), p1.kids[0]? = some t29_2 ∧ ∃ (r29_3 : (List GSemvcsref02Piece)), ay (p0 ++ [(GSemvcsref02Piece.mk s29_1 [40])]) t29_2 r29_3 ∧ ∃ (s29_4 : (List UInt8)), aj p1 1 s29_4 ∧ (r29_3 ++ [(GSemvcsref02Piece.mk s29_4 [41])]).length ≤ 1000000000 ∧ (r29_3 ++ [(GSemvcsref02Piece.mk s29_4 [41])]) = r0) : jn (m + 1) p0 p1 r0 := by
 intro K hK
 refine gR 4 rfl ?_
 obtain ⟨s29_1, hs169, h⟩ := h
 refine gC0 hs169 (by kernel_rfl) rfl rfl .rfl rfl ?_
 refine gR 2 rfl ?_
 obtain ⟨hb, h⟩ := h
 refine gDo (.repl 0 (.row 103 2 (List.map GSemvcsref02Piece.w (p0 ++ [(GSemvcsref02Piece.mk s29_1 [40])])))) (bN aa rfl rfl rfl rfl rfl (apM GSemvcsref02Piece.w p0 (GSemvcsref02Piece.mk s29_1 [40])) (by rw [aV]; exact hb)) (okR rfl) rfl rfl rfl ?_
 refine gR 4 rfl ?_
 refine gDs [] 12 12 rfl (by kernel_rfl) (by kernel_rfl) ?_
 refine gDr [(0, 2), (1, 2), (2, 2)] (by kernel_rfl) rfl rfl ?_
 obtain ⟨t29_2, hxt29_2, h⟩ := h
 refine gYd 3 rfl (by kernel_rfl) (aK (am hxt29_2) aa rfl rfl rfl rfl) rfl rfl ?_
 refine gDr [(4, 2), (6, 2)] (by kernel_rfl) rfl rfl ?_
 obtain ⟨r29_3, hs170, h⟩ := h
 refine gDC 5 hs170 [2] (by kernel_rfl) rfl (by kernel_rfl) rfl rfl .rfl ⟨⟨_, rfl, ⟨rfl, rfl, (an _ GSemvcsref02Piece.w (fun _ => rfl) (p0 ++ [(GSemvcsref02Piece.mk s29_1 [40])])).symm⟩⟩, trivial⟩ (by kernel_rfl) rfl ?_
 rintro _ _ ⟨rfl, rfl⟩
 refine gHR 4 (List.map GSemvcsref02Piece.w r29_3) rfl (an _ GSemvcsref02Piece.w (fun _ => rfl) r29_3) rfl ?_
 obtain ⟨s29_4, hs171, h⟩ := h
 refine br 7 hs171 (by kernel_rfl) rfl (by kernel_rfl) rfl rfl .rfl rfl rfl ?_
 refine gDr [(8, 0), (9, 0)] (by kernel_rfl) rfl rfl ?_
 obtain ⟨hb, h⟩ := h
 refine cW 10 (.repl 4 (.row 103 2 (List.map GSemvcsref02Piece.w (r29_3 ++ [(GSemvcsref02Piece.mk s29_4 [41])])))) rfl (by kernel_rfl) (bN aa rfl rfl rfl rfl rfl (apM GSemvcsref02Piece.w r29_3 (GSemvcsref02Piece.mk s29_4 [41])) (by rw [aV]; exact hb)) (okR rfl) rfl (by kernel_rfl) rfl rfl ?_
 refine gDr [(11, 0)] (by kernel_rfl) rfl rfl ?_
 refine gDe (by kernel_rfl) ?_
 refine gR 4 rfl ?_
 subst h
 refine ab (F' := (mkF 365 0 [(4, .sl 1)])) (H' := ⟨2, [(1, .row 103 2 (List.map GSemvcsref02Piece.w (r29_3 ++ [(GSemvcsref02Piece.mk s29_4 [41])])))]⟩) [1000, 6] [] rfl hK ⟨⟨_, rfl, .rfl⟩, trivial⟩ ⟨⟨_, rfl, ⟨rfl, rfl, (an _ GSemvcsref02Piece.w (fun _ => rfl) (r29_3 ++ [(GSemvcsref02Piece.mk s29_4 [41])])).symm⟩⟩, trivial⟩ rfl ?_
 exact aC [] aa (rs := [.tmp 4]) rfl rfl ⟨rfl, rfl⟩
def eo (m : Nat) (p1 : Tree) (p2 : Int) (p3 : Int) (p4 : Int) (l1v1 : (List GSemvcsref02Piece)) (z1v2 : Int) (r0 : (List GSemvcsref02Piece)) : Prop := ∀ (K : Ctx) (j1 : Nat), au K [] → m ≤ j1 → Go Tryz.prog K (bodyPost Tryz.prog Tryz.f122 (SP K (fun u G => u = .sl 1 ∧ G = ⟨2, [(1, .row 103 2 (List.map GSemvcsref02Piece.w r0))]⟩))) (.code (cL (cK (cB (cA (cB (ae Tryz.f122))))))) [.loop (cL (cK (cB (cA (cB (ae Tryz.f122)))))) j1, .blk 0, .seq (cB (cB (ae Tryz.f122)))] 41 (mkF 41 0 [(0, .sl 0), (2, .int .i64 p2), (3, .int .i64 p3), (4, .int .i64 p4), (6, .box (ai p1) 0), (11, .int .i64 z1v2)]) ⟨1, [(0, .row 103 2 (List.map GSemvcsref02Piece.w l1v1))]⟩
theorem pm (m : Nat) (p0 : (List GSemvcsref02Piece)) (p1 : Tree) (p2 : Int) (p3 : Int) (p4 : Int) (r0 : (List GSemvcsref02Piece)) (h : eo m p1 p2 p3 p4 p0 p2 r0) : dO p0 p1 p2 p3 p4 r0 := by
 refine ak 41 [] Tryz.func122 rfl rfl rfl (aA rfl) fun K hK => ?_
 refine gR 3 rfl ?_
 refine gFP 1 rfl rfl rfl rfl ?_
 refine gR 11 rfl ?_
 refine go_loop m ?_
 exact gJ (h K _ hK (by omega)) [0] [] rfl hK ⟨⟨_, rfl, .rfl⟩, ⟨_, rfl, .rfl⟩, ⟨_, rfl, .rfl⟩, ⟨_, rfl, .rfl⟩, ⟨_, rfl, .rfl⟩, ⟨_, rfl, .rfl⟩, trivial⟩ ⟨⟨_, rfl, ⟨rfl, rfl, (an _ GSemvcsref02Piece.w (fun _ => rfl) p0).symm⟩⟩, trivial⟩ rfl
theorem fD (m : Nat) (p1 : Tree) (p2 : Int) (p3 : Int) (p4 : Int) (l1v1 : (List GSemvcsref02Piece)) (z1v2 : Int) (r0 : (List GSemvcsref02Piece)) (h : ((z1v2 < p3) → ((p2 < z1v2) → InI (p4 + z1v2) ∧ InI ((p4 + z1v2) - p2) ∧ InI (((p4 + z1v2) - p2) - 1) ∧ ∃ (s1_1 : (List UInt8)), aj p1 (((p4 + z1v2) - p2) - 1) s1_1 ∧ (l1v1 ++ [(GSemvcsref02Piece.mk s1_1 [44])]).length ≤ 1000000000 ∧ ∃ (k1_2 : Nat), z1v2 = ((k1_2 : Nat) : Int) ∧ ∃ (t1_3 : Tree), p1.kids[k1_2]? = some t1_3 ∧ ∃ (r1_4 : (List GSemvcsref02Piece)), ay (l1v1 ++ [(GSemvcsref02Piece.mk s1_1 [44])]) t1_3 r1_4 ∧ InI (z1v2 + 1) ∧ eo m p1 p2 p3 p4 r1_4 (z1v2 + 1) r0) ∧ ((¬ p2 < z1v2) → ∃ (k1_5 : Nat), z1v2 = ((k1_5 : Nat) : Int) ∧ ∃ (t1_6 : Tree), p1.kids[k1_5]? = some t1_6 ∧ ∃ (r1_7 : (List GSemvcsref02Piece)), ay l1v1 t1_6 r1_7 ∧ InI (z1v2 + 1) ∧ eo m p1 p2 p3 p4 r1_7 (z1v2 + 1) r0)) ∧ ((¬ z1v2 < p3) → l1v1 = r0)) : eo (m + 1) p1 p2 p3 p4 l1v1 z1v2 r0 := by
 intro K j1 hK hj1
 obtain ⟨j1, rfl⟩ : ∃ j, j1 = j + 1 := ⟨j1 - 1, by omega⟩
 refine gR 8 rfl ?_
 refine gB 15 rfl rfl rfl (fun hd => ?_) (fun hd => ?_)
 replace hd := (of_decide_eq_true hd)
 replace h := h.1 hd
 refine gR 13 rfl ?_
 refine gB 20 rfl rfl rfl (fun hd => ?_) (fun hd => ?_)
 replace hd := (of_decide_eq_true hd)
 replace h := h.1 hd
 refine gR 6 rfl ?_
 obtain ⟨hb, h⟩ := h
 refine gR 1 rfl ?_
 refine gV 25 (.int .i64 (p4 + z1v2)) rfl (ar hb rfl) rfl ?_
 refine gR 1 rfl ?_
 obtain ⟨hb, h⟩ := h
 refine gR 1 rfl ?_
 refine gV 27 (.int .i64 ((p4 + z1v2) - p2)) rfl (ar hb rfl) rfl ?_
 obtain ⟨hb, h⟩ := h
 refine gR 1 rfl ?_
 refine gV 28 (.int .i64 (((p4 + z1v2) - p2) - 1)) rfl (ar hb rfl) rfl ?_
 obtain ⟨s1_1, hs7, h⟩ := h
 refine gC0 hs7 (by kernel_rfl) rfl rfl .rfl rfl ?_
 refine gR 2 rfl ?_
 obtain ⟨hb, h⟩ := h
 refine gDo (.repl 0 (.row 103 2 (List.map GSemvcsref02Piece.w (l1v1 ++ [(GSemvcsref02Piece.mk s1_1 [44])])))) (bN aa rfl rfl rfl rfl rfl (apM GSemvcsref02Piece.w l1v1 (GSemvcsref02Piece.mk s1_1 [44])) (by rw [aV]; exact hb)) (okR rfl) rfl rfl rfl ?_
 refine gR 8 rfl ?_
 obtain ⟨k1_2, ek1_2, h⟩ := h
 refine gV 36 (.int .i64 ((k1_2 : Nat) : Int)) rfl (cw ek1_2) rfl ?_
 obtain ⟨t1_3, hxt1_3, h⟩ := h
 refine gY (aK (am hxt1_3) aa rfl rfl rfl rfl) rfl rfl ?_
 refine gR 1 rfl ?_
 obtain ⟨r1_4, hs8, h⟩ := h
 refine gC hs8 [2] (by kernel_rfl) rfl rfl .rfl ⟨⟨_, rfl, ⟨rfl, rfl, (an _ GSemvcsref02Piece.w (fun _ => rfl) (l1v1 ++ [(GSemvcsref02Piece.mk s1_1 [44])])).symm⟩⟩, trivial⟩ rfl ?_
 rintro _ _ ⟨rfl, rfl⟩
 refine gHR 4 (List.map GSemvcsref02Piece.w r1_4) rfl (an _ GSemvcsref02Piece.w (fun _ => rfl) r1_4) rfl ?_
 refine gR 6 rfl ?_
 obtain ⟨hb, h⟩ := h
 refine gR 1 rfl ?_
 refine gV 17 (.int .i64 (z1v2 + 1)) rfl (ar hb rfl) rfl ?_
 refine gR 2 rfl ?_
 refine aq ?_
 exact gJ (h K _ hK (by omega)) [4] [] rfl hK ⟨⟨_, rfl, .rfl⟩, ⟨_, rfl, .rfl⟩, ⟨_, rfl, .rfl⟩, ⟨_, rfl, .rfl⟩, ⟨_, rfl, .rfl⟩, ⟨_, rfl, .rfl⟩, trivial⟩ ⟨⟨_, rfl, ⟨rfl, rfl, (an _ GSemvcsref02Piece.w (fun _ => rfl) r1_4).symm⟩⟩, trivial⟩ rfl
 replace hd := (of_decide_eq_false hd)
 replace h := h.2 hd
 refine gR 8 rfl ?_
 obtain ⟨k1_5, ek1_5, h⟩ := h
 refine gV 36 (.int .i64 ((k1_5 : Nat) : Int)) rfl (cw ek1_5) rfl ?_
 obtain ⟨t1_6, hxt1_6, h⟩ := h
 refine gY (aK (am hxt1_6) aa rfl rfl rfl rfl) rfl rfl ?_
 refine gR 1 rfl ?_
 obtain ⟨r1_7, hs9, h⟩ := h
 refine gC hs9 [0] (by kernel_rfl) rfl rfl .rfl ⟨⟨_, rfl, ⟨rfl, rfl, (an _ GSemvcsref02Piece.w (fun _ => rfl) l1v1).symm⟩⟩, trivial⟩ rfl ?_
 rintro _ _ ⟨rfl, rfl⟩
 refine gHR 2 (List.map GSemvcsref02Piece.w r1_7) rfl (an _ GSemvcsref02Piece.w (fun _ => rfl) r1_7) rfl ?_
 refine gR 6 rfl ?_
 obtain ⟨hb, h⟩ := h
 refine gR 1 rfl ?_
 refine gV 17 (.int .i64 (z1v2 + 1)) rfl (ar hb rfl) rfl ?_
 refine gR 2 rfl ?_
 refine aq ?_
 exact gJ (h K _ hK (by omega)) [2] [] rfl hK ⟨⟨_, rfl, .rfl⟩, ⟨_, rfl, .rfl⟩, ⟨_, rfl, .rfl⟩, ⟨_, rfl, .rfl⟩, ⟨_, rfl, .rfl⟩, ⟨_, rfl, .rfl⟩, trivial⟩ ⟨⟨_, rfl, ⟨rfl, rfl, (an _ GSemvcsref02Piece.w (fun _ => rfl) r1_7).symm⟩⟩, trivial⟩ rfl
 replace hd := (of_decide_eq_false hd)
 replace h := h.2 hd
 refine gR 3 rfl ?_
 refine av ?_
 refine gR 9 rfl ?_
 subst h
 refine ab (F' := (mkF 41 0 [(10, .sl 1)])) (H' := ⟨2, [(1, .row 103 2 (List.map GSemvcsref02Piece.w l1v1))]⟩) [1000, 0] [] rfl hK ⟨⟨_, rfl, .rfl⟩, trivial⟩ ⟨⟨_, rfl, ⟨rfl, rfl, (an _ GSemvcsref02Piece.w (fun _ => rfl) l1v1).symm⟩⟩, trivial⟩ rfl ?_
 exact aC [] aa (rs := [.tmp 10]) rfl rfl ⟨rfl, rfl⟩
theorem lg (m : Nat) (p0 : Tree) (p1 : Int) (r0 : (List UInt8)) (h : ((p1 < ((p0.leads.length : Nat) : Int)) → ∃ (k0_1 : Nat), p1 = ((k0_1 : Nat) : Int) ∧ ∃ (s0_2 : (List UInt8)), p0.leads[k0_1]? = some s0_2 ∧ s0_2 = r0) ∧ ((¬ p1 < ((p0.leads.length : Nat) : Int)) → [] = r0)) : aj p0 p1 r0 := by
 refine ⟨rfl, rfl, ?_⟩
 refine ak 15 [] Tryz.func121 rfl rfl rfl (aA rfl) fun K hK => ?_
 refine gR 3 rfl ?_
 refine gFP 0 rfl rfl rfl rfl ?_
 refine gR 10 rfl ?_
 refine gV 8 (.int .i64 ((p0.leads.length : Nat) : Int)) rfl (bc (aV V.str _)) rfl ?_
 refine gLB 7 rfl (aV V.str _) fun hl2 => ?_
 refine gR 3 rfl ?_
 refine gB 9 rfl rfl rfl (fun hd => ?_) (fun hd => ?_)
 replace hd := (of_decide_eq_true hd)
 replace h := h.1 hd
 refine gR 6 rfl ?_
 obtain ⟨k0_1, ek0_1, h⟩ := h
 refine gV 12 (.int .i64 ((k0_1 : Nat) : Int)) rfl (cw ek0_1) rfl ?_
 obtain ⟨s0_2, hxs0_2, h⟩ := h
 refine gY (aK (mapget (f := V.str) hxs0_2) aa rfl rfl rfl rfl) rfl rfl ?_
 refine gR 6 rfl ?_
 subst h
 refine ab (F' := (mkF 15 0 [(4, .str s0_2)])) (H' := ⟨0, []⟩) [] [] rfl hK ⟨⟨_, rfl, .rfl⟩, trivial⟩ trivial rfl ?_
 exact ac aa (rs := [.tmp 4]) rfl rfl rfl
 replace hd := (of_decide_eq_false hd)
 replace h := h.2 hd
 refine gR 9 rfl ?_
 subst h
 refine ab (F' := (mkF 15 0 [(4, .str [])])) (H' := ⟨0, []⟩) [] [] rfl hK ⟨⟨_, rfl, .rfl⟩, trivial⟩ trivial rfl ?_
 exact ac aa (rs := [.tmp 4]) rfl rfl rfl
end Go.Proofs.YtiknldgpnhikhaaGreat
namespace Go.Proofs.YtiknldgpnhikhaaGreat
open Go.RowKit Lx Sx
set_option maxRecDepth 100000
set_option maxHeartbeats 4000000
def cu (r0 : Bool) : Prop := aP Tryz.prog 7 [] (.bool r0)
def mZ (p0 : (List UInt8)) (r0 : Tree) (r1 : Int) (r2 : Int) : Prop := aP Tryz.prog 19 [.str p0] (.tup [.agg (ai r0), .int .i64 r1, .int .i64 r2])
def fy (p0 : (List Tree)) (r0 : Bool) : Prop := aP Tryz.prog 15 [.row 4 (kidsV p0)] (.bool r0)
def iT (p0 : (List Tree)) (p1 : Int) (p2 : Int) (p3 : Tree) (p4 : Tree) (r0 : Bool) : Prop := aP Tryz.prog 4 [.row 4 (kidsV p0), .int .i64 p1, .int .i64 p2, .agg (ai p3), .agg (ai p4)] (.bool r0)
def gL (p0 : (List Int)) (r0 : Bool) : Prop := aP Tryz.prog 3 [.row 1 (List.map (V.int .i64) p0)] (.bool r0)
def ke (r0 : Bool) : Prop := aP Tryz.prog 7 [] (.bool r0)
theorem oT (m : Nat) (p0 : (List Tree)) (r0 : Bool) (h : ∃ (n0_1 : Int), f5 (Tree.node 0 [] [] p0) n0_1 ∧ decide (n0_1 ≤ 300) = r0) : fy p0 r0 := by
 refine ⟨rfl, rfl, ?_⟩
 refine ak 7 [] Tryz.func15 rfl rfl rfl (aA rfl) fun K hK => ?_
 refine gR 9 rfl ?_
 obtain ⟨n0_1, hs2, h⟩ := h
 refine gC0 hs2 (by kernel_rfl) rfl rfl (.cons (.agg (.cons .rfl (.cons .rfl (.cons (.nil 1) (.cons .rfl .nil))))) .nil) rfl ?_
 refine gR 5 rfl ?_
 subst h
 refine ab (F' := (mkF 7 0 [(2, .bool (decide (n0_1 ≤ 300)))])) (H' := ⟨0, []⟩) [] [] rfl hK ⟨⟨_, rfl, .rfl⟩, trivial⟩ trivial rfl ?_
 exact ac aa (rs := [.tmp 2]) rfl rfl rfl
theorem mn (m : Nat) (p0 : (List Tree)) (p1 : Int) (p2 : Int) (p3 : Tree) (p4 : Tree) (r0 : Bool) (h : ∃ (b0_1 : Bool), fy p0 b0_1 ∧ ((b0_1 = false) → ∃ (b0_2 : Bool), cu b0_2 ∧ b0_2 = r0) ∧ ((b0_1 = true) → ∃ (b0_3 : Bool), fy [p3, p4] b0_3 ∧ ((b0_3 = false) → ∃ (b0_4 : Bool), cu b0_4 ∧ b0_4 = r0) ∧ ((b0_3 = true) → ∃ (t0_5 : Tree), ∃ (n0_6 : Int), dt p0 p1 p3 t0_5 n0_6 ∧ ∃ (t0_7 : Tree), ∃ (n0_8 : Int), cM p0 p1 p3 t0_7 n0_8 ∧ ∃ (b0_9 : Bool), cu b0_9 ∧ ((b0_9 = true) → ((n0_6 = n0_8) → ∃ (b0_10 : Bool), cf t0_5 t0_7 b0_10 ∧ ((b0_10 = true) → ∃ (b0_11 : Bool), dh p0 p1 p2 b0_11 ∧ ∃ (b0_12 : Bool), ef p0 p1 p2 b0_12 ∧ ((b0_11 = b0_12) → ∃ (b0_13 : Bool), mb p0 p1 p3 p2 p4 b0_13 ∧ ∃ (b0_14 : Bool), ip p0 p1 p3 p2 p4 b0_14 ∧ (b0_13 == b0_14) = r0) ∧ ((b0_11 ≠ b0_12) → false = r0)) ∧ ((b0_10 = false) → false = r0)) ∧ ((n0_6 ≠ n0_8) → false = r0)) ∧ ((b0_9 = false) → false = r0)))) : iT p0 p1 p2 p3 p4 r0 := by
 refine ⟨rfl, rfl, ?_⟩
 refine ak 77 [] Tryz.func4 rfl rfl rfl (aA rfl) fun K hK => ?_
 refine gR 3 rfl ?_
 refine gFP 0 rfl rfl rfl rfl ?_
 refine gR 1 rfl ?_
 refine gFP 1 rfl rfl rfl rfl ?_
 refine gR 7 rfl ?_
 obtain ⟨b0_1, hs13, h⟩ := h
 refine gC0 hs13 (by kernel_rfl) rfl rfl .rfl rfl ?_
 refine gR 2 rfl ?_
 refine gB 18 rfl rfl rfl (fun hd => ?_) (fun hd => ?_)
 refine gT 17 rfl hd rfl ?_
 replace hd := (bM hd)
 replace h := h.1 hd
 refine gR 11 rfl ?_
 obtain ⟨b0_2, hs14, h⟩ := h
 refine gC0 hs14 (by kernel_rfl) rfl rfl .rfl rfl ?_
 refine gR 5 rfl ?_
 subst h
 refine ab (F' := (mkF 77 0 [(10, .bool b0_2)])) (H' := ⟨0, []⟩) [] [] rfl hK ⟨⟨_, rfl, .rfl⟩, trivial⟩ trivial rfl ?_
 exact ac aa (rs := [.tmp 10]) rfl rfl rfl
 refine gF 17 rfl hd rfl ?_
 replace hd := (bL hd)
 replace h := h.2 hd
 refine gR 3 rfl ?_
 refine gHR 2 (kidsV [p3, p4]) rfl (pE [p3, p4]) rfl ?_
 refine gFR 2 rfl (co _) rfl rfl ?_
 obtain ⟨b0_3, hs15, h⟩ := h
 refine gC0 hs15 (by kernel_rfl) rfl rfl .rfl rfl ?_
 refine gR 4 rfl ?_
 refine gB 24 rfl rfl rfl (fun hd => ?_) (fun hd => ?_)
 replace hd := (bM hd)
 replace h := h.1 hd
 refine gR 3 rfl ?_
 obtain ⟨b0_4, hs16, h⟩ := h
 refine gC0 hs16 (by kernel_rfl) rfl rfl .rfl rfl ?_
 refine gR 5 rfl ?_
 subst h
 refine ab (F' := (mkF 77 0 [(10, .bool b0_4)])) (H' := ⟨0, []⟩) [] [] rfl hK ⟨⟨_, rfl, .rfl⟩, trivial⟩ trivial rfl ?_
 exact ac aa (rs := [.tmp 10]) rfl rfl rfl
 replace hd := (bL hd)
 replace h := h.2 hd
 refine gR 8 rfl ?_
 obtain ⟨t0_5, n0_6, hs17, h⟩ := h
 refine gC0 hs17 (by kernel_rfl) rfl rfl .rfl rfl ?_
 refine gR 13 rfl ?_
 obtain ⟨t0_7, n0_8, hs18, h⟩ := h
 refine gC0 hs18 (by kernel_rfl) rfl rfl .rfl rfl ?_
 refine gR 9 rfl ?_
 refine gDs [3, 4] 9 38 rfl (by kernel_rfl) (by kernel_rfl) ?_
 obtain ⟨b0_9, hs19, h⟩ := h
 refine br 0 hs19 (by kernel_rfl) rfl (by kernel_rfl) rfl rfl .rfl rfl rfl ?_
 refine gDr [(1, 0)] (by kernel_rfl) rfl rfl ?_
 refine gB 41 rfl rfl rfl (fun hd => ?_) (fun hd => ?_)
 refine gT 40 rfl hd rfl ?_
 replace h := h.1 hd
 refine gDr [(2, 2), (3, 0), (4, 0), (5, 0), (6, 0)] (by kernel_rfl) rfl rfl ?_
 refine gB 46 rfl rfl rfl (fun hd => ?_) (fun hd => ?_)
 refine gT 45 rfl hd rfl ?_
 replace hd := (eq_of_beq hd)
 replace h := h.1 hd
 refine gDr [(7, 3), (8, 0)] (by kernel_rfl) rfl rfl ?_
 obtain ⟨b0_10, hs20, h⟩ := h
 refine br 9 hs20 (by kernel_rfl) rfl (by kernel_rfl) rfl rfl .rfl rfl rfl ?_
 refine gDr [(10, 1), (11, 1)] (by kernel_rfl) rfl rfl ?_
 refine gB 51 rfl rfl rfl (fun hd => ?_) (fun hd => ?_)
 refine gT 50 rfl hd rfl ?_
 replace h := h.1 hd
 refine gDr [(12, 2), (13, 2), (14, 2), (16, 2), (17, 2), (18, 2)] (by kernel_rfl) rfl rfl ?_
 obtain ⟨b0_11, hs21, h⟩ := h
 refine br 15 hs21 (by kernel_rfl) rfl (by kernel_rfl) rfl rfl .rfl rfl rfl ?_
 obtain ⟨b0_12, hs22, h⟩ := h
 refine br 19 hs22 (by kernel_rfl) rfl (by kernel_rfl) rfl rfl .rfl rfl rfl ?_
 refine gDr [(20, 1), (21, 1), (22, 1)] (by kernel_rfl) rfl rfl ?_
 refine gB 62 rfl rfl rfl (fun hd => ?_) (fun hd => ?_)
 refine gT 61 rfl hd rfl ?_
 replace hd := (eq_of_beq hd)
 replace h := h.1 hd
 refine gDr [(23, 2), (24, 2), (25, 2), (26, 2), (27, 2), (29, 2), (30, 2), (31, 2), (32, 2), (33, 2)] (by kernel_rfl) rfl rfl ?_
 obtain ⟨b0_13, hs23, h⟩ := h
 refine br 28 hs23 (by kernel_rfl) rfl (by kernel_rfl) rfl rfl .rfl rfl rfl ?_
 obtain ⟨b0_14, hs24, h⟩ := h
 refine br 34 hs24 (by kernel_rfl) rfl (by kernel_rfl) rfl rfl .rfl rfl rfl ?_
 refine gDr [(35, 1), (36, 1), (37, 1)] (by kernel_rfl) rfl rfl ?_
 refine gDe (by kernel_rfl) ?_
 refine gR 2 rfl ?_
 subst h
 refine ab (F' := (mkF 77 0 [(10, .bool (b0_13 == b0_14))])) (H' := ⟨0, []⟩) [] [] rfl hK ⟨⟨_, rfl, .rfl⟩, trivial⟩ trivial rfl ?_
 exact ac aa (rs := [.tmp 10]) rfl rfl rfl
 refine gF 61 rfl hd rfl ?_
 replace hd := (ne_of_beq_false hd)
 replace h := h.2 hd
 refine gDr [(23, 2), (24, 2), (25, 2), (26, 2), (27, 2), (29, 2), (30, 2), (31, 2), (32, 2), (33, 2), (28, 0), (34, 0), (35, 0), (36, 1), (37, 1)] (by kernel_rfl) rfl rfl ?_
 refine gDe (by kernel_rfl) ?_
 refine gR 2 rfl ?_
 subst h
 refine ab (F' := (mkF 77 0 [(10, .bool false)])) (H' := ⟨0, []⟩) [] [] rfl hK ⟨⟨_, rfl, .rfl⟩, trivial⟩ trivial rfl ?_
 exact ac aa (rs := [.tmp 10]) rfl rfl rfl
 refine gF 50 rfl hd rfl ?_
 replace h := h.2 hd
 refine gDr [(12, 2), (13, 2), (14, 2), (16, 2), (17, 2), (18, 2), (15, 0), (19, 0), (20, 0), (21, 1), (22, 1), (23, 2), (24, 2), (25, 2), (26, 2), (27, 2), (29, 2), (30, 2), (31, 2), (32, 2), (33, 2), (28, 0), (34, 0), (35, 0), (36, 1), (37, 1)] (by kernel_rfl) rfl rfl ?_
 refine gDe (by kernel_rfl) ?_
 refine gR 2 rfl ?_
 subst h
 refine ab (F' := (mkF 77 0 [(10, .bool false)])) (H' := ⟨0, []⟩) [] [] rfl hK ⟨⟨_, rfl, .rfl⟩, trivial⟩ trivial rfl ?_
 exact ac aa (rs := [.tmp 10]) rfl rfl rfl
 refine gF 45 rfl hd rfl ?_
 replace hd := (ne_of_beq_false hd)
 replace h := h.2 hd
 refine gDr [(7, 2), (8, 0), (9, 0), (10, 1), (11, 1), (12, 2), (13, 2), (14, 2), (16, 2), (17, 2), (18, 2), (15, 0), (19, 0), (20, 0), (21, 1), (22, 1), (23, 2), (24, 2), (25, 2), (26, 2), (27, 2), (29, 2), (30, 2), (31, 2), (32, 2), (33, 2), (28, 0), (34, 0), (35, 0), (36, 1), (37, 1)] (by kernel_rfl) rfl rfl ?_
 refine gDe (by kernel_rfl) ?_
 refine gR 2 rfl ?_
 subst h
 refine ab (F' := (mkF 77 0 [(10, .bool false)])) (H' := ⟨0, []⟩) [] [] rfl hK ⟨⟨_, rfl, .rfl⟩, trivial⟩ trivial rfl ?_
 exact ac aa (rs := [.tmp 10]) rfl rfl rfl
 refine gF 40 rfl hd rfl ?_
 replace h := h.2 hd
 refine gDr [(2, 2), (3, 0), (4, 0), (5, 0), (6, 0), (7, 2), (8, 0), (9, 0), (10, 1), (11, 1), (12, 2), (13, 2), (14, 2), (16, 2), (17, 2), (18, 2), (15, 0), (19, 0), (20, 0), (21, 1), (22, 1), (23, 2), (24, 2), (25, 2), (26, 2), (27, 2), (29, 2), (30, 2), (31, 2), (32, 2), (33, 2), (28, 0), (34, 0), (35, 0), (36, 1), (37, 1)] (by kernel_rfl) rfl rfl ?_
 refine gDe (by kernel_rfl) ?_
 refine gR 2 rfl ?_
 subst h
 refine ab (F' := (mkF 77 0 [(10, .bool false)])) (H' := ⟨0, []⟩) [] [] rfl hK ⟨⟨_, rfl, .rfl⟩, trivial⟩ trivial rfl ?_
 exact ac aa (rs := [.tmp 10]) rfl rfl rfl
def bK (m : Nat) (r0_3 : (List Tree)) (i1v1 : Nat) (r0 : Bool) : Prop := ∀ (K : Ctx) (j1 : Nat), au K [] → m ≤ j1 → Go Tryz.prog K (bodyPost Tryz.prog Tryz.f3 (SP K (fun u _ => u = .bool r0))) (.code (cL (cK (cB (cA (cB (cB (cB (ae Tryz.f3))))))))) [.loop (cL (cK (cB (cA (cB (cB (cB (ae Tryz.f3)))))))) j1, .blk 0, .seq (cB (cB (cB (cB (ae Tryz.f3)))))] 84 (mkF 84 0 [(3, .row 4 (kidsV r0_3)), (4, .int .i64 ((i1v1 : Nat) : Int))]) ⟨0, []⟩
def cc (m : Nat) (r0_3 : (List Tree)) (i2v1 : Nat) (i2v2 : Nat) (r0 : Bool) : Prop := ∀ (K : Ctx) (j1 : Nat) (j2 : Nat), au K [] → m ≤ j1 → m ≤ j2 → Go Tryz.prog K (bodyPost Tryz.prog Tryz.f3 (SP K (fun u _ => u = .bool r0))) (.code (cL (cK (cB (cA (cK (cA (cB (cL (cK (cB (cA (cB (cB (cB (ae Tryz.f3)))))))))))))))) [.loop (cL (cK (cB (cA (cK (cA (cB (cL (cK (cB (cA (cB (cB (cB (ae Tryz.f3))))))))))))))) j1, .blk 2, .seq (cB (cK (cA (cB (cL (cK (cB (cA (cB (cB (cB (ae Tryz.f3)))))))))))), .blk 1, .seq (cB (cB (cL (cK (cB (cA (cB (cB (cB (ae Tryz.f3)))))))))), .loop (cL (cK (cB (cA (cB (cB (cB (ae Tryz.f3)))))))) j2, .blk 0, .seq (cB (cB (cB (cB (ae Tryz.f3)))))] 84 (mkF 84 0 [(3, .row 4 (kidsV r0_3)), (4, .int .i64 ((i2v2 : Nat) : Int)), (5, .int .i64 ((i2v1 : Nat) : Int))]) ⟨0, []⟩
def cN (m : Nat) (r0_3 : (List Tree)) (r2_5 : (List Tree)) (i3v1 : Nat) (i3v2 : Nat) (r0 : Bool) : Prop := ∀ (K : Ctx) (j1 : Nat) (j2 : Nat), au K [] → m ≤ j1 → m ≤ j2 → Go Tryz.prog K (bodyPost Tryz.prog Tryz.f3 (SP K (fun u _ => u = .bool r0))) (.code (cL (cK (cB (cB (cB (cK (cA (cB (cL (cK (cB (cA (cB (cB (cB (ae Tryz.f3))))))))))))))))) [.loop (cL (cK (cB (cB (cB (cK (cA (cB (cL (cK (cB (cA (cB (cB (cB (ae Tryz.f3)))))))))))))))) j1, .blk 4, .blk 1, .seq (cB (cB (cL (cK (cB (cA (cB (cB (cB (ae Tryz.f3)))))))))), .loop (cL (cK (cB (cA (cB (cB (cB (ae Tryz.f3)))))))) j2, .blk 0, .seq (cB (cB (cB (cB (ae Tryz.f3)))))] 84 (mkF 84 0 [(3, .row 4 (kidsV r0_3)), (4, .int .i64 ((i3v2 : Nat) : Int)), (6, .row 4 (kidsV r2_5)), (7, .int .i64 ((i3v1 : Nat) : Int))]) ⟨0, []⟩
theorem gA (m : Nat) (p0 : (List Int)) (r0 : Bool) (h : ∃ (b0_1 : Bool), iL p0 b0_1 ∧ ((b0_1 = false) → ∃ (b0_2 : Bool), cu b0_2 ∧ b0_2 = r0) ∧ ((b0_1 = true) → ∃ (r0_3 : (List Tree)), hI p0 r0_3 ∧ bK m r0_3 0 r0)) : gL p0 r0 := by
 refine ⟨rfl, rfl, ?_⟩
 refine ak 84 [] Tryz.func3 rfl rfl rfl (aA rfl) fun K hK => ?_
 refine gR 9 rfl ?_
 obtain ⟨b0_1, hs40, h⟩ := h
 refine gC0 hs40 (by kernel_rfl) rfl rfl .rfl rfl ?_
 refine gR 3 rfl ?_
 refine gB 14 rfl rfl rfl (fun hd => ?_) (fun hd => ?_)
 replace hd := (bM hd)
 replace h := h.1 hd
 refine gR 3 rfl ?_
 obtain ⟨b0_2, hs41, h⟩ := h
 refine gC0 hs41 (by kernel_rfl) rfl rfl .rfl rfl ?_
 refine gR 5 rfl ?_
 subst h
 refine ab (F' := (mkF 84 0 [(2, .bool b0_2)])) (H' := ⟨0, []⟩) [] [] rfl hK ⟨⟨_, rfl, .rfl⟩, trivial⟩ trivial rfl ?_
 exact ac aa (rs := [.tmp 2]) rfl rfl rfl
 replace hd := (bL hd)
 replace h := h.2 hd
 refine gR 6 rfl ?_
 obtain ⟨r0_3, hs42, h⟩ := h
 refine gC0 hs42 (by kernel_rfl) rfl rfl .rfl rfl ?_
 refine gR 10 rfl ?_
 refine go_loop m ?_
 exact gJ (h K _ hK (by omega)) [] [] rfl hK ⟨⟨_, rfl, .rfl⟩, ⟨_, rfl, .rfl⟩, trivial⟩ trivial rfl
theorem dQ (m : Nat) (r0_3 : (List Tree)) (i1v1 : Nat) (r0 : Bool) (h : ((i1v1 < r0_3.length) → cc m r0_3 0 i1v1 r0) ∧ ((¬ i1v1 < r0_3.length) → ∃ (b1_1 : Bool), cu b1_1 ∧ b1_1 = r0)) : bK (m + 1) r0_3 i1v1 r0 := by
 intro K j1 hK hj1
 obtain ⟨j1, rfl⟩ : ∃ j, j1 = j + 1 := ⟨j1 - 1, by omega⟩
 refine gR 6 rfl ?_
 refine gV 20 (.int .i64 ((r0_3.length : Nat) : Int)) rfl (bc (aD _)) rfl ?_
 refine gLB 19 rfl (aD _) fun hl43 => ?_
 refine gR 3 rfl ?_
 refine gB 21 rfl rfl rfl (fun hd => ?_) (fun hd => ?_)
 replace hd := (cO hd)
 replace h := h.1 hd
 refine gR 12 rfl ?_
 refine go_loop m ?_
 exact gJ (h K _ _ hK (by omega) (by omega)) [] [] rfl hK ⟨⟨_, rfl, .rfl⟩, ⟨_, rfl, .rfl⟩, ⟨_, rfl, .rfl⟩, trivial⟩ trivial rfl
 replace hd := (cI hd)
 replace h := h.2 hd
 refine gR 3 rfl ?_
 refine av ?_
 refine gR 4 rfl ?_
 obtain ⟨b1_1, hs44, h⟩ := h
 refine gC0 hs44 (by kernel_rfl) rfl rfl .rfl rfl ?_
 refine gR 4 rfl ?_
 subst h
 refine ab (F' := (mkF 84 0 [(2, .bool b1_1)])) (H' := ⟨0, []⟩) [] [] rfl hK ⟨⟨_, rfl, .rfl⟩, trivial⟩ trivial rfl ?_
 exact ac aa (rs := [.tmp 2]) rfl rfl rfl
theorem gm (m : Nat) (r0_3 : (List Tree)) (i2v1 : Nat) (i2v2 : Nat) (r0 : Bool) (h : ∃ (t2_1 : Tree), r0_3[i2v2]? = some t2_1 ∧ ((i2v1 < t2_1.kids.length) → ∃ (b2_2 : Bool), dh r0_3 ((i2v2 : Nat) : Int) ((i2v1 : Nat) : Int) b2_2 ∧ ∃ (b2_3 : Bool), ef r0_3 ((i2v2 : Nat) : Int) ((i2v1 : Nat) : Int) b2_3 ∧ ((b2_2 ≠ b2_3) → false = r0) ∧ ((b2_2 = b2_3) → cc m r0_3 (i2v1 + 1) i2v2 r0)) ∧ ((¬ i2v1 < t2_1.kids.length) → ∃ (t2_4 : Tree), r0_3[i2v2]? = some t2_4 ∧ ∃ (r2_5 : (List Tree)), fF t2_4 r2_5 ∧ cN m r0_3 r2_5 0 i2v2 r0)) : cc (m + 1) r0_3 i2v1 i2v2 r0 := by
 intro K j1 j2 hK hj1 hj2
 obtain ⟨j1, rfl⟩ : ∃ j, j1 = j + 1 := ⟨j1 - 1, by omega⟩
 obtain ⟨j2, rfl⟩ : ∃ j, j2 = j + 1 := ⟨j2 - 1, by omega⟩
 refine gR 6 rfl ?_
 obtain ⟨t2_1, hxt2_1, h⟩ := h
 refine gY (aK (am hxt2_1) aa rfl rfl rfl rfl) rfl rfl ?_
 refine gR 3 rfl ?_
 refine gV 30 (.int .i64 ((t2_1.kids.length : Nat) : Int)) rfl (bc (aD _)) rfl ?_
 refine gLB 29 rfl (aD _) fun hl45 => ?_
 refine gR 3 rfl ?_
 refine gB 31 rfl rfl rfl (fun hd => ?_) (fun hd => ?_)
 replace hd := (cO hd)
 replace h := h.1 hd
 refine gR 10 rfl ?_
 obtain ⟨b2_2, hs46, h⟩ := h
 refine gC0 hs46 (by kernel_rfl) rfl rfl .rfl rfl ?_
 refine gR 3 rfl ?_
 obtain ⟨b2_3, hs47, h⟩ := h
 refine gC0 hs47 (by kernel_rfl) rfl rfl .rfl rfl ?_
 refine gR 3 rfl ?_
 refine gB 42 rfl rfl rfl (fun hd => ?_) (fun hd => ?_)
 replace hd := (fe hd)
 replace h := h.1 hd
 refine gR 9 rfl ?_
 refine aM ?_
 refine gR 4 rfl ?_
 refine aM ?_
 refine gR 2 rfl ?_
 subst h
 refine ab (F' := (mkF 84 0 [(2, .bool false)])) (H' := ⟨0, []⟩) [] [] rfl hK ⟨⟨_, rfl, .rfl⟩, trivial⟩ trivial rfl ?_
 exact ac aa (rs := [.tmp 2]) rfl rfl rfl
 replace hd := (dA hd)
 replace h := h.2 hd
 refine gR 7 rfl ?_
 refine gV 33 (.int .i64 ((i2v1 + 1 : Nat) : Int)) rfl (ar (by have := hl45; omega) (by omega)) rfl ?_
 refine gR 2 rfl ?_
 refine aq ?_
 exact gJ (h K _ _ hK (by omega) (by omega)) [] [] rfl hK ⟨⟨_, rfl, .rfl⟩, ⟨_, rfl, .rfl⟩, ⟨_, rfl, .rfl⟩, trivial⟩ trivial rfl
 replace hd := (cI hd)
 replace h := h.2 hd
 refine gR 3 rfl ?_
 refine av ?_
 refine gR 6 rfl ?_
 obtain ⟨t2_4, hxt2_4, h⟩ := h
 refine gY (aK (am hxt2_4) aa rfl rfl rfl rfl) rfl rfl ?_
 refine gR 1 rfl ?_
 obtain ⟨r2_5, hs48, h⟩ := h
 refine gC0 hs48 (by kernel_rfl) rfl rfl .rfl rfl ?_
 refine gR 9 rfl ?_
 refine go_loop m ?_
 exact gJ (h K _ _ hK (by omega) (by omega)) [] [] rfl hK ⟨⟨_, rfl, .rfl⟩, ⟨_, rfl, .rfl⟩, ⟨_, rfl, .rfl⟩, ⟨_, rfl, .rfl⟩, trivial⟩ trivial rfl
theorem dR (m : Nat) (r0_3 : (List Tree)) (r2_5 : (List Tree)) (i3v1 : Nat) (i3v2 : Nat) (r0 : Bool) (h : ((i3v1 < r2_5.length) → ∃ (t3_1 : Tree), r2_5[i3v1]? = some t3_1 ∧ ∃ (t3_2 : Tree), ∃ (n3_3 : Int), dt r0_3 ((i3v2 : Nat) : Int) t3_1 t3_2 n3_3 ∧ ∃ (t3_4 : Tree), r2_5[i3v1]? = some t3_4 ∧ ∃ (t3_5 : Tree), ∃ (n3_6 : Int), cM r0_3 ((i3v2 : Nat) : Int) t3_4 t3_5 n3_6 ∧ ((n3_3 ≠ n3_6) → false = r0) ∧ ((n3_3 = n3_6) → ∃ (b3_7 : Bool), cf t3_2 t3_5 b3_7 ∧ ((b3_7 = false) → false = r0) ∧ ((b3_7 = true) → cN m r0_3 r2_5 (i3v1 + 1) i3v2 r0))) ∧ ((¬ i3v1 < r2_5.length) → i3v2 + 1 ≤ 9223372036854775807 ∧ bK m r0_3 (i3v2 + 1) r0)) : cN (m + 1) r0_3 r2_5 i3v1 i3v2 r0 := by
 intro K j1 j2 hK hj1 hj2
 obtain ⟨j1, rfl⟩ : ∃ j, j1 = j + 1 := ⟨j1 - 1, by omega⟩
 obtain ⟨j2, rfl⟩ : ∃ j, j2 = j + 1 := ⟨j2 - 1, by omega⟩
 refine gR 6 rfl ?_
 refine gV 50 (.int .i64 ((r2_5.length : Nat) : Int)) rfl (bc (aD _)) rfl ?_
 refine gLB 49 rfl (aD _) fun hl49 => ?_
 refine gR 3 rfl ?_
 refine gB 51 rfl rfl rfl (fun hd => ?_) (fun hd => ?_)
 replace hd := (cO hd)
 replace h := h.1 hd
 refine gR 11 rfl ?_
 obtain ⟨t3_1, hxt3_1, h⟩ := h
 refine gY (aK (am hxt3_1) aa rfl rfl rfl rfl) rfl rfl ?_
 refine gR 1 rfl ?_
 obtain ⟨t3_2, n3_3, hs50, h⟩ := h
 refine gC0 hs50 (by kernel_rfl) rfl rfl .rfl rfl ?_
 refine gR 14 rfl ?_
 obtain ⟨t3_4, hxt3_4, h⟩ := h
 refine gY (aK (am hxt3_4) aa rfl rfl rfl rfl) rfl rfl ?_
 refine gR 1 rfl ?_
 obtain ⟨t3_5, n3_6, hs51, h⟩ := h
 refine gC0 hs51 (by kernel_rfl) rfl rfl .rfl rfl ?_
 refine gR 14 rfl ?_
 refine gB 77 rfl rfl rfl (fun hd => ?_) (fun hd => ?_)
 refine gT 76 rfl hd rfl ?_
 replace hd := (fe hd)
 replace h := h.1 hd
 refine gR 16 rfl ?_
 refine aM ?_
 refine gR 3 rfl ?_
 refine aM ?_
 refine gR 2 rfl ?_
 subst h
 refine ab (F' := (mkF 84 0 [(2, .bool false)])) (H' := ⟨0, []⟩) [] [] rfl hK ⟨⟨_, rfl, .rfl⟩, trivial⟩ trivial rfl ?_
 exact ac aa (rs := [.tmp 2]) rfl rfl rfl
 refine gF 76 rfl hd rfl ?_
 replace hd := (dA hd)
 replace h := h.2 hd
 refine gR 2 rfl ?_
 obtain ⟨b3_7, hs52, h⟩ := h
 refine gC0 hs52 (by kernel_rfl) rfl rfl .rfl rfl ?_
 refine gR 4 rfl ?_
 refine gB 82 rfl rfl rfl (fun hd => ?_) (fun hd => ?_)
 replace hd := (bM hd)
 replace h := h.1 hd
 refine gR 9 rfl ?_
 refine aM ?_
 refine gR 3 rfl ?_
 refine aM ?_
 refine gR 2 rfl ?_
 subst h
 refine ab (F' := (mkF 84 0 [(2, .bool false)])) (H' := ⟨0, []⟩) [] [] rfl hK ⟨⟨_, rfl, .rfl⟩, trivial⟩ trivial rfl ?_
 exact ac aa (rs := [.tmp 2]) rfl rfl rfl
 replace hd := (bL hd)
 replace h := h.2 hd
 refine gR 7 rfl ?_
 refine gV 53 (.int .i64 ((i3v1 + 1 : Nat) : Int)) rfl (ar (by have := hl49; omega) (by omega)) rfl ?_
 refine gR 2 rfl ?_
 refine aq ?_
 exact gJ (h K _ _ hK (by omega) (by omega)) [] [] rfl hK ⟨⟨_, rfl, .rfl⟩, ⟨_, rfl, .rfl⟩, ⟨_, rfl, .rfl⟩, ⟨_, rfl, .rfl⟩, trivial⟩ trivial rfl
 replace hd := (cI hd)
 replace h := h.2 hd
 refine gR 3 rfl ?_
 refine av ?_
 refine gR 5 rfl ?_
 obtain ⟨hb, h⟩ := h
 refine gR 1 rfl ?_
 refine gV 23 (.int .i64 ((i3v2 + 1 : Nat) : Int)) rfl (ar (by omega) (by omega)) rfl ?_
 refine gR 2 rfl ?_
 refine aq ?_
 exact gJ (h K _ hK (by omega)) [] [] rfl hK ⟨⟨_, rfl, .rfl⟩, ⟨_, rfl, .rfl⟩, trivial⟩ trivial rfl
theorem nL (m : Nat) (r0 : Bool) (h : ∃ (t0_1 : Tree), ∃ (n0_2 : Int), ∃ (n0_3 : Int), mZ [109, 111, 100, 117, 108, 101, 32, 65, 32, 116, 121, 112, 101, 32, 84, 32, 61, 32, 91, 66, 46, 85, 93] t0_1 n0_2 n0_3 ∧ ∃ (t0_4 : Tree), ∃ (n0_5 : Int), ∃ (n0_6 : Int), mZ [109, 111, 100, 117, 108, 101, 32, 66, 32, 116, 121, 112, 101, 32, 85, 32, 61, 32, 73, 110, 116, 32, 116, 121, 112, 101, 32, 86, 32, 61, 32, 86] t0_4 n0_5 n0_6 ∧ ∃ (t0_7 : Tree), ∃ (n0_8 : Int), dt [t0_1, t0_4] 0 (Tree.node 9 [84] [] []) t0_7 n0_8 ∧ ∃ (t0_9 : Tree), ∃ (n0_10 : Int), dt [t0_1, t0_4] 1 (Tree.node 9 [86] [] []) t0_9 n0_10 ∧ ((n0_3 = 0) → ((n0_6 = 0) → ((n0_8 = 0) → ((t0_7.kind = 8) → ((((t0_7.kids.length : Nat) : Int) = 1) → ∃ (t0_11 : Tree), t0_7.kids[0]? = some t0_11 ∧ ((t0_11.kind = 5) → ((n0_10 = 19) → ∃ (b0_12 : Bool), dh [t0_1, t0_4] 1 1 b0_12 ∧ ((b0_12 = true) → ∃ (b0_13 : Bool), dh [t0_1, t0_4] 1 0 b0_13 ∧ (!b0_13) = r0) ∧ ((b0_12 = false) → false = r0)) ∧ ((n0_10 ≠ 19) → false = r0)) ∧ ((t0_11.kind ≠ 5) → false = r0)) ∧ ((((t0_7.kids.length : Nat) : Int) ≠ 1) → false = r0)) ∧ ((t0_7.kind ≠ 8) → false = r0)) ∧ ((n0_8 ≠ 0) → false = r0)) ∧ ((n0_6 ≠ 0) → false = r0)) ∧ ((n0_3 ≠ 0) → false = r0)) : ke r0 := by
 refine ⟨rfl, rfl, ?_⟩
 refine ak 79 [] Tryz.func7 rfl rfl rfl (aA rfl) fun K hK => ?_
 refine gR 7 rfl ?_
 obtain ⟨t0_1, n0_2, n0_3, hs8, h⟩ := h
 refine gC0 hs8 (by kernel_rfl) rfl rfl .rfl rfl ?_
 refine gR 12 rfl ?_
 obtain ⟨t0_4, n0_5, n0_6, hs9, h⟩ := h
 refine gC0 hs9 (by kernel_rfl) rfl rfl .rfl rfl ?_
 refine gR 15 rfl ?_
 refine gHR 2 (kidsV [t0_1, t0_4]) rfl (pE [t0_1, t0_4]) rfl ?_
 refine gR 7 rfl ?_
 refine gFR 2 rfl (co _) rfl rfl ?_
 obtain ⟨t0_7, n0_8, hs10, h⟩ := h
 refine gC0 hs10 (by kernel_rfl) rfl rfl (.cons .rfl (.cons .rfl (.cons (.agg (.cons .rfl (.cons .rfl (.cons (.nil 1) (.cons (.nil 4) .nil))))) .nil))) rfl ?_
 refine gR 12 rfl ?_
 obtain ⟨t0_9, n0_10, hs11, h⟩ := h
 refine gC0 hs11 (by kernel_rfl) rfl rfl (.cons .rfl (.cons .rfl (.cons (.agg (.cons .rfl (.cons .rfl (.cons (.nil 1) (.cons (.nil 4) .nil))))) .nil))) rfl ?_
 refine gR 8 rfl ?_
 refine ab (F' := (mkF 79 0 [(3, .int .i64 n0_3), (6, .int .i64 n0_6), (7, .row 4 (kidsV [t0_1, t0_4])), (8, .ptr 0 0), (9, .int .i64 n0_8), (11, .int .i64 n0_10)])) (H' := ⟨1, [(0, .var 29 (ai t0_7))]⟩) [3] [] rfl hK ⟨⟨_, rfl, .rfl⟩, ⟨_, rfl, .rfl⟩, ⟨_, rfl, .rfl⟩, ⟨_, rfl, .rfl⟩, ⟨_, rfl, .rfl⟩, ⟨_, rfl, .rfl⟩, trivial⟩ ⟨⟨_, rfl, ⟨rfl, ah.rfl⟩⟩, trivial⟩ rfl ?_
 refine gR 5 rfl ?_
 refine gB 39 rfl rfl rfl (fun hd => ?_) (fun hd => ?_)
 refine gT 38 rfl hd rfl ?_
 replace hd := (eq_of_beq hd)
 replace h := h.1 hd
 refine gR 4 rfl ?_
 refine gB 43 rfl rfl rfl (fun hd => ?_) (fun hd => ?_)
 refine gT 42 rfl hd rfl ?_
 replace hd := (eq_of_beq hd)
 replace h := h.1 hd
 refine gR 4 rfl ?_
 refine gB 47 rfl rfl rfl (fun hd => ?_) (fun hd => ?_)
 refine gT 46 rfl hd rfl ?_
 replace hd := (eq_of_beq hd)
 replace h := h.1 hd
 refine gR 5 rfl ?_
 refine gB 52 rfl rfl rfl (fun hd => ?_) (fun hd => ?_)
 refine gT 51 rfl hd rfl ?_
 replace hd := (eq_of_beq hd)
 replace h := h.1 hd
 refine gR 3 rfl ?_
 refine gV 55 (.int .i64 ((t0_7.kids.length : Nat) : Int)) rfl (bc (aD _)) rfl ?_
 refine gLB 54 rfl (aD _) fun hl12 => ?_
 refine gR 3 rfl ?_
 refine gB 58 rfl rfl rfl (fun hd => ?_) (fun hd => ?_)
 refine gT 57 rfl hd rfl ?_
 replace hd := (eq_of_beq hd)
 replace h := h.1 hd
 refine gR 2 rfl ?_
 obtain ⟨t0_11, hxt0_11, h⟩ := h
 refine gY (aK (am hxt0_11) aa rfl rfl rfl rfl) rfl rfl ?_
 refine gR 5 rfl ?_
 refine gB 66 rfl rfl rfl (fun hd => ?_) (fun hd => ?_)
 refine gT 65 rfl hd rfl ?_
 replace hd := (eq_of_beq hd)
 replace h := h.1 hd
 refine gR 4 rfl ?_
 refine gB 70 rfl rfl rfl (fun hd => ?_) (fun hd => ?_)
 refine gT 69 rfl hd rfl ?_
 replace hd := (eq_of_beq hd)
 replace h := h.1 hd
 refine gR 1 rfl ?_
 obtain ⟨b0_12, hs13, h⟩ := h
 refine gC0 hs13 (by kernel_rfl) rfl rfl .rfl rfl ?_
 refine gR 2 rfl ?_
 refine gB 74 rfl rfl rfl (fun hd => ?_) (fun hd => ?_)
 refine gT 73 rfl hd rfl ?_
 replace h := h.1 hd
 refine gR 1 rfl ?_
 obtain ⟨b0_13, hs14, h⟩ := h
 refine gC0 hs14 (by kernel_rfl) rfl rfl .rfl rfl ?_
 refine gR 6 rfl ?_
 subst h
 refine ab (F' := (mkF 79 0 [(0, .bool (!b0_13))])) (H' := ⟨0, []⟩) [] [] rfl hK ⟨⟨_, rfl, .rfl⟩, trivial⟩ trivial rfl ?_
 exact ac aa (rs := [.tmp 0]) rfl rfl rfl
 refine gF 73 rfl hd rfl ?_
 replace h := h.2 hd
 refine gR 8 rfl ?_
 subst h
 refine ab (F' := (mkF 79 0 [(0, .bool false)])) (H' := ⟨0, []⟩) [] [] rfl hK ⟨⟨_, rfl, .rfl⟩, trivial⟩ trivial rfl ?_
 exact ac aa (rs := [.tmp 0]) rfl rfl rfl
 refine gF 69 rfl hd rfl ?_
 replace hd := (ne_of_beq_false hd)
 replace h := h.2 hd
 refine gR 12 rfl ?_
 subst h
 refine ab (F' := (mkF 79 0 [(0, .bool false)])) (H' := ⟨0, []⟩) [] [] rfl hK ⟨⟨_, rfl, .rfl⟩, trivial⟩ trivial rfl ?_
 exact ac aa (rs := [.tmp 0]) rfl rfl rfl
 refine gF 65 rfl hd rfl ?_
 replace hd := (ne_of_beq_false hd)
 replace h := h.2 hd
 refine gR 16 rfl ?_
 subst h
 refine ab (F' := (mkF 79 0 [(0, .bool false)])) (H' := ⟨0, []⟩) [] [] rfl hK ⟨⟨_, rfl, .rfl⟩, trivial⟩ trivial rfl ?_
 exact ac aa (rs := [.tmp 0]) rfl rfl rfl
 refine gF 57 rfl hd rfl ?_
 replace hd := (ne_of_beq_false hd)
 replace h := h.2 hd
 refine gR 24 rfl ?_
 subst h
 refine ab (F' := (mkF 79 0 [(0, .bool false)])) (H' := ⟨0, []⟩) [] [] rfl hK ⟨⟨_, rfl, .rfl⟩, trivial⟩ trivial rfl ?_
 exact ac aa (rs := [.tmp 0]) rfl rfl rfl
 refine gF 51 rfl hd rfl ?_
 replace hd := (ne_of_beq_false hd)
 replace h := h.2 hd
 refine gR 30 rfl ?_
 subst h
 refine ab (F' := (mkF 79 0 [(0, .bool false)])) (H' := ⟨0, []⟩) [] [] rfl hK ⟨⟨_, rfl, .rfl⟩, trivial⟩ trivial rfl ?_
 exact ac aa (rs := [.tmp 0]) rfl rfl rfl
 refine gF 46 rfl hd rfl ?_
 replace hd := (ne_of_beq_false hd)
 replace h := h.2 hd
 refine gR 35 rfl ?_
 subst h
 refine ab (F' := (mkF 79 0 [(0, .bool false)])) (H' := ⟨0, []⟩) [] [] rfl hK ⟨⟨_, rfl, .rfl⟩, trivial⟩ trivial rfl ?_
 exact ac aa (rs := [.tmp 0]) rfl rfl rfl
 refine gF 42 rfl hd rfl ?_
 replace hd := (ne_of_beq_false hd)
 replace h := h.2 hd
 refine gR 39 rfl ?_
 subst h
 refine ab (F' := (mkF 79 0 [(0, .bool false)])) (H' := ⟨0, []⟩) [] [] rfl hK ⟨⟨_, rfl, .rfl⟩, trivial⟩ trivial rfl ?_
 exact ac aa (rs := [.tmp 0]) rfl rfl rfl
 refine gF 38 rfl hd rfl ?_
 replace hd := (ne_of_beq_false hd)
 replace h := h.2 hd
 refine gR 43 rfl ?_
 subst h
 refine ab (F' := (mkF 79 0 [(0, .bool false)])) (H' := ⟨0, []⟩) [] [] rfl hK ⟨⟨_, rfl, .rfl⟩, trivial⟩ trivial rfl ?_
 exact ac aa (rs := [.tmp 0]) rfl rfl rfl
end Go.Proofs.YtiknldgpnhikhaaGreat
namespace Go.Proofs.YtiknldgpnhikhaaGreat
open Go.RowKit Lx Sx
set_option maxRecDepth 100000
set_option maxHeartbeats 1000000
theorem yh : lE [] [] true := q9 1 _ _ _ ⟨fun h => absurd rfl h, fun _ => qm 0 _ _ _ _ ⟨fun h => by simp at h, fun _ => rfl⟩⟩
theorem sE {k k' : Int} (h8 : k ≠ 8) (h8' : k' ≠ 8) : ∀ n n' : Nat, ∃ b, jo (bH n (.node k [] [] [])) (bH n' (.node k' [] [] [])) b ∧ cf (bH n (.node k [] [] [])) (bH n' (.node k' [] [] [])) b ∧ (n = n' → k = k' → b = true)
  | 0, 0 => by
    by_cases e : k = k'
    · subst e
      exact ⟨true, iR 1 _ _ _ ⟨fun h => absurd rfl h, fun _ => ⟨fun h => absurd rfl h, fun _ => ⟨fun h => absurd rfl h, fun _ => ⟨_, yh, fun h => (by cases h), fun _ => l9 0 _ _ _ _ ⟨fun h => by simp [bH, Tree.kids] at h, fun _ => rfl⟩⟩⟩⟩⟩, d5 1 _ _ _ ⟨fun h => absurd rfl h, fun _ => ⟨fun h => absurd rfl h, fun _ => ⟨_, qe [], fun h => (by cases h), fun _ => ⟨fun h => absurd rfl h, fun _ => hD 0 _ _ _ _ ⟨fun h => by simp [bH, Tree.kids] at h, fun _ => rfl⟩⟩⟩⟩⟩, fun _ _ => rfl⟩
    · exact ⟨false, iR 0 _ _ _ ⟨fun _ => rfl, fun h => absurd h e⟩, d5 0 _ _ _ ⟨fun _ => rfl, fun h => absurd h e⟩, fun _ h => absurd h e⟩
  | 0, n' + 1 => ⟨false, iR 0 _ _ _ ⟨fun _ => rfl, fun h => absurd h h8⟩, d5 0 _ _ _ ⟨fun _ => rfl, fun h => absurd h h8⟩, fun h => by cases h⟩
  | n + 1, 0 => ⟨false, iR 0 _ _ _ ⟨fun _ => rfl, fun h => absurd h.symm h8'⟩, d5 0 _ _ _ ⟨fun _ => rfl, fun h => absurd h.symm h8'⟩, fun h => by cases h⟩
  | n + 1, n' + 1 => by
    obtain ⟨b, h1, h2, h3⟩ := sE h8 h8' n n'
    refine ⟨b, iR 2 _ _ _ ⟨fun h => absurd rfl h, fun _ => ⟨fun h => absurd rfl h, fun _ => ⟨fun h => absurd rfl h, fun _ => ⟨_, yh, fun h => (by cases h), fun _ => l9 1 _ _ _ _ ⟨fun _ => ⟨_, rfl, _, rfl, b, h1, fun h => h.symm, fun h => ⟨by omega, ?_⟩⟩, fun h => by simp [bH, Tree.kids] at h⟩⟩⟩⟩⟩, d5 2 _ _ _ ⟨fun h => absurd rfl h, fun _ => ⟨fun h => absurd rfl h, fun _ => ⟨_, qe [], fun h => (by cases h), fun _ => ⟨fun h => absurd rfl h, fun _ => hD 1 _ _ _ _ ⟨fun _ => ⟨_, rfl, _, rfl, b, h2, fun h => h.symm, fun h => ?_⟩, fun h => by simp [bH, Tree.kids] at h⟩⟩⟩⟩⟩, fun e => h3 (by omega)⟩
    · exact l9 0 _ _ _ _ ⟨fun h => by simp [bH, Tree.kids] at h, fun _ => h.symm⟩
    · exact hD 0 _ _ _ _ ⟨fun h => by simp [bH, Tree.kids] at h, fun _ => h.symm⟩
def pS (B : Nat) (x : Tree × Int) : Prop := ∃ (n : Nat) (k : Int), x.1 = bH n (.node k [] [] []) ∧ k ≠ 8 ∧ k ≠ 9 ∧ (x.2 = 0 → 5 ≤ k ∧ k ≤ 7) ∧ n ≤ B
theorem w4 {B : Nat} {e : Int} (he : e ≠ 0) : pS B (lN, e) := ⟨0, 0, rfl, by decide, by decide, fun h => absurd h he, Nat.zero_le _⟩
theorem sL {p : List Tree} (hp : bG p = true) {B : Nat} : ∀ (f : Nat) (seen : List (Int × Int)) (n : Nat) (M : Int) (u : Tree), jD p seen → kbulk p + 1 ≤ f + seen.length → tyK u → u.kind ≠ 8 → n ≤ B + eT (me p) seen → pS (B + kbulk p) (fM p f seen n M u)
  | 0, seen, n, M, u, hs, hf, _, _, _ => by
    have := jT hs; omega
  | f + 1, seen, n, M, u, hs, hf, hu, h8, hn => by
    have hss := qD hs
    by_cases h9 : u.kind = 9
    · rw [fM, if_pos h9]
      by_cases hfd : (aY p M u.text).2.2 = false
      · rw [if_pos hfd]
        exact w4 (by decide)
      · rw [if_neg hfd]
        have hfd' : (aY p M u.text).2.2 = true := by simpa using hfd
        obtain ⟨i, d, t, a, b', g1, g2, g3, g4, g5, g6, g7⟩ := mu hp h9 hu.1 hfd'
        rw [g1, g2]
        by_cases hm : ((i : Int), (d : Int)) ∈ seen
        · rw [if_pos hm]
          exact w4 (by decide)
        · rw [if_neg hm]
          have hal := mA g3 g4 g6
          rw [hal]
          obtain ⟨t1, t2, _⟩ := j4 b' g7
          exact sL hp f (((i : Int), (d : Int)) :: seen) (n + lisK b') i (leafK b') (ji hs g3 g4 hm) (by simp only [List.length_cons]; omega) t1 t2 (by simp only [eT, me, hal]; omega)
    · rw [fM, if_neg h9]
      have := hu.2
      have hk : 5 ≤ u.kind ∧ u.kind ≤ 9 := by simpa [ga] using hu.2
      exact ⟨n, u.kind, rfl, h8, h9, fun _ => by omega, by omega⟩
theorem oX (p : List Tree) (M : Int) (t : Tree) : pS (tbulk t + kbulk p) (fo p M t) := by
  unfold fo
  split
  · rename_i hG
    obtain ⟨t1, t2, _⟩ := j4 t ⟨hG.2.2.2.2, hG.2.2.2.1⟩
    obtain ⟨b1, b2⟩ := iZ t
    exact sL hG.1 _ _ _ _ _ ⟨List.nodup_nil, fun x h => by cases h⟩ (by simp) t1 t2 (by simp only [eT]; omega)
  · exact w4 (by decide)
theorem sv {B : Nat} {x y : Tree × Int} (hx : pS B x) (hy : pS B y) : ∃ b, jo x.1 y.1 b ∧ cf x.1 y.1 b ∧ (x.1 = y.1 → b = true) := by
  obtain ⟨n, k, e, h8, _⟩ := hx
  obtain ⟨n', k', e', h8', _⟩ := hy
  obtain ⟨b, h1, h2, h3⟩ := sE h8 h8' n n'
  rw [e, e']
  refine ⟨b, h1, h2, fun h => ?_⟩
  have inj : ∀ n n' : Nat, bH n (.node k [] [] []) = bH n' (.node k' [] [] []) → n = n' ∧ k = k' := fun n => by
    induction n with
    | zero =>
      intro n' h
      cases n' with
      | zero => simp only [bH, Tree.node.injEq] at h; exact ⟨rfl, h.1⟩
      | succ n' => simp only [bH, Tree.node.injEq] at h; exact absurd h.1 h8
    | succ n ih =>
      intro n' h
      cases n' with
      | zero => simp only [bH, Tree.node.injEq] at h; exact absurd h.1.symm h8'
      | succ n' =>
        simp only [bH, Tree.node.injEq, List.cons.injEq, and_true, true_and] at h
        obtain ⟨a1, a2⟩ := ih n' h
        exact ⟨by omega, a2⟩
  exact h3 (inj n n' h).1 (inj n n' h).2
theorem yy {p : List Tree} (hb : kbulk p ≤ 10000000) (M N : Int) {t u : Tree} (ht : tbulk t ≤ 10000000) (hu : tbulk u ≤ 10000000) : ∃ b, mb p M t N u b ∧ ip p M t N u b ∧ (fo p M t = fo p N u → (fo p M t).2 = 0 → b = true) := by
  have f1 := oX p M t
  have f2 := oX p N u
  have e1 := lA hb M ht
  have e2 := lA hb N hu
  have r1 := ny hb M ht
  have r2 := ny hb N hu
  obtain ⟨b, hs, hr, hbt⟩ := sv (B := tbulk t + tbulk u + kbulk p) (x := fo p M t) (y := fo p N u) (by obtain ⟨n, k, a, b, c, d, e⟩ := f1; exact ⟨n, k, a, b, c, d, by omega⟩) (by obtain ⟨n, k, a, b, c, d, e⟩ := f2; exact ⟨n, k, a, b, c, d, by omega⟩)
  by_cases h1 : (fo p M t).2 = 0
  · by_cases h2 : (fo p N u).2 = 0
    · exact ⟨b, lF 0 _ _ _ _ _ _ ⟨_, _, e1, fun h => absurd h1 h, fun _ => ⟨_, _, e2, fun _ => ⟨_, hs, rfl⟩, fun h => absurd h2 h⟩⟩, gN 0 _ _ _ _ _ _ ⟨_, _, r1, _, _, r2, fun _ => ⟨fun _ => ⟨_, hr, rfl⟩, fun h => absurd h2 h⟩, fun h => absurd h1 h⟩, fun h _ => hbt (by rw [h])⟩
    · exact ⟨false, lF 0 _ _ _ _ _ _ ⟨_, _, e1, fun h => absurd h1 h, fun _ => ⟨_, _, e2, fun h => absurd h h2, fun _ => rfl⟩⟩, gN 0 _ _ _ _ _ _ ⟨_, _, r1, _, _, r2, fun _ => ⟨fun h => absurd h h2, fun _ => rfl⟩, fun h => absurd h1 h⟩, fun h h' => absurd (h ▸ h') h2⟩
  · exact ⟨false, lF 0 _ _ _ _ _ _ ⟨_, _, e1, fun _ => rfl, fun h => absurd h h1⟩, gN 0 _ _ _ _ _ _ ⟨_, _, r1, _, _, r2, fun h => absurd h h1, fun _ => rfl⟩, fun _ h => absurd h h1⟩
theorem su {B : Nat} {x : Tree × Int} (h : pS B x) : cf x.1 x.1 true := by
  obtain ⟨b, _, h2, h3⟩ := sv h h
  rw [h3 rfl] at h2; exact h2
theorem z8 : ∀ t : Tree, tbulk t ≤ 1000000000 → ∃ n : Int, f5 t n ∧ 0 ≤ n ∧ n ≤ tbulk t := cm fun t ih hb => by
  have he := bv t
  have loop : ∀ (k i : Nat) (z : Int), t.kids.length - i ≤ k → 0 ≤ z → z + kbulk (t.kids.drop i) ≤ tbulk t → ∃ n : Int, fH (k + 1) t z i n ∧ 0 ≤ n ∧ n ≤ tbulk t := fun k => by
    induction k with
    | zero =>
      intro i z hi h0 h1
      exact ⟨z, gW 0 _ _ _ _ ⟨fun h => by omega, fun _ => rfl⟩, h0, by omega⟩
    | succ k ihk =>
      intro i z hi h0 h1
      obtain ⟨u, hu, _⟩ | h' := aS t.kids i
      · have hbu := bE hu
        obtain ⟨n, hn, hn0, hn1⟩ := ih i u hu (by omega)
        rw [bO hu, kbulk] at h1
        obtain ⟨r, hr, hr0, hr1⟩ := ihk (i + 1) (z + n) (by omega) (by omega) (by omega)
        exact ⟨r, gW (k + 1) _ _ _ _ ⟨fun _ => ⟨u, hu, n, hn, by constructor <;> omega, hr⟩, fun h => by omega⟩, hr0, hr1⟩
      · exact ⟨z, gW (k + 1) _ _ _ _ ⟨fun h => absurd h h', fun _ => rfl⟩, h0, by omega⟩
  obtain ⟨n, hn, h0, h1⟩ := loop t.kids.length 0 1 (by omega) (by omega) (by rw [List.drop_zero]; omega)
  exact ⟨n, o7 _ _ _ hn, h0, h1⟩
theorem uy (p : List Tree) (hb : kbulk p ≤ 100000000) : ∃ b, fy p b := by
  obtain ⟨n, hn, _⟩ := z8 (.node 0 [] [] p) (by simp only [tbulk, lsum, List.length_nil]; omega)
  exact ⟨_, oT 0 _ _ ⟨n, hn, rfl⟩⟩
def ie (t : Tree) : List Tree := (nodK t []).map (·.2)
theorem zu : (∀ (t : Tree) (q r : List Int), (nodK t q).map (·.2) = (nodK t r).map (·.2)) := by
  have h : ∀ t : Tree, ∀ (q r : List Int), (nodK t q).map (·.2) = (nodK t r).map (·.2) := cm fun t ih q r => by
    rw [mw, mw, List.map_cons, List.map_cons]
    have go : ∀ (l : List Tree) (i : Nat), t.kids.drop i = l → (nodKs l q i).map (·.2) = (nodKs l r i).map (·.2) := fun l => by
      induction l with
      | nil => intro i _; rfl
      | cons x l ihl =>
        intro i hi
        have hx : t.kids[i]? = some x := by
          have : (t.kids.drop i)[0]? = some x := by rw [hi]; rfl
          simpa using this
        have hr : t.kids.drop (i + 1) = l := by
          have : (t.kids.drop i).drop 1 = l := by rw [hi]; rfl
          simpa [List.drop_drop] using this
        rw [nodKs, nodKs, List.map_append, List.map_append, ih i x hx _ (r ++ [(i : Int)]), ihl (i + 1) hr]
    rw [go t.kids 0 rfl]
  exact h
theorem z4 : ∀ t : Tree, tbulk t ≤ 1000000000 → fF t (ie t) := cm fun t ih hb => by
  have hk := dk t
  have hbe := bv t
  have loop : ∀ m i (l : List Tree), t.kids.length - i ≤ m → l.length + kbulk (t.kids.drop i) ≤ 1000000000 → fb (m + 1) t l i (l ++ (nodKs (t.kids.drop i) [] i).map (·.2)) := fun m => by
    induction m with
    | zero =>
      intro i l hi hl
      refine j0 0 _ _ _ _ ⟨fun h => by omega, fun h => ?_⟩
      rw [List.drop_of_length_le (by omega)]; simp [nodKs]
    | succ m ihm =>
      intro i l hi hl
      refine j0 (m + 1) _ _ _ _ ⟨fun h => ?_, fun h => ?_⟩
      · obtain ⟨u, hu, _⟩ | h' := aS t.kids i
        · have := bE hu
          have hln := nodK_len u []
          rw [bO hu, kbulk] at hl
          have hlen : (ie u).length ≤ tbulk u := by unfold ie; rw [List.length_map]; exact hln
          refine ⟨u, hu, _, ih i u hu (by omega), by rw [List.length_append]; omega, ?_⟩
          have := ihm (i + 1) (l ++ ie u) (by omega) (by rw [List.length_append]; omega)
          rw [bO hu, nodKs, List.map_append, zu u _ [], ← List.append_assoc]
          exact this
        · exact absurd h h'
      · rw [List.drop_of_length_le (by omega)]; simp [nodKs]
  have := loop t.kids.length 0 [t] (by omega) (by rw [List.drop_zero]; simp only [List.length_singleton]; omega)
  have e : ie t = [t] ++ (nodKs (t.kids.drop 0) [] 0).map (·.2) := by unfold ie; rw [mw, List.drop_zero]; rfl
  rw [e]
  exact oO _ _ _ this
theorem u4 {t u : Tree} (h : u ∈ ie t) : tbulk u ≤ tbulk t := by
  unfold ie at h
  rw [List.mem_map] at h
  obtain ⟨x, hx, rfl⟩ := h
  have := nodK_bnd t [] x hx
  simp at this
  omega
end Go.Proofs.YtiknldgpnhikhaaGreat
namespace Go.Proofs.YtiknldgpnhikhaaGreat
open Go.RowKit Lx Sx
set_option maxHeartbeats 1000000
def Dc (L : List Int) (a : Int) : Prop := 0 ≤ a ∧ a ≤ L.length ∧ L.length ≤ 1000000000
theorem B4 {a n : Int} (hn : 0 < n) (hn2 : n ≤ 1000000000) : ∃ r, jX a n r ∧ 0 ≤ r ∧ r < n := by
  have h1 := Int.lt_tmod_of_pos a hn
  have h2 := Int.tmod_lt_of_pos a hn
  by_cases h : Int.tmod a n < 0
  · exact ⟨_, mh 0 _ _ _ ⟨by omega, fun _ => ⟨by omega, rfl⟩, fun h' => absurd h h'⟩, by omega, by omega⟩
  · exact ⟨_, mh 0 _ _ _ ⟨by omega, fun h' => absurd h' h, fun _ => rfl⟩, by omega, by omega⟩
theorem ej {L : List Int} {a n : Int} (hd : Dc L a) (hn : 0 < n) (hn2 : n ≤ 1000000000) : ∃ r a', aF L a n r L a' ∧ (0 ≤ r ∧ r < n) ∧ Dc L a' := by
  obtain ⟨h0, h1, h2⟩ := hd
  by_cases h : (L.length : Int) ≤ a
  · exact ⟨0, a, i7 0 _ _ _ _ _ _ ⟨fun _ => ⟨rfl, rfl, rfl⟩, fun h' => absurd h h'⟩, by omega, h0, h1, h2⟩
  · obtain ⟨x, hx, _⟩ | h' := aS L a.toNat
    · obtain ⟨r, hr, hr1⟩ := B4 (a := x) hn hn2
      exact ⟨r, a + 1, i7 0 _ _ _ _ _ _ ⟨fun h' => absurd h' h, fun _ => ⟨by omega, by omega, a.toNat, by omega, x, hx, r, hr, rfl, rfl, rfl⟩⟩, hr1, by omega, by omega, h2⟩
    · omega
theorem gy {L : List Int} {a : Int} (hd : Dc L a) (l : List (List UInt8)) (hl : 0 < l.length) (hl2 : l.length ≤ 1000000000) : ∃ s a', be L a l s L a' ∧ s ∈ l ∧ Dc L a' := by
  obtain ⟨r, a', h1, h2, h3⟩ := ej hd (n := (l.length : Int)) (by omega) (by omega)
  obtain ⟨x, hx, _⟩ | h' := aS l r.toNat
  · exact ⟨x, a', pi 0 _ _ _ _ _ _ ⟨_, _, _, h1, r.toNat, by omega, x, hx, rfl, rfl, rfl⟩, List.mem_of_getElem? hx, h3⟩
  · omega
def Gt (L : List Int) (C : Tree → Int → Prop) (B : Nat) : Prop := ∃ t a', C t a' ∧ Dc L a' ∧ tbulk t ≤ B
theorem Gt.map {L : List Int} {C C' : Tree → Int → Prop} {B B' : Nat} (h : Gt L C B) (hb : B ≤ B') (k : ∀ t a', C t a' → C' t a') : Gt L C' B' := by
  obtain ⟨t, a', h1, h2, h3⟩ := h; exact ⟨t, a', k t a' h1, h2, by omega⟩
theorem fR {l : List (List UInt8)} {s : List UInt8} (h : s ∈ l) (hl : l.all (fun x => decide (x.length ≤ 5)) = true) : s.length ≤ 5 := by
  have := List.all_eq_true.1 hl s h; simpa using this
theorem tb0 (k : Int) (s : List UInt8) : tbulk (.node k s [] []) = s.length + 1 := by simp [tbulk, lsum, kbulk]
theorem tb1 (k : Int) (s : List UInt8) (t : Tree) : tbulk (.node k s [] [t]) = s.length + tbulk t + 1 := by simp [tbulk, lsum, kbulk]
theorem tb2 (k : Int) (s : List UInt8) (t u : Tree) : tbulk (.node k s [] [t, u]) = s.length + tbulk t + tbulk u + 1 := by simp [tbulk, lsum, kbulk]; omega
theorem tb3 (k : Int) (s : List UInt8) (t u v : Tree) : tbulk (.node k s [] [t, u, v]) = s.length + tbulk t + tbulk u + tbulk v + 1 := by simp [tbulk, lsum, kbulk]; omega
theorem tbK (k : Int) (s : List UInt8) (l : List Tree) : tbulk (.node k s [] l) = s.length + kbulk l + 1 := by simp [tbulk, lsum]
theorem vR {L : List Int} : ∀ (d : Nat) {a : Int}, Dc L a → d ≤ 100 → Gt L (fun t a' => ci L a d t L a') (6 + d) := fun d => by
  induction d with
  | zero =>
    intro a hd _
    obtain ⟨r, a1, h1, h2, h3⟩ := ej hd (n := 7) (by omega) (by omega)
    have top : ∀ {t a'}, eP 1 0 r L a1 false t L a' → r ≠ 0 → r ≠ 1 → ci L a 0 t L a' := fun h n0 n1 => gv 1 _ _ _ _ _ _ ⟨_, _, _, h1, fun e => absurd e n0, fun _ => by rw [show (r == 1) = false by simpa using n1]; exact h⟩
    by_cases e0 : r = 0 ∨ r = 1
    · refine ⟨_, a1, gv 1 _ _ _ _ _ _ ⟨_, _, _, h1, fun e => bk 0 _ _ _ _ _ _ _ _ ⟨fun _ => ⟨rfl, rfl, rfl⟩, fun h => nomatch h⟩, fun e => bk 0 _ _ _ _ _ _ _ _ ⟨fun _ => ⟨rfl, rfl, rfl⟩, fun h => ?_⟩⟩, h3, by rw [tb0]; simp only [List.length_nil]; omega⟩
      rcases e0 with e0 | e0
      · exact absurd e0 e
      · rw [e0] at h; cases h
    · by_cases e2 : r = 2
      · exact ⟨_, a1, top (bk 0 _ _ _ _ _ _ _ _ ⟨fun h => (nomatch h), fun _ => ⟨fun _ => ⟨rfl, rfl, rfl⟩, fun h => absurd e2 h⟩⟩) (by omega) (by omega), h3, by rw [tb0]; simp only [List.length_nil]; omega⟩
      · by_cases e3 : r = 3
        · exact ⟨_, a1, top (bk 0 _ _ _ _ _ _ _ _ ⟨fun h => (nomatch h), fun _ => ⟨fun h => absurd h e2, fun _ => ⟨fun _ => ⟨rfl, rfl, rfl⟩, fun h => absurd e3 h⟩⟩⟩) (by omega) (by omega), h3, by rw [tb0]; simp only [List.length_nil]; omega⟩
        · by_cases e4 : r = 4
          · obtain ⟨s, a2, g1, g2, g3⟩ := gy h3 [[84], [85], [65, 46, 84], [66, 46, 85]] (by decide) (by decide)
            have := fR g2 (by decide)
            exact ⟨_, a2, top (bk 0 _ _ _ _ _ _ _ _ ⟨fun h => (nomatch h), fun _ => ⟨fun h => absurd h e2, fun _ => ⟨fun h => absurd h e3, fun _ => ⟨fun _ => ⟨_, _, _, g1, rfl, rfl, rfl⟩, fun h => absurd e4 h⟩⟩⟩⟩) (by omega) (by omega), g3, by rw [tb0]; omega⟩
          · exact ⟨_, a1, top (bk 0 _ _ _ _ _ _ _ _ ⟨fun h => (nomatch h), fun _ => ⟨fun h => absurd h e2, fun _ => ⟨fun h => absurd h e3, fun _ => ⟨fun h => absurd h e4, fun _ => ⟨fun _ => ⟨rfl, rfl, rfl⟩, fun h => by omega⟩⟩⟩⟩⟩) (by omega) (by omega), h3, by rw [tb0]; simp only [List.length_nil]; omega⟩
  | succ d ih =>
    intro a hd hd100
    obtain ⟨r, a1, h1, h2, h3⟩ := ej hd (n := 7) (by omega) (by omega)
    have top : ∀ {t a'}, eP 1 ((d + 1 : Nat) : Int) r L a1 false t L a' → r ≠ 0 → r ≠ 1 → ci L a ((d + 1 : Nat) : Int) t L a' := fun h n0 n1 => gv 1 _ _ _ _ _ _ ⟨_, _, _, h1, fun e => absurd e n0, fun _ => by rw [show (r == 1) = false by simpa using n1]; exact h⟩
    by_cases e0 : r = 0 ∨ r = 1
    · refine ⟨_, a1, gv 1 _ _ _ _ _ _ ⟨_, _, _, h1, fun e => bk 0 _ _ _ _ _ _ _ _ ⟨fun _ => ⟨rfl, rfl, rfl⟩, fun h => nomatch h⟩, fun e => bk 0 _ _ _ _ _ _ _ _ ⟨fun _ => ⟨rfl, rfl, rfl⟩, fun h => ?_⟩⟩, h3, by rw [tb0]; simp only [List.length_nil]; omega⟩
      rcases e0 with e0 | e0
      · exact absurd e0 e
      · rw [e0] at h; cases h
    · by_cases e2 : r = 2
      · exact ⟨_, a1, top (bk 0 _ _ _ _ _ _ _ _ ⟨fun h => (nomatch h), fun _ => ⟨fun _ => ⟨rfl, rfl, rfl⟩, fun h => absurd e2 h⟩⟩) (by omega) (by omega), h3, by rw [tb0]; simp only [List.length_nil]; omega⟩
      · by_cases e3 : r = 3
        · exact ⟨_, a1, top (bk 0 _ _ _ _ _ _ _ _ ⟨fun h => (nomatch h), fun _ => ⟨fun h => absurd h e2, fun _ => ⟨fun _ => ⟨rfl, rfl, rfl⟩, fun h => absurd e3 h⟩⟩⟩) (by omega) (by omega), h3, by rw [tb0]; simp only [List.length_nil]; omega⟩
        · by_cases e4 : r = 4
          · obtain ⟨s, a2, g1, g2, g3⟩ := gy h3 [[84], [85], [65, 46, 84], [66, 46, 85]] (by decide) (by decide)
            have := fR g2 (by decide)
            exact ⟨_, a2, top (bk 0 _ _ _ _ _ _ _ _ ⟨fun h => (nomatch h), fun _ => ⟨fun h => absurd h e2, fun _ => ⟨fun h => absurd h e3, fun _ => ⟨fun _ => ⟨_, _, _, g1, rfl, rfl, rfl⟩, fun h => absurd e4 h⟩⟩⟩⟩) (by omega) (by omega), g3, by rw [tb0]; omega⟩
          · obtain ⟨t, a2, g1, g2, g3⟩ := ih h3 (by omega)
            have g1' : ci L a1 (((d + 1 : Nat) : Int) - 1) t L a2 := by rw [show ((d + 1 : Nat) : Int) - 1 = (d : Int) by omega]; exact g1
            exact ⟨_, a2, top (bk 0 _ _ _ _ _ _ _ _ ⟨fun h => (nomatch h), fun _ => ⟨fun h => absurd h e2, fun _ => ⟨fun h => absurd h e3, fun _ => ⟨fun h => absurd h e4, fun _ => ⟨fun h => by omega, fun _ => ⟨by omega, _, _, _, g1', rfl, rfl, rfl⟩⟩⟩⟩⟩⟩) (by omega) (by omega), g2, by rw [tb1]; simp only [List.length_nil]; omega⟩
def eB : Nat → Nat
  | 0 => 6
  | d + 1 => 3 * eB d + 20
section
variable {L : List Int} {d a z : Int} {t : Tree} {a' : Int} {m : Nat}
theorem up2 (h0 : z ≠ 0) (h1 : z ≠ 1) (h : f7 m d L a z t L a') : cg (m + 2) d L a z t L a' :=
  rL0_semvcsmake_Expr (m + 1) _ _ _ _ _ _ _ ⟨fun e => absurd e h0, fun _ => io m _ _ _ _ _ _ _ _ ⟨fun e => absurd (eq_of_beq e) h1, fun _ => h⟩⟩
theorem up6 (h2 : z ≠ 2) (h3 : z ≠ 3) (h4 : z ≠ 4) (h5 : z ≠ 5) (h : fV m d L a z t L a') : f7 (m + 4) d L a z t L a' :=
  rL2_semvcsmake_Expr (m + 3) _ _ _ _ _ _ _ ⟨fun e => absurd e h2, fun _ => d0 (m + 2) _ _ _ _ _ _ _ ⟨fun e => absurd e h3, fun _ => fv (m + 1) _ _ _ _ _ _ _ ⟨fun e => absurd e h4, fun _ => ir m _ _ _ _ _ _ _ ⟨fun e => absurd e h5, fun _ => h⟩⟩⟩⟩
theorem up9 (h6 : z ≠ 6) (h7 : z ≠ 7) (h : ei m d L a z t L a') : fV (m + 2) d L a z t L a' :=
  rL6_semvcsmake_Expr (m + 1) _ _ _ _ _ _ _ ⟨fun e => absurd e h6, fun _ => il m _ _ _ _ _ _ _ _ ⟨fun e => absurd (eq_of_beq e) h7, fun _ => h⟩⟩
theorem BN (h8 : z ≠ 8) (h : fu m d L a z t L a') : ei (m + 1) d L a z t L a' := lm m _ _ _ _ _ _ _ ⟨fun e => absurd e h8, fun _ => h⟩
theorem CQ (h9 : z ≠ 9) (h : dZ m d L a z t L a') : fu (m + 1) d L a z t L a' := kJ m _ _ _ _ _ _ _ ⟨fun e => absurd e h9, fun _ => h⟩
theorem CM (h10 : z ≠ 10) (h11 : z ≠ 11) (h : fB m d L a z t L a') : dZ (m + 2) d L a z t L a' :=
  rL14_semvcsmake_Expr (m + 1) _ _ _ _ _ _ _ ⟨fun e => absurd e h10, fun _ => hZ m _ _ _ _ _ _ _ _ ⟨fun e => absurd (eq_of_beq e) h11, fun _ => h⟩⟩
end
theorem qX {L : List Int} {d a z : Int} (M : Nat) (hd : Dc L a) (h0 : 0 ≤ z) (h5 : z ≤ 5) : Gt L (fun t a' => cg (M + 8) d L a z t L a') 6 := by
  by_cases e0 : z = 0 ∨ z = 1
  · obtain ⟨s, a2, g1, g2, g3⟩ := gy hd [[120], [121], [122]] (by decide) (by decide)
    have := fR g2 (by decide)
    refine ⟨_, a2, rL0_semvcsmake_Expr (M + 7) _ _ _ _ _ _ _ ⟨fun e => io (M + 6) _ _ _ _ _ _ _ _ ⟨fun _ => ⟨_, _, _, g1, rfl, rfl, rfl⟩, fun h => nomatch h⟩, fun e => io (M + 6) _ _ _ _ _ _ _ _ ⟨fun _ => ⟨_, _, _, g1, rfl, rfl, rfl⟩, fun h => ?_⟩⟩, g3, by rw [tb0]; omega⟩
    rcases e0 with e0 | e0
    · exact absurd e0 e
    · rw [e0] at h; exact absurd h (by decide)
  have n0 : z ≠ 0 := by omega
  have n1 : z ≠ 1 := by omega
  by_cases e2 : z = 2
  · obtain ⟨s, a2, g1, g2, g3⟩ := gy hd [[48], [49], [50], [49, 48]] (by decide) (by decide)
    have := fR g2 (by decide)
    exact ⟨_, a2, up2 n0 n1 (rL2_semvcsmake_Expr (M + 5) _ _ _ _ _ _ _ ⟨fun _ => ⟨_, _, _, g1, rfl, rfl, rfl⟩, fun h => absurd e2 h⟩), g3, by rw [tb0]; omega⟩
  by_cases e3 : z = 3
  · obtain ⟨s, a2, g1, g2, g3⟩ := gy hd [[34, 34], [34, 97, 34], [34, 35, 32, 98, 34]] (by decide) (by decide)
    have := fR g2 (by decide)
    exact ⟨_, a2, up2 n0 n1 (rL2_semvcsmake_Expr (M + 5) _ _ _ _ _ _ _ ⟨fun h => absurd h e2, fun _ => d0 (M + 4) _ _ _ _ _ _ _ ⟨fun _ => ⟨_, _, _, g1, rfl, rfl, rfl⟩, fun h => absurd e3 h⟩⟩), g3, by rw [tb0]; omega⟩
  by_cases e4 : z = 4
  · obtain ⟨r, a2, g1, g2, g3⟩ := ej hd (n := 2) (by omega) (by omega)
    exact ⟨_, a2, up2 n0 n1 (rL2_semvcsmake_Expr (M + 5) _ _ _ _ _ _ _ ⟨fun h => absurd h e2, fun _ => d0 (M + 4) _ _ _ _ _ _ _ ⟨fun h => absurd h e3, fun _ => fv (M + 3) _ _ _ _ _ _ _ ⟨fun _ => ⟨_, _, _, g1, by omega, rfl, rfl, rfl⟩, fun h => absurd e4 h⟩⟩⟩), g3, by rw [tb0]; simp only [List.length_nil]; omega⟩
  have e5 : z = 5 := by omega
  obtain ⟨r, a2, g1, g2, g3⟩ := ej hd (n := 3) (by omega) (by omega)
  by_cases er : r = 0
  · exact ⟨_, a2, up2 n0 n1 (rL2_semvcsmake_Expr (M + 5) _ _ _ _ _ _ _ ⟨fun h => absurd h e2, fun _ => d0 (M + 4) _ _ _ _ _ _ _ ⟨fun h => absurd h e3, fun _ => fv (M + 3) _ _ _ _ _ _ _ ⟨fun h => absurd h e4, fun _ => ir (M + 2) _ _ _ _ _ _ _ ⟨fun _ => ⟨_, _, _, g1, fun _ => ⟨rfl, rfl, rfl⟩, fun h => absurd er h⟩, fun h => absurd e5 h⟩⟩⟩⟩), g3, by rw [tb0]; simp only [List.length_nil]; omega⟩
  · exact ⟨_, a2, up2 n0 n1 (rL2_semvcsmake_Expr (M + 5) _ _ _ _ _ _ _ ⟨fun h => absurd h e2, fun _ => d0 (M + 4) _ _ _ _ _ _ _ ⟨fun h => absurd h e3, fun _ => fv (M + 3) _ _ _ _ _ _ _ ⟨fun h => absurd h e4, fun _ => ir (M + 2) _ _ _ _ _ _ _ ⟨fun _ => ⟨_, _, _, g1, fun h => absurd h er, fun _ => ⟨rfl, rfl, rfl⟩⟩, fun h => absurd e5 h⟩⟩⟩⟩), g3, by rw [tb0]; simp⟩
theorem vy {L : List Int} {a : Int} (hd : Dc L a) : Gt L (fun t a' => aO L a 0 t L a') 6 := by
  obtain ⟨r, a1, h1, h2, h3⟩ := ej hd (n := 14) (by omega) (by omega)
  by_cases e1 : 5 < r
  · by_cases e2 : 5 < r - 6
    · exact (qX 0 (d := 0) h3 (z := 0) (by omega) (by omega)).map (Nat.le_refl _) fun t a' h => fU 8 _ _ _ _ _ _ ⟨_, _, _, h1, fun _ => ⟨fun _ => ⟨by omega, fun _ => h, fun h' => absurd e2 h'⟩, fun h' => absurd e1 h'⟩, fun h' => by omega⟩
    · exact (qX 0 (d := 0) h3 (z := r - 6) (by omega) (by omega)).map (Nat.le_refl _) fun t a' h => fU 8 _ _ _ _ _ _ ⟨_, _, _, h1, fun _ => ⟨fun _ => ⟨by omega, fun h' => absurd h' e2, fun _ => h⟩, fun h' => absurd e1 h'⟩, fun h' => by omega⟩
  · exact (qX 0 (d := 0) h3 (z := r) (by omega) (by omega)).map (Nat.le_refl _) fun t a' h => fU 8 _ _ _ _ _ _ ⟨_, _, _, h1, fun _ => ⟨fun h' => absurd h' e1, fun _ => h⟩, fun h' => by omega⟩
theorem rz {L : List Int} {k : Int} {B : Nat} {a : Int} (h : Gt L (fun t a' => aO L a k t L a') B) : Gt L (fun t a' => dM L a k t L a') (B + 1) := by
  obtain ⟨t, a2, g1, g2, g3⟩ := h
  cases hu : pT t.kind with
  | true => exact ⟨t, a2, lY 0 _ _ _ _ _ _ ⟨_, _, _, g1, _, pc _, fun h => absurd (hu.symm.trans h) (by decide), fun _ => ⟨rfl, rfl, rfl⟩⟩, g2, by omega⟩
  | false => exact ⟨_, a2, lY 0 _ _ _ _ _ _ ⟨_, _, _, g1, _, pc _, fun _ => ⟨rfl, rfl, rfl⟩, fun h => absurd (hu.symm.trans h) (by decide)⟩, g2, by rw [tb1]; simp only [List.length_nil]; omega⟩
theorem xD : ∀ d, 6 ≤ eB d
  | 0 => Nat.le_refl _
  | d + 1 => by have := xD d; simp only [eB]; omega
theorem A1 {L : List Int} : ∀ (d : Nat) {a : Int}, Dc L a → d ≤ 5 → Gt L (fun t a' => aO L a d t L a') (eB d) := fun d => by
  induction d with
  | zero => intro a hd _; exact vy hd
  | succ d ih =>
    intro a hd hd5
    obtain ⟨z, a1, h1, h2, h3⟩ := ej hd (n := 14) (by omega) (by omega)
    have top : ∀ {M t a'}, cg M ((d + 1 : Nat) : Int) L a1 z t L a' → aO L a ((d + 1 : Nat) : Int) t L a' := fun {M} {t} {a'} h => fU M _ _ _ _ _ _ ⟨_, _, _, h1, fun h' => by omega, fun _ => h⟩
    have sub : ∀ {a}, Dc L a → Gt L (fun t a' => aO L a (((d + 1 : Nat) : Int) - 1) t L a') (eB d) := fun {a} h => by rw [show ((d + 1 : Nat) : Int) - 1 = (d : Int) by omega]; exact ih h (by omega)
    have hB : eB (d + 1) = 3 * eB d + 20 := rfl
    have hp := xD d
    by_cases c5 : z ≤ 5
    · exact (qX 0 (d := ((d + 1 : Nat) : Int)) h3 (by omega) c5).map (by omega) fun t a' h => top h
    have n0 : z ≠ 0 := by omega
    have n1 : z ≠ 1 := by omega
    have n2 : z ≠ 2 := by omega
    have n3 : z ≠ 3 := by omega
    have n4 : z ≠ 4 := by omega
    have n5 : z ≠ 5 := by omega
    by_cases c7 : z ≤ 7
    · -- a call
      obtain ⟨s, a2, g1, g2, g3⟩ := gy h3 [[102], [103], [104], [65, 46, 102], [66, 46, 103], [65, 46, 104]] (by decide) (by decide)
      have hs := fR g2 (by decide)
      obtain ⟨n, a3, g4, g5, g6⟩ := ej g3 (n := 4) (by omega) (by omega)
      have loop : ∀ (k : Nat) (a : Int) (l : List Tree), Dc L a → l.length + k ≤ 100 → Gt L (fun t a' => fx (k + 1) ((d + 1 : Nat) : Int) s L a l (k : Int) t L a') (s.length + 1 + kbulk l + k * (eB d + 1)) := fun k => by
        induction k with
        | zero => intro a l hd hl; exact ⟨_, a, la 0 _ _ _ _ _ _ _ _ _ ⟨fun h => by omega, fun _ => ⟨rfl, rfl, rfl⟩⟩, hd, by rw [tbK]; omega⟩
        | succ k ihk =>
          intro a l hd hl
          obtain ⟨t, b, q1, q2, q3⟩ := sub hd
          refine (ihk b (l ++ [.node 17 [] [] [t]]) q2 (by simp; omega)).map ?_ fun t' a' h => la (k + 1) _ _ _ _ _ _ _ _ _ ⟨fun _ => ⟨by omega, _, _, _, q1, by simp; omega, by omega, by rw [show ((k + 1 : Nat) : Int) - 1 = (k : Int) by omega]; exact h⟩, fun h => by omega⟩
          rw [ep, Nat.succ_mul]; simp only [kbulk, tb1, List.length_nil]
          omega
      refine (loop n.toNat a3 [] g6 (by simp; omega)).map (by
        have : n.toNat * (eB d + 1) ≤ 3 * (eB d + 1) := Nat.mul_le_mul_right _ (by omega)
        simp only [kbulk]; omega) fun t a' h => ?_
      have h8 : iS (n.toNat + 2) ((d + 1 : Nat) : Int) L a1 t L a' := pb (n.toNat + 1) _ _ _ _ _ _ ⟨_, _, _, g1, _, _, _, g4, by rw [show n = ((n.toNat : Nat) : Int) by omega]; exact h⟩
      refine top (up2 n0 n1 (up6 n2 n3 n4 n5 (rL6_semvcsmake_Expr (n.toNat + 3) _ _ _ _ _ _ _ ⟨fun _ => il (n.toNat + 2) _ _ _ _ _ _ _ _ ⟨fun _ => h8, fun h => nomatch h⟩, fun h => il (n.toNat + 2) _ _ _ _ _ _ _ _ ⟨fun _ => h8, fun h' => ?_⟩⟩)))
      have : z ≠ 7 := by simpa using h'
      omega
    have n6 : z ≠ 6 := by omega
    have n7 : z ≠ 7 := by omega
    have t9 : ∀ {M t a'}, ei M ((d + 1 : Nat) : Int) L a1 z t L a' → aO L a ((d + 1 : Nat) : Int) t L a' := fun h => top (up2 n0 n1 (up6 n2 n3 n4 n5 (up9 n6 n7 h)))
    by_cases c8 : z = 8
    · -- a list
      obtain ⟨n, a3, g4, g5, g6⟩ := ej h3 (n := 3) (by omega) (by omega)
      have loop : ∀ (k : Nat) (a : Int) (l : List Tree), Dc L a → l.length + k ≤ 100 → Gt L (fun t a' => fC (k + 1) ((d + 1 : Nat) : Int) L a l (k : Int) t L a') (1 + kbulk l + k * (eB d)) := fun k => by
        induction k with
        | zero => intro a l hd hl; exact ⟨_, a, kw 0 _ _ _ _ _ _ _ _ ⟨fun h => by omega, fun _ => ⟨rfl, rfl, rfl⟩⟩, hd, by rw [tbK]; simp only [List.length_nil]; omega⟩
        | succ k ihk =>
          intro a l hd hl
          obtain ⟨t, b, q1, q2, q3⟩ := sub hd
          refine (ihk b (l ++ [t]) q2 (by simp; omega)).map ?_ fun t' a' h => kw (k + 1) _ _ _ _ _ _ _ _ ⟨fun _ => ⟨by omega, _, _, _, q1, by simp; omega, by omega, by rw [show ((k + 1 : Nat) : Int) - 1 = (k : Int) by omega]; exact h⟩, fun h => by omega⟩
          rw [ep, Nat.succ_mul]; simp only [kbulk]
          omega
      exact (loop (1 + n).toNat a3 [] g6 (by simp; omega)).map (by
        have : (1 + n).toNat * eB d ≤ 3 * eB d := Nat.mul_le_mul_right _ (by omega)
        simp only [kbulk]; omega) fun t a' h => t9 (lm ((1 + n).toNat + 1) _ _ _ _ _ _ _ ⟨fun _ => ⟨_, _, _, g4, by omega, by rw [show (((1 + n).toNat : Nat) : Int) = 1 + n by omega] at h; exact h⟩, fun h' => absurd c8 h'⟩)
    by_cases c9 : z = 9
    · obtain ⟨t1, b1, q1, r1, s1⟩ := sub h3
      obtain ⟨t2, b2, q2, r2, s2⟩ := sub r1
      obtain ⟨t3, b3, q3, r3, s3⟩ := sub r2
      exact ⟨_, b3, t9 (BN c8 (kJ 1 _ _ _ _ _ _ _ ⟨fun _ => oz 0 _ _ _ _ _ _ ⟨by omega, _, _, _, q1, by omega, _, _, _, q2, by omega, _, _, _, q3, rfl, rfl, rfl⟩, fun h => absurd c9 h⟩)), r3, by rw [tb3]; simp only [List.length_nil]; omega⟩
    have t14 : ∀ {M t a'}, dZ M ((d + 1 : Nat) : Int) L a1 z t L a' → aO L a ((d + 1 : Nat) : Int) t L a' := fun h => t9 (BN c8 (CQ c9 h))
    by_cases c11 : z ≤ 11
    · obtain ⟨s, b0, g1, g2, g3⟩ := gy h3 [[120], [121], [122]] (by decide) (by decide)
      have hs := fR g2 (by decide)
      obtain ⟨t1, b1, q1, r1, s1⟩ := sub g3
      obtain ⟨t2, b2, q2, r2, s2⟩ := sub r1
      refine ⟨.node 20 s [] [t1, t2], b2, ?_, r2, by rw [tb2]; omega⟩
      have h16 : iq 1 ((d + 1 : Nat) : Int) L a1 (.node 20 s [] [t1, t2]) L b2 := oL 0 _ _ _ _ _ _ ⟨_, _, _, g1, by omega, _, _, _, q1, by omega, _, _, _, q2, rfl, rfl, rfl⟩
      refine t14 (rL14_semvcsmake_Expr 2 _ _ _ _ _ _ _ ⟨fun _ => hZ 1 _ _ _ _ _ _ _ _ ⟨fun _ => h16, fun h => nomatch h⟩, fun h => hZ 1 _ _ _ _ _ _ _ _ ⟨fun _ => h16, fun h' => ?_⟩⟩)
      have : z ≠ 11 := by simpa using h'
      omega
    have t17 : ∀ {M t a'}, fB M ((d + 1 : Nat) : Int) L a1 z t L a' → aO L a ((d + 1 : Nat) : Int) t L a' := fun h => t14 (CM (by omega) (by omega) h)
    by_cases c12 : z = 12
    · obtain ⟨s, b0, g1, g2, g3⟩ := gy h3 [[43], [45], [42], [60], [61, 61]] (by decide) (by decide)
      have hs := fR g2 (by decide)
      obtain ⟨t1, b1, q1, r1, s1⟩ := rz (sub g3)
      obtain ⟨n, b2, q2, q3, q4⟩ := ej r1 (n := 3) (by omega) (by omega)
      by_cases hn : n = 0
      · obtain ⟨s', b3, g4, g5, g6⟩ := gy q4 [[43], [42]] (by decide) (by decide)
        have hs' := fR g5 (by decide)
        obtain ⟨t2, b4, q5, r5, s5⟩ := rz (vy g6)
        obtain ⟨t3, b5, q6, r6, s6⟩ := rz (sub r5)
        exact ⟨_, b5, t17 (gM 1 _ _ _ _ _ _ _ ⟨fun _ => kP 0 _ _ _ _ _ _ ⟨_, _, _, g1, by omega, _, _, _, q1, _, _, _, q2, fun _ => ⟨_, _, _, g4, _, _, _, q5, by omega, _, _, _, q6, rfl, rfl, rfl⟩, fun h => absurd hn h⟩, fun h => absurd c12 h⟩), r6, by rw [tb2, tb2]; omega⟩
      · obtain ⟨t3, b5, q6, r6, s6⟩ := rz (sub q4)
        exact ⟨_, b5, t17 (gM 1 _ _ _ _ _ _ _ ⟨fun _ => kP 0 _ _ _ _ _ _ ⟨_, _, _, g1, by omega, _, _, _, q1, _, _, _, q2, fun h => absurd h hn, fun _ => ⟨by omega, _, _, _, q6, rfl, rfl, rfl⟩⟩, fun h => absurd c12 h⟩), r6, by rw [tb2]; omega⟩
    · obtain ⟨t1, b1, q1, r1, s1⟩ := sub h3
      exact ⟨_, b1, t17 (gM 1 _ _ _ _ _ _ _ ⟨fun h => absurd h c12, fun _ => ⟨by omega, _, _, _, q1, rfl, rfl, rfl⟩⟩), r1, by rw [tb1]; simp only [List.length_nil]; omega⟩
end Go.Proofs.YtiknldgpnhikhaaGreat
namespace Go.Proofs.YtiknldgpnhikhaaGreat
open Go.RowKit Lx
set_option maxRecDepth 100000
def gQ : Bool → List UInt8 → Bool
  | c, [] => c
  | c, x :: r => gQ (if x.toNat = 10 then false else if x.toNat = 35 then true else c) r
theorem kB : ∀ (b : Bool) (l : List UInt8) (n m : Nat), aN b l (n + m) = ((aN b l n).1 + m, (aN b l n).2.map (· + m))
  | b, [], n, m => by cases b <;> simp [aN]
  | false, c :: r, n, m => by
    have h1 := kB false r (n + 1) m
    have h2 := kB true r (n + 1) m
    unfold aN
    split
    · rw [← h1]; congr 1; omega
    · split
      · rw [← h2]; congr 1; omega
      · simp
  | true, c :: r, n, m => by
    have h1 := kB false r (n + 1) m
    have h2 := kB true r (n + 1) m
    unfold aN
    split
    · rw [← h1]; congr 1; omega
    · split
      · simp
      · rw [← h2]; congr 1; omega
def ic (c : Bool) (l : List UInt8) : Bool := (aN c l 0).2.isNone && (aN c l 0).1 == l.length
theorem lS {c d : Bool} {x : UInt8} {r : List UInt8} (h : aN c (x :: r) 0 = aN d r 1) : ic c (x :: r) = ic d r := by
  unfold ic
  rw [h, show (1 : Nat) = 0 + 1 from rfl, kB]
  simp
theorem rc : ∀ (l : List UInt8) (c fin : Bool), fQ c l fin = (ic c l && (!gQ c l || fin))
  | [], c, fin => by cases c <;> cases fin <;> rfl
  | x :: r, c, fin => by
    have ih := rc r
    unfold fQ gQ
    cases c with
    | true =>
      by_cases ha : aX x = false
      · have h10 : ¬ x.toNat = 10 := fun h => by simp [aX, bS, h] at ha
        have : ic true (x :: r) = false := by simp [ic, aN, h10, ha]
        rw [if_pos ha, this]; rfl
      · have ha' : aX x = true := by simpa using ha
        rw [if_neg ha, if_pos rfl, ih]
        by_cases h10 : x.toNat = 10
        · rw [lS (d := false) (by simp [aN, h10])]; simp [h10]
        · have hb : (x.toNat == 10) = false := by simpa using h10
          rw [lS (d := true) (by simp [aN, h10, ha']), hb]; simp [h10]
    | false =>
      by_cases ha : aX x = false
      · have hw : bS x = false := by cases h : bS x <;> simp_all [aX]
        have h35 : ¬ x.toNat = 35 := fun h => by simp [aX, dn, h] at ha
        have : ic false (x :: r) = false := by simp [ic, aN, hw, h35]
        rw [if_pos ha, this]; rfl
      · rw [if_neg ha, if_neg (by simp)]
        by_cases h35 : x.toNat = 35
        · have hw : bS x = false := by simp [bS, h35]
          rw [if_pos h35, ih, lS (d := true) (by simp [aN, h35, hw])]; simp [h35]
        · rw [if_neg h35]
          by_cases hw : bS x = false
          · have : ic false (x :: r) = false := by simp [ic, aN, hw, h35]
            rw [if_pos hw, this]; rfl
          · have hw' : bS x = true := by simpa using hw
            rw [if_neg hw, ih, lS (d := false) (by simp [aN, hw'])]
            by_cases h10 : x.toNat = 10 <;> simp [h10, h35]
theorem sP {l : List UInt8} {k : Nat} {x : UInt8} {c : Bool} (h : k < l.length) (hc : l[k] = x) : gQ c (l.drop k) = gQ (if x.toNat = 10 then false else if x.toNat = 35 then true else c) (l.drop (k + 1)) := by
  rw [List.drop_eq_getElem_cons h, hc]; rfl
theorem tW {l : List UInt8} {k : Nat} {c : Bool} (h : l.length ≤ k) : gQ c (l.drop k) = c := by
  rw [List.drop_of_length_le h]; rfl
end Go.Proofs.YtiknldgpnhikhaaGreat
namespace Go.Proofs.YtiknldgpnhikhaaGreat
open Go.RowKit Lx
set_option maxRecDepth 100000
set_option maxHeartbeats 1000000 in
theorem AS (l : List UInt8) (fin : Bool) (w : World) (hl : l.length ≤ 281474976710656) : Calls Tryz.prog 105 #[.string ⟨l.toArray⟩, .bool fin] w fun e w' => e = .returned (.bool (fQ false l fin)) ∧ w = w' := by
  obtain ⟨n, b, hLd⟩ : ∃ n b, aN false l 0 = (n, b) := ⟨_, _, rfl⟩
  have hnl : n ≤ l.length := by have h := lr false l 0; rw [hLd] at h; simpa using h
  have HLd := Lib.hid hLd
  have HW := Lib.hid (show ic false l = (b.isNone && n == l.length) from by rw [ic, hLd])
  have HT := Lib.hid (rc l false fin)
  clear hLd
  go_enter Tryz.func105, Tryz.ntmps105
  go_wp2_with fail
  refine (zU l 0 0 rfl _ (Nat.zero_le _) hl).mono ?_
  rintro e w' ⟨rfl, rfl⟩
  rw [List.drop_zero, HLd.out]
  cases b with
  | some q =>
    have hq2 : qn 0 (some q) = ((0 + q : Nat) : Int) := rfl
    rw [hq2, Nat.zero_add]
    have hq : (0 : Int) ≤ (q : Int) := by omega
    have HF := Lib.hid (show fQ false l fin = false from by rw [HT.out, HW.out]; rfl)
    go_wp2
    go_ret
    exact ⟨bt HF.out.symm, rfl⟩
  | none =>
    have hq2 : qn 0 none = -1 := rfl
    rw [hq2]
    clear hq2
    by_cases hn : n < l.length
    · have HF := Lib.hid (show fQ      false l fin = false from by rw [HT.out, HW.out]; have : (n == l.length) = false := by simp; omega
                                                                   rw [this]; rfl)
      go_wp2
      go_ret
      exact ⟨bt HF.out.symm, rfl⟩
    · have hnb : decide (n < l.length) = false := by simpa using hn
      have HF := Lib.hid (show fQ false l fin = (!gQ false l || fin) from by
        rw [HT.out, HW.out]; have : (n == l.length) = true := by simp; omega
        rw [this]; rfl)
      cases fin with
      | true =>
        go_wp2
        go_ret
        exact ⟨bt (by rw [HF.out]; simp), rfl⟩
      | false =>
        obtain ⟨r, hr⟩ : ∃ r, gQ false l = r := ⟨_, rfl⟩
        have HR := Lib.hid hr; clear hr
        go_wp2
        go_loopg [7, 8] l.length (fun g s7 s8 wx => ∃ (i : Nat) (c : Bool), g = l.length - i ∧ wx = w ∧ i ≤ l.length ∧ s7 = .bool c ∧ s8 = .int .i64 i ∧ Hid (gQ c (l.drop i) = r))
        case atStart => exact ⟨0, false, rfl, rfl, Nat.zero_le _, rfl, rfl, Lib.hid (by simpa using HR.out)⟩
        case round =>
          obtain ⟨i, c, rfl, rfl, hil, rfl, rfl, HC⟩ := hrel
          by_cases hit : i < l.length
          rotate_left
          · have HF2 := Lib.hid (show c = r from by rw [← HC.out, tW (by omega)])
            go_wp2_with fail
            go_ret
            exact ⟨bt (by rw [HF.out, HR.out, HF2.out]; simp), rfl⟩
          obtain ⟨x, hx⟩ : ∃ c, ({ data := l.toArray } : ByteArray)[i]'hit = c := ⟨_, rfl⟩
          have HXi := Lib.hid (show l[i] = x from hx)
          have HS := Lib.hid (HC.out.symm.trans (sP hit HXi.out))
          clear HC
          cases h35 : ((x.toNat : Int) == 35) <;> cases h10 : ((x.toNat : Int) == 10)
          · go_wp2
            go_roundg (l.length - (i + 1))
            case measure => omega
            case rel => exact ⟨i + 1, c, rfl, rfl, by omega, rfl, by go_num, Lib.hid (by rw [HS.out, if_neg (bU (m := 10) h10), if_neg (bU (m := 35) h35)])⟩
          · go_wp2
            go_roundg (l.length - (i + 1))
            case measure => omega
            case rel => exact ⟨i + 1, false, rfl, rfl, by omega, rfl, by go_num, Lib.hid (by rw [HS.out, if_pos (cV (m := 10) h10)])⟩
          · go_wp2
            go_roundg (l.length - (i + 1))
            case measure => omega
            case rel => exact ⟨i + 1, true, rfl, rfl, by omega, rfl, by go_num, Lib.hid (by rw [HS.out, if_neg (bU (m := 10) h10), if_pos (cV (m := 35) h35)])⟩
          · have h1 := cV (m := 10) h10
            have h2 := cV (m := 35) h35
            omega
end Go.Proofs.YtiknldgpnhikhaaGreat
namespace Go.Proofs.YtiknldgpnhikhaaGreat
open Go.RowKit Lx
set_option maxRecDepth 100000
theorem yD (a b : List UInt8) : (ByteArray.mk a.toArray) ++ (ByteArray.mk b.toArray) = ⟨(a ++ b).toArray⟩ := by
  apply ByteArray.ext; simp
theorem sJ {a b : List UInt8} (h : bi a = 0 ∨ bi b = 0) : fusesT a b = false := by simp [fusesT, h]
theorem mN {a b : List UInt8} (h : ¬ (bi a = 0 ∨ bi b = 0)) (h2 : ¬ ((scan (a ++ b)).err = 0 ∧ (scan (a ++ b)).toks.length = 2 ∧ (scan (a ++ b)).tail = [])) : fusesT a b = true := by
  unfold fusesT; rw [if_neg h]; simp only; rw [if_neg h2]
theorem wc {a b : List UInt8} {t0 t1 : Tok} (h : ¬ (bi a = 0 ∨ bi b = 0)) (h1 : (scan (a ++ b)).err = 0) (h2 : (scan (a ++ b)).toks = [t0, t1]) (h3 : (scan (a ++ b)).tail = []) :
    fusesT a b = !(t0.lead == [] && t0.text == a && t1.lead == [] && t1.text == b) := by
  unfold fusesT; rw [if_neg h]; simp only; rw [h1, h2, h3]; simp
theorem wk {l : List UInt8} {b : Bool} (h : (l == []) = b) : l.isEmpty = b := by rw [← h]; cases l <;> rfl
theorem t4 {l : List Tok} (h : l.length = 2) : ∃ t0 t1, l = [t0, t1] := by
  match l, h with
  | [a, b], _ => exact ⟨a, b, rfl⟩
set_option maxHeartbeats 2000000 in
theorem BX (a b : List UInt8) (w : World) (ha : a.length ≤ 140737488355328) (hb : b.length ≤ 140737488355328) : Calls Tryz.prog 77 #[.string ⟨a.toArray⟩, .string ⟨b.toArray⟩] w fun e w' => e = .returned (.bool (fusesT a b)) ∧ Ext w w' := by
  have hx := yD
  obtain ⟨ka, hka⟩ : ∃ k, bi a = k := ⟨_, rfl⟩
  obtain ⟨kb, hkb⟩ : ∃ k, bi b = k := ⟨_, rfl⟩
  have HKa := Lib.hid hka
  have HKb := Lib.hid hkb
  clear hka hkb
  go_enter Tryz.func77, Tryz.ntmps77
  go_wp2_with fail
  refine (tH _ _ (by omega)).mono ?_
  rintro e1 w1 ⟨rfl, hx1⟩
  rw [HKa.out]
  have HX1 := Lib.hid hx1; clear hx1
  by_cases h1 : ka = 0
  · subst h1
    go_wp2_with fail
    go_ret
    exact ⟨bt (sJ (.inl HKa.out)).symm, HX1.out⟩
  have h1b : ((ka : Int) == 0) = false := by simp; omega
  go_wp2_with fail
  refine (tH _ _ (by omega)).mono ?_
  rintro e2 w2 ⟨rfl, hx2⟩
  rw [HKb.out]
  have HX2 := Lib.hid (HX1.out.trans hx2); clear hx2
  by_cases h2 : kb = 0
  · subst h2
    go_wp2_with fail
    go_ret
    exact ⟨bt (sJ (.inr HKb.out)).symm, HX2.out⟩
  have h2b : ((kb : Int) == 0) = false := by simp; omega
  have HN := Lib.hid (show ¬ (bi a = 0 ∨ bi b = 0) from by rw [HKa.out, HKb.out]; omega)
  obtain ⟨Rs, hRs⟩ : ∃ Rs, scan (a ++ b) = Rs := ⟨_, rfl⟩
  have HRs := Lib.hid hRs
  clear hRs
  go_wp2_with fail
  refine (Cq _ _ (by simp; omega)).mono ?_
  rintro e3 w3 ⟨v, rfl, htr, hx3⟩
  rw [HRs.out] at htr ⊢
  obtain ⟨A, c, rfl, hc1, hc2, hrow⟩ := htr
  unfold maxLen at hc2
  have HX3 := Lib.hid (HX2.out.trans hx3); clear hx3
  have HRow := Lib.hid hrow; clear hrow
  obtain ⟨toks, tail, place, er⟩ := Rs
  simp only at HRow hc1 hc2 ⊢
  by_cases h3 : er = 0
  rotate_left
  · have h3b : ((er : Int) != 0) = true := by simp; omega
    have HF := Lib.hid (mN HN.out (fun h => h3 (by rw [HRs.out] at h; exact h.1)))
    go_wp2_with fail
    go_ret
    exact ⟨bt HF.out.symm, HX3.out⟩
  subst h3
  by_cases h4 : toks.length = 2
  rotate_left
  · have h4b : ((toks.length : Int) != 2) = true := by simp; omega
    have HF := Lib.hid (mN HN.out (fun h => h4 (by rw [HRs.out] at h; exact h.2.1)))
    go_wp2_with fail
    go_ret
    exact ⟨bt HF.out.symm, HX3.out⟩
  by_cases h5 : tail = []
  rotate_left
  · have h5b : (tail == []) = false := by simpa using h5
    have h5c : tail.isEmpty = false := by simpa using h5
    obtain ⟨t0, t1, rfl⟩ := t4 h4
    have HF := Lib.hid (mN HN.out (fun h => h5 (by rw [HRs.out] at h; exact h.2.2)))
    clear h5 h4
    go_wp2_with fail
    go_ret
    exact ⟨bt HF.out.symm, HX3.out⟩
  subst h5
  obtain ⟨t0, t1, rfl⟩ := t4 h4
  clear h4
  obtain ⟨b0, off, rfl, hb0, p0, p1, p2⟩ := r8 HRow.out (k := 0) (by simp)
  obtain ⟨b0', off', heq, _, q0, q1, q2⟩ := r8 HRow.out (k := 1) (by simp)
  obtain ⟨rfl, rfl⟩ : b0 = b0' ∧ off = off' := by simpa using heq
  clear heq
  have HF := Lib.hid (wc HN.out (by rw [HRs.out]) (by rw [HRs.out]) (by rw [HRs.out]))
  simp only [Nat.zero_mul, Nat.one_mul, Nat.add_zero, List.getElem_cons_zero, List.getElem_cons_succ] at p0 p1 p2 q0 q1 q2
  cases g1 : (t0.text == a)
  · skip
    go_wp2_with fail
    go_ret
    exact ⟨bt (by rw [HF.out, g1]; simp), HX3.out⟩
  cases g0 : (t0.lead == [])
  · skip
    have g0' : t0.lead.isEmpty = false := by simpa using g0
    go_wp2_with fail
    go_ret
    exact ⟨bt (by rw [HF.out, g1, g0]; simp), HX3.out⟩
  have g0' : t0.lead.isEmpty = true := by simpa using g0
  cases g3 : (t1.text == b)
  · skip
    go_wp2_with fail
    go_ret
    exact ⟨bt (by rw [HF.out, g1, g0, g3]; simp), HX3.out⟩
  cases g2 : (t1.lead == [])
  all_goals
    have g2' := wk g2
    go_wp2_with fail
    go_ret
    exact ⟨bt (by rw [HF.out, g1, g0, g3, g2]; simp), HX3.out⟩
end Go.Proofs.YtiknldgpnhikhaaGreat
namespace Go.Proofs.YtiknldgpnhikhaaGreat
open Go.RowKit Lx Sx
set_option maxHeartbeats 1000000
theorem yM (a b : List UInt8) (ha : a.length ≤ 140737488355328) (hb : b.length ≤ 140737488355328) : li a b (fusesT a b) := sum0_calls rfl rfl fun S w ρ xs hx => by
  simp only [LRel] at hx
  obtain ⟨x, ys, rfl, h1, y, zs, rfl, h2, rfl⟩ := hx
  simp only [VRel] at h1 h2; subst h1 h2
  exact (BX a b w ha hb).mono fun e w' ⟨h1, h2⟩ => ⟨_, h1, by simp only [VRel], vj h2⟩
theorem sx (a : List UInt8) (f : Bool) (ha : a.length ≤ 140737488351232) : hV a f (fQ false a f) := sum0_calls rfl rfl fun S w ρ xs hx => by
  simp only [LRel] at hx
  obtain ⟨x, ys, rfl, h1, y, zs, rfl, h2, rfl⟩ := hx
  simp only [VRel] at h1 h2; subst h1 h2
  exact (AS a f w (by omega)).mono fun e w' ⟨h1, h2⟩ => ⟨_, h1, by simp only [VRel], h2 ▸ Chg.refl _ _⟩
abbrev Pce := GSemvcsref02Piece
def Qp (l : List Pce) : Prop := ∀ x ∈ l, x.Lead.length ≤ 1000000 ∧ x.Text.length ≤ 1000010
theorem ca {a b : List Pce} : Qp (a ++ b) ↔ Qp a ∧ Qp b := ⟨fun h => ⟨fun x hx => h x (by simp [hx]), fun x hx => h x (by simp [hx])⟩, fun h x hx => by rcases List.mem_append.1 hx with h1 | h1; exact h.1 x h1; exact h.2 x h1⟩
theorem bB {x : Pce} {a : List Pce} : Qp (x :: a) ↔ (x.Lead.length ≤ 1000000 ∧ x.Text.length ≤ 1000010) ∧ Qp a := ⟨fun h => ⟨h x (by simp), fun y hy => h y (by simp [hy])⟩, fun h y hy => by rcases List.mem_cons.1 hy with h1 | h1; subst h1; exact h.1; exact h.2 y h1⟩
theorem bR : Qp [] := fun x hx => by cases hx
theorem bg {t : Tree} (k : Nat) (ht : tbulk t ≤ 1000000) : ∃ s, aj t (k : Int) s ∧ s.length ≤ 1000000 := by
  by_cases h : (k : Int) < (t.leads.length : Nat)
  · obtain ⟨s, hs, _⟩ | h' := aS t.leads k
    · have := qj hs
      have := bv t
      exact ⟨s, lg 0 _ _ _ ⟨fun _ => ⟨k, rfl, s, hs, rfl⟩, fun h' => absurd h h'⟩, by omega⟩
    · omega
  · exact ⟨[], lg 0 _ _ _ ⟨fun h' => absurd h' h, fun _ => rfl⟩, by simp⟩
def Pok (t : Tree) : Prop := ∀ l, l.length + 8 * tbulk t ≤ 900000000 → ∃ r, ay l t r ∧ r.length + 1 ≤ l.length + 8 * tbulk t ∧ (Qp l → Qp r)
theorem qd {k n : Int} : ∀ {l : List Tree} {i : Nat}, shapeKs k n i l = true → ∀ j u, l[j]? = some u → jQ k n ((i + j : Nat) : Int) u.kind = true ∧ shapeK u = true
  | [], _, _, j, u, h => by simp at h
  | t :: r, i, hs, 0, u, h => by
    simp only [shapeKs, Bool.and_eq_true] at hs
    simp at h; subst h
    exact ⟨hs.1.1, hs.1.2⟩
  | t :: r, i, hs, j + 1, u, h => by
    simp only [shapeKs, Bool.and_eq_true] at hs
    have := qd hs.2 j u (by simpa using h)
    rw [show i + 1 + j = i + (j + 1) by omega] at this
    exact this
theorem sG {t u : Tree} {i : Nat} (hs : shapeK t = true) (hu : t.kids[i]? = some u) : shapeK u = true ∧ jQ t.kind t.kids.length i u.kind = true := by
  rw [dP] at hs
  simp only [Bool.and_eq_true] at hs
  have := qd hs.2 i u hu
  rw [Nat.zero_add] at this
  exact ⟨this.2, this.1⟩
theorem pe {t : Tree} (hs : shapeK t = true) : 0 ≤ dd t.kind t.kids.length := by
  rw [dP] at hs
  simp only [Bool.and_eq_true, decide_eq_true_eq] at hs
  exact hs.1.1
theorem fg {t : Tree} (hs : shapeK t = true) : (t.kind = 2 → 2 ≤ t.kids.length) ∧ (t.kind = 18 → 1 ≤ t.kids.length) ∧ (t.kind = 3 ∨ t.kind = 4 ∨ t.kind = 8 ∨ t.kind = 17 ∨ t.kind = 22 → t.kids.length = 1) ∧ (t.kind = 19 → t.kids.length = 3) ∧ (t.kind = 20 ∨ t.kind = 21 → t.kids.length = 2) := by
  have h := pe hs
  refine ⟨fun hk => ?_, fun hk => ?_, fun hk => ?_, fun hk => ?_, fun hk => ?_⟩
  · rw [hk] at h; simp only [dd, f0] at h; simp at h; omega
  · rw [hk] at h; simp only [dd, f0] at h; simp at h; omega
  · rcases hk with hk | hk | hk | hk | hk <;> (rw [hk] at h; simp only [dd, f0] at h; simp at h; omega)
  · rw [hk] at h; simp only [dd, f0] at h; simp at h; omega
  · rcases hk with hk | hk <;> (rw [hk] at h; simp only [dd, f0] at h; simp at h; omega)
theorem p_5 {t : Tree} (hk : t.kind = 5) (ht : tbulk t ≤ 1000000) : Pok t := fun l hl => by
  obtain ⟨s1, g1, b1⟩ := bg 0 ht
  have htp := bu t
  have M := 0
  refine ⟨l ++ [⟨s1, [73, 110, 116]⟩], ?_, by simp; omega, fun hq => by simp only [ca, bB]; exact ⟨hq, ⟨b1, by decide⟩, bR⟩⟩
  exact ax (M + 5) _ _ _ ⟨fun h => absurd (hk.symm.trans h) (by decide), fun _ => aB (M + 4) _ _ _ ⟨fun h => absurd (hk.symm.trans h) (by decide), fun _ => aE (M + 3) _ _ _ ⟨fun h => absurd (hk.symm.trans h) (by decide), fun _ => aH (M + 2) _ _ _ ⟨fun h => absurd (hk.symm.trans h) (by decide), fun _ => aL (M + 1) _ _ _ ⟨fun _ => ⟨_, g1, by simp; omega, rfl⟩, fun h => absurd hk h⟩⟩⟩⟩⟩
theorem p_6 {t : Tree} (hk : t.kind = 6) (ht : tbulk t ≤ 1000000) : Pok t := fun l hl => by
  obtain ⟨s1, g1, b1⟩ := bg 0 ht
  have htp := bu t
  have M := 0
  refine ⟨l ++ [⟨s1, [84, 101, 120, 116]⟩], ?_, by simp; omega, fun hq => by simp only [ca, bB]; exact ⟨hq, ⟨b1, by decide⟩, bR⟩⟩
  exact ax (M + 6) _ _ _ ⟨fun h => absurd (hk.symm.trans h) (by decide), fun _ => aB (M + 5) _ _ _ ⟨fun h => absurd (hk.symm.trans h) (by decide), fun _ => aE (M + 4) _ _ _ ⟨fun h => absurd (hk.symm.trans h) (by decide), fun _ => aH (M + 3) _ _ _ ⟨fun h => absurd (hk.symm.trans h) (by decide), fun _ => aL (M + 2) _ _ _ ⟨fun h => absurd (hk.symm.trans h) (by decide), fun _ => aR (M + 1) _ _ _ ⟨fun _ => ⟨_, g1, by simp; omega, rfl⟩, fun h => absurd hk h⟩⟩⟩⟩⟩⟩
theorem p_7 {t : Tree} (hk : t.kind = 7) (ht : tbulk t ≤ 1000000) : Pok t := fun l hl => by
  obtain ⟨s1, g1, b1⟩ := bg 0 ht
  have htp := bu t
  have M := 0
  refine ⟨l ++ [⟨s1, [66, 111, 111, 108]⟩], ?_, by simp; omega, fun hq => by simp only [ca, bB]; exact ⟨hq, ⟨b1, by decide⟩, bR⟩⟩
  exact ax (M + 7) _ _ _ ⟨fun h => absurd (hk.symm.trans h) (by decide), fun _ => aB (M + 6) _ _ _ ⟨fun h => absurd (hk.symm.trans h) (by decide), fun _ => aE (M + 5) _ _ _ ⟨fun h => absurd (hk.symm.trans h) (by decide), fun _ => aH (M + 4) _ _ _ ⟨fun h => absurd (hk.symm.trans h) (by decide), fun _ => aL (M + 3) _ _ _ ⟨fun h => absurd (hk.symm.trans h) (by decide), fun _ => aR (M + 2) _ _ _ ⟨fun h => absurd (hk.symm.trans h) (by decide), fun _ => aT (M + 1) _ _ _ ⟨fun _ => ⟨_, g1, by simp; omega, rfl⟩, fun h => absurd hk h⟩⟩⟩⟩⟩⟩⟩
theorem CS {t : Tree} (hk : t.kind = 13) (ht : tbulk t ≤ 1000000) : Pok t := fun l hl => by
  obtain ⟨s1, g1, b1⟩ := bg 0 ht
  have htp := bu t
  have M := 0
  refine ⟨l ++ [⟨s1, [116, 114, 117, 101]⟩], ?_, by simp; omega, fun hq => by simp only [ca, bB]; exact ⟨hq, ⟨b1, by decide⟩, bR⟩⟩
  exact ax (M + 8) _ _ _ ⟨fun h => absurd (hk.symm.trans h) (by decide), fun _ => aB (M + 7) _ _ _ ⟨fun h => absurd (hk.symm.trans h) (by decide), fun _ => aE (M + 6) _ _ _ ⟨fun h => absurd (hk.symm.trans h) (by decide), fun _ => aH (M + 5) _ _ _ ⟨fun h => absurd (hk.symm.trans h) (by decide), fun _ => aL (M + 4) _ _ _ ⟨fun h => absurd (hk.symm.trans h) (by decide), fun _ => aR (M + 3) _ _ _ ⟨fun h => absurd (hk.symm.trans h) (by decide), fun _ => aT (M + 2) _ _ _ ⟨fun h => absurd (hk.symm.trans h) (by decide), fun _ => aW (M + 1) _ _ _ ⟨fun _ => ⟨_, g1, by simp; omega, rfl⟩, fun h => absurd hk h⟩⟩⟩⟩⟩⟩⟩⟩
theorem C1 {t : Tree} (hk : t.kind = 14) (ht : tbulk t ≤ 1000000) : Pok t := fun l hl => by
  obtain ⟨s1, g1, b1⟩ := bg 0 ht
  have htp := bu t
  have M := 0
  refine ⟨l ++ [⟨s1, [102, 97, 108, 115, 101]⟩], ?_, by simp; omega, fun hq => by simp only [ca, bB]; exact ⟨hq, ⟨b1, by decide⟩, bR⟩⟩
  exact ax (M + 9) _ _ _ ⟨fun h => absurd (hk.symm.trans h) (by decide), fun _ => aB (M + 8) _ _ _ ⟨fun h => absurd (hk.symm.trans h) (by decide), fun _ => aE (M + 7) _ _ _ ⟨fun h => absurd (hk.symm.trans h) (by decide), fun _ => aH (M + 6) _ _ _ ⟨fun h => absurd (hk.symm.trans h) (by decide), fun _ => aL (M + 5) _ _ _ ⟨fun h => absurd (hk.symm.trans h) (by decide), fun _ => aR (M + 4) _ _ _ ⟨fun h => absurd (hk.symm.trans h) (by decide), fun _ => aT (M + 3) _ _ _ ⟨fun h => absurd (hk.symm.trans h) (by decide), fun _ => aW (M + 2) _ _ _ ⟨fun h => absurd (hk.symm.trans h) (by decide), fun _ => aZ (M + 1) _ _ _ ⟨fun _ => ⟨_, g1, by simp; omega, rfl⟩, fun h => absurd hk h⟩⟩⟩⟩⟩⟩⟩⟩⟩
theorem C2 {t : Tree} (hk : t.kind = 15) (ht : tbulk t ≤ 1000000) : Pok t := fun l hl => by
  obtain ⟨s1, g1, b1⟩ := bg 0 ht
  have htp := bu t
  have M := 0
  refine ⟨l ++ [⟨s1, [63]⟩], ?_, by simp; omega, fun hq => by simp only [ca, bB]; exact ⟨hq, ⟨b1, by decide⟩, bR⟩⟩
  exact ax (M + 10) _ _ _ ⟨fun h => absurd (hk.symm.trans h) (by decide), fun _ => aB (M + 9) _ _ _ ⟨fun h => absurd (hk.symm.trans h) (by decide), fun _ => aE (M + 8) _ _ _ ⟨fun h => absurd (hk.symm.trans h) (by decide), fun _ => aH (M + 7) _ _ _ ⟨fun h => absurd (hk.symm.trans h) (by decide), fun _ => aL (M + 6) _ _ _ ⟨fun h => absurd (hk.symm.trans h) (by decide), fun _ => aR (M + 5) _ _ _ ⟨fun h => absurd (hk.symm.trans h) (by decide), fun _ => aT (M + 4) _ _ _ ⟨fun h => absurd (hk.symm.trans h) (by decide), fun _ => aW (M + 3) _ _ _ ⟨fun h => absurd (hk.symm.trans h) (by decide), fun _ => aZ (M + 2) _ _ _ ⟨fun h => absurd (hk.symm.trans h) (by decide), fun _ => bf (M + 1) _ _ _ ⟨fun _ => ⟨_, g1, by simp; omega, rfl⟩, fun h => absurd hk h⟩⟩⟩⟩⟩⟩⟩⟩⟩⟩
theorem og {l : List Tree} {u : Tree} (h0 : l[0]? = some u) : tbulk u ≤ kbulk l := dz h0
theorem rV {l : List Tree} {u v : Tree} (h0 : l[0]? = some u) (h1 : l[1]? = some v) : tbulk u + tbulk v ≤ kbulk l := by
  match l, h0, h1 with
  | a :: r, h0, h1 => simp at h0; subst h0; have := dz (ks := r) (i := 0) (by simpa using h1); simp only [kbulk]; omega
theorem AH {l : List Tree} {u v x : Tree} (h0 : l[0]? = some u) (h1 : l[1]? = some v) (h2 : l[2]? = some x) : tbulk u + tbulk v + tbulk x ≤ kbulk l := by
  match l, h0, h1, h2 with
  | a :: r, h0, h1, h2 => simp at h0; subst h0; have := rV (l := r) (by simpa using h1) (by simpa using h2); simp only [kbulk]; omega
theorem p_3 {t : Tree} (hk : t.kind = 3) (hs : shapeK t = true) (ht : tbulk t ≤ 1000000) (ih : ∀ (i : Nat) (u : Tree), t.kids[i]? = some u → Pok u) : Pok t := fun l hl => by
  have htp := bu t
  have htx := cd t
  have hn := fg hs
  have M := 0
  have hkn : t.kids.length = 1 := hn.2.2.1 (by simp [hk])
  obtain ⟨u0, hu0, _⟩ | h' := aS t.kids 0
  rotate_left
  · omega
  have hsum : tbulk u0 + 1 ≤ tbulk t := by
    have hb := bv t
    have hx := og hu0
    omega
  obtain ⟨s1, g1, b1⟩ := bg 0 ht
  obtain ⟨s2, g2, b2⟩ := bg 1 ht
  obtain ⟨s3, g3, b3⟩ := bg 2 ht
  have q1 : Qp l → Qp (l ++ [⟨s1, [116, 121, 112, 101]⟩, ⟨s2, t.text⟩, ⟨s3, [61]⟩]) := fun hq => by simp only [ca, bB]; exact ⟨hq, ⟨b1, by decide⟩, ⟨b2, by omega⟩, ⟨b3, by decide⟩, bR⟩
  obtain ⟨r0, e0, z0, y0⟩ := ih 0 u0 hu0 (l ++ [⟨s1, [116, 121, 112, 101]⟩, ⟨s2, t.text⟩, ⟨s3, [61]⟩]) (by first | omega | (simp only [List.length_append, List.length_cons, List.length_nil]; omega))
  try simp only [List.length_append, List.length_cons, List.length_nil] at z0
  refine ⟨r0, ?_, by first | omega | (simp only [List.length_append, List.length_cons, List.length_nil]; omega), fun hq => (y0 (q1 hq))⟩
  exact ax (M + 3) _ _ _ ⟨fun h => absurd (hk.symm.trans h) (by decide), fun _ => aB (M + 2) _ _ _ ⟨fun h => absurd (hk.symm.trans h) (by decide), fun _ => aE (M + 1) _ _ _ ⟨fun _ => nE (M) _ _ _ ⟨_, g1, _, g2, _, g3, by simp; omega, u0, hu0, _, e0, rfl⟩, fun h => absurd hk h⟩⟩⟩
theorem p_4 {t : Tree} (hk : t.kind = 4) (hs : shapeK t = true) (ht : tbulk t ≤ 1000000) (ih : ∀ (i : Nat) (u : Tree), t.kids[i]? = some u → Pok u) : Pok t := fun l hl => by
  have htp := bu t
  have htx := cd t
  have hn := fg hs
  have M := 0
  have hkn : t.kids.length = 1 := hn.2.2.1 (by simp [hk])
  obtain ⟨u0, hu0, _⟩ | h' := aS t.kids 0
  rotate_left
  · omega
  have hsum : tbulk u0 + 1 ≤ tbulk t := by
    have hb := bv t
    have hx := og hu0
    omega
  obtain ⟨s1, g1, b1⟩ := bg 0 ht
  obtain ⟨s2, g2, b2⟩ := bg 1 ht
  have q1 : Qp l → Qp (l ++ [⟨s1, t.text⟩, ⟨s2, [58]⟩]) := fun hq => by simp only [ca, bB]; exact ⟨hq, ⟨b1, by omega⟩, ⟨b2, by decide⟩, bR⟩
  obtain ⟨r0, e0, z0, y0⟩ := ih 0 u0 hu0 (l ++ [⟨s1, t.text⟩, ⟨s2, [58]⟩]) (by first | omega | (simp only [List.length_append, List.length_cons, List.length_nil]; omega))
  try simp only [List.length_append, List.length_cons, List.length_nil] at z0
  refine ⟨r0, ?_, by first | omega | (simp only [List.length_append, List.length_cons, List.length_nil]; omega), fun hq => (y0 (q1 hq))⟩
  exact ax (M + 4) _ _ _ ⟨fun h => absurd (hk.symm.trans h) (by decide), fun _ => aB (M + 3) _ _ _ ⟨fun h => absurd (hk.symm.trans h) (by decide), fun _ => aE (M + 2) _ _ _ ⟨fun h => absurd (hk.symm.trans h) (by decide), fun _ => aH (M + 1) _ _ _ ⟨fun _ => nH (M) _ _ _ ⟨_, g1, _, g2, by simp; omega, u0, hu0, _, e0, rfl⟩, fun h => absurd hk h⟩⟩⟩⟩
theorem p_8 {t : Tree} (hk : t.kind = 8) (hs : shapeK t = true) (ht : tbulk t ≤ 1000000) (ih : ∀ (i : Nat) (u : Tree), t.kids[i]? = some u → Pok u) : Pok t := fun l hl => by
  have htp := bu t
  have htx := cd t
  have hn := fg hs
  have M := 0
  have hkn : t.kids.length = 1 := hn.2.2.1 (by simp [hk])
  obtain ⟨u0, hu0, _⟩ | h' := aS t.kids 0
  rotate_left
  · omega
  have hsum : tbulk u0 + 1 ≤ tbulk t := by
    have hb := bv t
    have hx := og hu0
    omega
  obtain ⟨s1, g1, b1⟩ := bg 0 ht
  have q1 : Qp l → Qp (l ++ [⟨s1, [91]⟩]) := fun hq => by simp only [ca, bB]; exact ⟨hq, ⟨b1, by decide⟩, bR⟩
  obtain ⟨r0, e0, z0, y0⟩ := ih 0 u0 hu0 (l ++ [⟨s1, [91]⟩]) (by first | omega | (simp only [List.length_append, List.length_cons, List.length_nil]; omega))
  try simp only [List.length_append, List.length_cons, List.length_nil] at z0
  obtain ⟨s2, g2, b2⟩ := bg 1 ht
  have q3 : Qp r0 → Qp (r0 ++ [⟨s2, [93]⟩]) := fun hq => by simp only [ca, bB]; exact ⟨hq, ⟨b2, by decide⟩, bR⟩
  refine ⟨(r0 ++ [⟨s2, [93]⟩]), ?_, by first | omega | (simp only [List.length_append, List.length_cons, List.length_nil]; omega), fun hq => (q3 (y0 (q1 hq)))⟩
  exact ax (M + 11) _ _ _ ⟨fun h => absurd (hk.symm.trans h) (by decide), fun _ => aB (M + 10) _ _ _ ⟨fun h => absurd (hk.symm.trans h) (by decide), fun _ => aE (M + 9) _ _ _ ⟨fun h => absurd (hk.symm.trans h) (by decide), fun _ => aH (M + 8) _ _ _ ⟨fun h => absurd (hk.symm.trans h) (by decide), fun _ => aL (M + 7) _ _ _ ⟨fun h => absurd (hk.symm.trans h) (by decide), fun _ => aR (M + 6) _ _ _ ⟨fun h => absurd (hk.symm.trans h) (by decide), fun _ => aT (M + 5) _ _ _ ⟨fun h => absurd (hk.symm.trans h) (by decide), fun _ => aW (M + 4) _ _ _ ⟨fun h => absurd (hk.symm.trans h) (by decide), fun _ => aZ (M + 3) _ _ _ ⟨fun h => absurd (hk.symm.trans h) (by decide), fun _ => bf (M + 2) _ _ _ ⟨fun h => absurd (hk.symm.trans h) (by decide), fun _ => bm (M + 1) _ _ _ ⟨fun _ => ni (M) _ _ _ ⟨_, g1, by simp; omega, u0, hu0, _, e0, _, g2, by simp; omega, rfl⟩, fun h => absurd hk h⟩⟩⟩⟩⟩⟩⟩⟩⟩⟩⟩
theorem C4 {t : Tree} (hk : t.kind = 17) (hs : shapeK t = true) (ht : tbulk t ≤ 1000000) (ih : ∀ (i : Nat) (u : Tree), t.kids[i]? = some u → Pok u) : Pok t := fun l hl => by
  have htp := bu t
  have htx := cd t
  have hn := fg hs
  have M := 0
  have hkn : t.kids.length = 1 := hn.2.2.1 (by simp [hk])
  obtain ⟨u0, hu0, _⟩ | h' := aS t.kids 0
  rotate_left
  · omega
  have hsum : tbulk u0 + 1 ≤ tbulk t := by
    have hb := bv t
    have hx := og hu0
    omega
  obtain ⟨r0, e0, z0, y0⟩ := ih 0 u0 hu0 l (by first | omega | (simp only [List.length_append, List.length_cons, List.length_nil]; omega))
  try simp only [List.length_append, List.length_cons, List.length_nil] at z0
  refine ⟨r0, ?_, by first | omega | (simp only [List.length_append, List.length_cons, List.length_nil]; omega), fun hq => (y0 hq)⟩
  exact ax (M + 13) _ _ _ ⟨fun h => absurd (hk.symm.trans h) (by decide), fun _ => aB (M + 12) _ _ _ ⟨fun h => absurd (hk.symm.trans h) (by decide), fun _ => aE (M + 11) _ _ _ ⟨fun h => absurd (hk.symm.trans h) (by decide), fun _ => aH (M + 10) _ _ _ ⟨fun h => absurd (hk.symm.trans h) (by decide), fun _ => aL (M + 9) _ _ _ ⟨fun h => absurd (hk.symm.trans h) (by decide), fun _ => aR (M + 8) _ _ _ ⟨fun h => absurd (hk.symm.trans h) (by decide), fun _ => aT (M + 7) _ _ _ ⟨fun h => absurd (hk.symm.trans h) (by decide), fun _ => aW (M + 6) _ _ _ ⟨fun h => absurd (hk.symm.trans h) (by decide), fun _ => aZ (M + 5) _ _ _ ⟨fun h => absurd (hk.symm.trans h) (by decide), fun _ => bf (M + 4) _ _ _ ⟨fun h => absurd (hk.symm.trans h) (by decide), fun _ => bm (M + 3) _ _ _ ⟨fun h => absurd (hk.symm.trans h) (by decide), fun _ => bF (M + 2) _ _ _ ⟨fun h => absurd (hk.symm.trans h) (by decide), fun _ => bV (M + 1) _ _ _ ⟨fun _ => ⟨u0, hu0, _, e0, rfl⟩, fun h => absurd hk h⟩⟩⟩⟩⟩⟩⟩⟩⟩⟩⟩⟩⟩
theorem CK {t : Tree} (hk : t.kind = 19) (hs : shapeK t = true) (ht : tbulk t ≤ 1000000) (ih : ∀ (i : Nat) (u : Tree), t.kids[i]? = some u → Pok u) : Pok t := fun l hl => by
  have htp := bu t
  have htx := cd t
  have hn := fg hs
  have M := 0
  have hkn : t.kids.length = 3 := hn.2.2.2.1 hk
  obtain ⟨u0, hu0, _⟩ | h' := aS t.kids 0
  rotate_left
  · omega
  obtain ⟨u1, hu1, _⟩ | h' := aS t.kids 1
  rotate_left
  · omega
  obtain ⟨u2, hu2, _⟩ | h' := aS t.kids 2
  rotate_left
  · omega
  have hsum : tbulk u0 + tbulk u1 + tbulk u2 + 1 ≤ tbulk t := by
    have hb := bv t
    have hx := AH hu0 hu1 hu2
    omega
  obtain ⟨s1, g1, b1⟩ := bg 0 ht
  have q1 : Qp l → Qp (l ++ [⟨s1, [105, 102]⟩]) := fun hq => by simp only [ca, bB]; exact ⟨hq, ⟨b1, by decide⟩, bR⟩
  obtain ⟨r0, e0, z0, y0⟩ := ih 0 u0 hu0 (l ++ [⟨s1, [105, 102]⟩]) (by first | omega | (simp only [List.length_append, List.length_cons, List.length_nil]; omega))
  try simp only [List.length_append, List.length_cons, List.length_nil] at z0
  obtain ⟨s2, g2, b2⟩ := bg 1 ht
  have q3 : Qp r0 → Qp (r0 ++ [⟨s2, [116, 104, 101, 110]⟩]) := fun hq => by simp only [ca, bB]; exact ⟨hq, ⟨b2, by decide⟩, bR⟩
  obtain ⟨r1, e1, z1, y1⟩ := ih 1 u1 hu1 (r0 ++ [⟨s2, [116, 104, 101, 110]⟩]) (by first | omega | (simp only [List.length_append, List.length_cons, List.length_nil]; omega))
  try simp only [List.length_append, List.length_cons, List.length_nil] at z1
  obtain ⟨s3, g3, b3⟩ := bg 2 ht
  have q5 : Qp r1 → Qp (r1 ++ [⟨s3, [101, 108, 115, 101]⟩]) := fun hq => by simp only [ca, bB]; exact ⟨hq, ⟨b3, by decide⟩, bR⟩
  obtain ⟨r2, e2, z2, y2⟩ := ih 2 u2 hu2 (r1 ++ [⟨s3, [101, 108, 115, 101]⟩]) (by first | omega | (simp only [List.length_append, List.length_cons, List.length_nil]; omega))
  try simp only [List.length_append, List.length_cons, List.length_nil] at z2
  refine ⟨r2, ?_, by first | omega | (simp only [List.length_append, List.length_cons, List.length_nil]; omega), fun hq => (y2 (q5 (y1 (q3 (y0 (q1 hq))))))⟩
  exact ax (M + 15) _ _ _ ⟨fun h => absurd (hk.symm.trans h) (by decide), fun _ => aB (M + 14) _ _ _ ⟨fun h => absurd (hk.symm.trans h) (by decide), fun _ => aE (M + 13) _ _ _ ⟨fun h => absurd (hk.symm.trans h) (by decide), fun _ => aH (M + 12) _ _ _ ⟨fun h => absurd (hk.symm.trans h) (by decide), fun _ => aL (M + 11) _ _ _ ⟨fun h => absurd (hk.symm.trans h) (by decide), fun _ => aR (M + 10) _ _ _ ⟨fun h => absurd (hk.symm.trans h) (by decide), fun _ => aT (M + 9) _ _ _ ⟨fun h => absurd (hk.symm.trans h) (by decide), fun _ => aW (M + 8) _ _ _ ⟨fun h => absurd (hk.symm.trans h) (by decide), fun _ => aZ (M + 7) _ _ _ ⟨fun h => absurd (hk.symm.trans h) (by decide), fun _ => bf (M + 6) _ _ _ ⟨fun h => absurd (hk.symm.trans h) (by decide), fun _ => bm (M + 5) _ _ _ ⟨fun h => absurd (hk.symm.trans h) (by decide), fun _ => bF (M + 4) _ _ _ ⟨fun h => absurd (hk.symm.trans h) (by decide), fun _ => bV (M + 3) _ _ _ ⟨fun h => absurd (hk.symm.trans h) (by decide), fun _ => ch (M + 2) _ _ _ ⟨fun h => absurd (hk.symm.trans h) (by decide), fun _ => cQ (M + 1) _ _ _ ⟨fun _ => nc (M) _ _ _ ⟨u0, hu0, _, g1, by simp; omega, _, e0, u1, hu1, _, g2, by simp; omega, _, e1, u2, hu2, _, g3, by simp; omega, _, e2, rfl⟩, fun h => absurd hk h⟩⟩⟩⟩⟩⟩⟩⟩⟩⟩⟩⟩⟩⟩⟩
theorem CZ {t : Tree} (hk : t.kind = 20) (hs : shapeK t = true) (ht : tbulk t ≤ 1000000) (ih : ∀ (i : Nat) (u : Tree), t.kids[i]? = some u → Pok u) : Pok t := fun l hl => by
  have htp := bu t
  have htx := cd t
  have hn := fg hs
  have M := 0
  have hkn : t.kids.length = 2 := hn.2.2.2.2 (by simp [hk])
  obtain ⟨u0, hu0, _⟩ | h' := aS t.kids 0
  rotate_left
  · omega
  obtain ⟨u1, hu1, _⟩ | h' := aS t.kids 1
  rotate_left
  · omega
  have hsum : tbulk u0 + tbulk u1 + 1 ≤ tbulk t := by
    have hb := bv t
    have hx := rV hu0 hu1
    omega
  obtain ⟨s1, g1, b1⟩ := bg 0 ht
  obtain ⟨s2, g2, b2⟩ := bg 1 ht
  obtain ⟨s3, g3, b3⟩ := bg 2 ht
  have q1 : Qp l → Qp (l ++ [⟨s1, [108, 101, 116]⟩, ⟨s2, t.text⟩, ⟨s3, [61]⟩]) := fun hq => by simp only [ca, bB]; exact ⟨hq, ⟨b1, by decide⟩, ⟨b2, by omega⟩, ⟨b3, by decide⟩, bR⟩
  obtain ⟨r0, e0, z0, y0⟩ := ih 0 u0 hu0 (l ++ [⟨s1, [108, 101, 116]⟩, ⟨s2, t.text⟩, ⟨s3, [61]⟩]) (by first | omega | (simp only [List.length_append, List.length_cons, List.length_nil]; omega))
  try simp only [List.length_append, List.length_cons, List.length_nil] at z0
  obtain ⟨s4, g4, b4⟩ := bg 3 ht
  have q3 : Qp r0 → Qp (r0 ++ [⟨s4, [105, 110]⟩]) := fun hq => by simp only [ca, bB]; exact ⟨hq, ⟨b4, by decide⟩, bR⟩
  obtain ⟨r1, e1, z1, y1⟩ := ih 1 u1 hu1 (r0 ++ [⟨s4, [105, 110]⟩]) (by first | omega | (simp only [List.length_append, List.length_cons, List.length_nil]; omega))
  try simp only [List.length_append, List.length_cons, List.length_nil] at z1
  refine ⟨r1, ?_, by first | omega | (simp only [List.length_append, List.length_cons, List.length_nil]; omega), fun hq => (y1 (q3 (y0 (q1 hq))))⟩
  exact ax (M + 16) _ _ _ ⟨fun h => absurd (hk.symm.trans h) (by decide), fun _ => aB (M + 15) _ _ _ ⟨fun h => absurd (hk.symm.trans h) (by decide), fun _ => aE (M + 14) _ _ _ ⟨fun h => absurd (hk.symm.trans h) (by decide), fun _ => aH (M + 13) _ _ _ ⟨fun h => absurd (hk.symm.trans h) (by decide), fun _ => aL (M + 12) _ _ _ ⟨fun h => absurd (hk.symm.trans h) (by decide), fun _ => aR (M + 11) _ _ _ ⟨fun h => absurd (hk.symm.trans h) (by decide), fun _ => aT (M + 10) _ _ _ ⟨fun h => absurd (hk.symm.trans h) (by decide), fun _ => aW (M + 9) _ _ _ ⟨fun h => absurd (hk.symm.trans h) (by decide), fun _ => aZ (M + 8) _ _ _ ⟨fun h => absurd (hk.symm.trans h) (by decide), fun _ => bf (M + 7) _ _ _ ⟨fun h => absurd (hk.symm.trans h) (by decide), fun _ => bm (M + 6) _ _ _ ⟨fun h => absurd (hk.symm.trans h) (by decide), fun _ => bF (M + 5) _ _ _ ⟨fun h => absurd (hk.symm.trans h) (by decide), fun _ => bV (M + 4) _ _ _ ⟨fun h => absurd (hk.symm.trans h) (by decide), fun _ => ch (M + 3) _ _ _ ⟨fun h => absurd (hk.symm.trans h) (by decide), fun _ => cQ (M + 2) _ _ _ ⟨fun h => absurd (hk.symm.trans h) (by decide), fun _ => dT (M + 1) _ _ _ ⟨fun _ => m9 (M) _ _ _ ⟨_, g1, _, g2, _, g3, by simp; omega, u0, hu0, _, e0, _, g4, by simp; omega, u1, hu1, _, e1, rfl⟩, fun h => absurd hk h⟩⟩⟩⟩⟩⟩⟩⟩⟩⟩⟩⟩⟩⟩⟩⟩
theorem CL {t : Tree} (hk : t.kind = 21) (hs : shapeK t = true) (ht : tbulk t ≤ 1000000) (ih : ∀ (i : Nat) (u : Tree), t.kids[i]? = some u → Pok u) : Pok t := fun l hl => by
  have htp := bu t
  have htx := cd t
  have hn := fg hs
  have M := 0
  have hkn : t.kids.length = 2 := hn.2.2.2.2 (by simp [hk])
  obtain ⟨u0, hu0, _⟩ | h' := aS t.kids 0
  rotate_left
  · omega
  obtain ⟨u1, hu1, _⟩ | h' := aS t.kids 1
  rotate_left
  · omega
  have hsum : tbulk u0 + tbulk u1 + 1 ≤ tbulk t := by
    have hb := bv t
    have hx := rV hu0 hu1
    omega
  obtain ⟨r0, e0, z0, y0⟩ := ih 0 u0 hu0 l (by first | omega | (simp only [List.length_append, List.length_cons, List.length_nil]; omega))
  try simp only [List.length_append, List.length_cons, List.length_nil] at z0
  obtain ⟨s1, g1, b1⟩ := bg 0 ht
  have q2 : Qp r0 → Qp (r0 ++ [⟨s1, t.text⟩]) := fun hq => by simp only [ca, bB]; exact ⟨hq, ⟨b1, by omega⟩, bR⟩
  obtain ⟨r1, e1, z1, y1⟩ := ih 1 u1 hu1 (r0 ++ [⟨s1, t.text⟩]) (by first | omega | (simp only [List.length_append, List.length_cons, List.length_nil]; omega))
  try simp only [List.length_append, List.length_cons, List.length_nil] at z1
  refine ⟨r1, ?_, by first | omega | (simp only [List.length_append, List.length_cons, List.length_nil]; omega), fun hq => (y1 (q2 (y0 hq)))⟩
  exact ax (M + 17) _ _ _ ⟨fun h => absurd (hk.symm.trans h) (by decide), fun _ => aB (M + 16) _ _ _ ⟨fun h => absurd (hk.symm.trans h) (by decide), fun _ => aE (M + 15) _ _ _ ⟨fun h => absurd (hk.symm.trans h) (by decide), fun _ => aH (M + 14) _ _ _ ⟨fun h => absurd (hk.symm.trans h) (by decide), fun _ => aL (M + 13) _ _ _ ⟨fun h => absurd (hk.symm.trans h) (by decide), fun _ => aR (M + 12) _ _ _ ⟨fun h => absurd (hk.symm.trans h) (by decide), fun _ => aT (M + 11) _ _ _ ⟨fun h => absurd (hk.symm.trans h) (by decide), fun _ => aW (M + 10) _ _ _ ⟨fun h => absurd (hk.symm.trans h) (by decide), fun _ => aZ (M + 9) _ _ _ ⟨fun h => absurd (hk.symm.trans h) (by decide), fun _ => bf (M + 8) _ _ _ ⟨fun h => absurd (hk.symm.trans h) (by decide), fun _ => bm (M + 7) _ _ _ ⟨fun h => absurd (hk.symm.trans h) (by decide), fun _ => bF (M + 6) _ _ _ ⟨fun h => absurd (hk.symm.trans h) (by decide), fun _ => bV (M + 5) _ _ _ ⟨fun h => absurd (hk.symm.trans h) (by decide), fun _ => ch (M + 4) _ _ _ ⟨fun h => absurd (hk.symm.trans h) (by decide), fun _ => cQ (M + 3) _ _ _ ⟨fun h => absurd (hk.symm.trans h) (by decide), fun _ => dT (M + 2) _ _ _ ⟨fun h => absurd (hk.symm.trans h) (by decide), fun _ => fL (M + 1) _ _ _ ⟨fun _ => nd (M) _ _ _ ⟨u0, hu0, _, e0, _, g1, by simp; omega, u1, hu1, _, e1, rfl⟩, fun h => absurd hk h⟩⟩⟩⟩⟩⟩⟩⟩⟩⟩⟩⟩⟩⟩⟩⟩⟩
theorem CY {t : Tree} (hk : t.kind = 22) (hs : shapeK t = true) (ht : tbulk t ≤ 1000000) (ih : ∀ (i : Nat) (u : Tree), t.kids[i]? = some u → Pok u) : Pok t := fun l hl => by
  have htp := bu t
  have htx := cd t
  have hn := fg hs
  have M := 0
  have hkn : t.kids.length = 1 := hn.2.2.1 (by simp [hk])
  obtain ⟨u0, hu0, _⟩ | h' := aS t.kids 0
  rotate_left
  · omega
  have hsum : tbulk u0 + 1 ≤ tbulk t := by
    have hb := bv t
    have hx := og hu0
    omega
  obtain ⟨s1, g1, b1⟩ := bg 0 ht
  have q1 : Qp l → Qp (l ++ [⟨s1, [40]⟩]) := fun hq => by simp only [ca, bB]; exact ⟨hq, ⟨b1, by decide⟩, bR⟩
  obtain ⟨r0, e0, z0, y0⟩ := ih 0 u0 hu0 (l ++ [⟨s1, [40]⟩]) (by first | omega | (simp only [List.length_append, List.length_cons, List.length_nil]; omega))
  try simp only [List.length_append, List.length_cons, List.length_nil] at z0
  obtain ⟨s2, g2, b2⟩ := bg 1 ht
  have q3 : Qp r0 → Qp (r0 ++ [⟨s2, [41]⟩]) := fun hq => by simp only [ca, bB]; exact ⟨hq, ⟨b2, by decide⟩, bR⟩
  refine ⟨(r0 ++ [⟨s2, [41]⟩]), ?_, by first | omega | (simp only [List.length_append, List.length_cons, List.length_nil]; omega), fun hq => (q3 (y0 (q1 hq)))⟩
  exact ax (M + 18) _ _ _ ⟨fun h => absurd (hk.symm.trans h) (by decide), fun _ => aB (M + 17) _ _ _ ⟨fun h => absurd (hk.symm.trans h) (by decide), fun _ => aE (M + 16) _ _ _ ⟨fun h => absurd (hk.symm.trans h) (by decide), fun _ => aH (M + 15) _ _ _ ⟨fun h => absurd (hk.symm.trans h) (by decide), fun _ => aL (M + 14) _ _ _ ⟨fun h => absurd (hk.symm.trans h) (by decide), fun _ => aR (M + 13) _ _ _ ⟨fun h => absurd (hk.symm.trans h) (by decide), fun _ => aT (M + 12) _ _ _ ⟨fun h => absurd (hk.symm.trans h) (by decide), fun _ => aW (M + 11) _ _ _ ⟨fun h => absurd (hk.symm.trans h) (by decide), fun _ => aZ (M + 10) _ _ _ ⟨fun h => absurd (hk.symm.trans h) (by decide), fun _ => bf (M + 9) _ _ _ ⟨fun h => absurd (hk.symm.trans h) (by decide), fun _ => bm (M + 8) _ _ _ ⟨fun h => absurd (hk.symm.trans h) (by decide), fun _ => bF (M + 7) _ _ _ ⟨fun h => absurd (hk.symm.trans h) (by decide), fun _ => bV (M + 6) _ _ _ ⟨fun h => absurd (hk.symm.trans h) (by decide), fun _ => ch (M + 5) _ _ _ ⟨fun h => absurd (hk.symm.trans h) (by decide), fun _ => cQ (M + 4) _ _ _ ⟨fun h => absurd (hk.symm.trans h) (by decide), fun _ => dT (M + 3) _ _ _ ⟨fun h => absurd (hk.symm.trans h) (by decide), fun _ => fL (M + 2) _ _ _ ⟨fun h => absurd (hk.symm.trans h) (by decide), fun _ => i6 (M + 1) _ _ _ ⟨fun _ => ng (M) _ _ _ ⟨_, g1, by simp; omega, u0, hu0, _, e0, _, g2, by simp; omega, rfl⟩, fun h => absurd hk h⟩⟩⟩⟩⟩⟩⟩⟩⟩⟩⟩⟩⟩⟩⟩⟩⟩⟩
theorem BU {t : Tree} (hn : ∀ c : Int, c ∈ [(1 : Int), 2, 3, 4, 5, 6, 7, 13, 14, 15, 8, 16, 17, 18, 19, 20, 21, 22] → t.kind ≠ c) (ht : tbulk t ≤ 1000000) : Pok t := fun l hl => by
  obtain ⟨s1, g1, b1⟩ := bg 0 ht
  have htp := bu t
  have htx := cd t
  have M := 0
  refine ⟨l ++ [⟨s1, t.text⟩], ?_, by simp; omega, fun hq => by simp only [ca, bB]; exact ⟨hq, ⟨b1, by omega⟩, bR⟩⟩
  exact ax (M + 18) _ _ _ ⟨fun h => absurd h (hn 1 (by decide)), fun _ => aB (M + 17) _ _ _ ⟨fun h => absurd h (hn 2 (by decide)), fun _ => aE (M + 16) _ _ _ ⟨fun h => absurd h (hn 3 (by decide)), fun _ => aH (M + 15) _ _ _ ⟨fun h => absurd h (hn 4 (by decide)), fun _ => aL (M + 14) _ _ _ ⟨fun h => absurd h (hn 5 (by decide)), fun _ => aR (M + 13) _ _ _ ⟨fun h => absurd h (hn 6 (by decide)), fun _ => aT (M + 12) _ _ _ ⟨fun h => absurd h (hn 7 (by decide)), fun _ => aW (M + 11) _ _ _ ⟨fun h => absurd h (hn 13 (by decide)), fun _ => aZ (M + 10) _ _ _ ⟨fun h => absurd h (hn 14 (by decide)), fun _ => bf (M + 9) _ _ _ ⟨fun h => absurd h (hn 15 (by decide)), fun _ => bm (M + 8) _ _ _ ⟨fun h => absurd h (hn 8 (by decide)), fun _ => bF (M + 7) _ _ _ ⟨fun h => absurd h (hn 16 (by decide)), fun _ => bV (M + 6) _ _ _ ⟨fun h => absurd h (hn 17 (by decide)), fun _ => ch (M + 5) _ _ _ ⟨fun h => absurd h (hn 18 (by decide)), fun _ => cQ (M + 4) _ _ _ ⟨fun h => absurd h (hn 19 (by decide)), fun _ => dT (M + 3) _ _ _ ⟨fun h => absurd h (hn 20 (by decide)), fun _ => fL (M + 2) _ _ _ ⟨fun h => absurd h (hn 21 (by decide)), fun _ => i6 (M + 1) _ _ _ ⟨fun h => absurd h (hn 22 (by decide)), fun _ => ⟨_, g1, by simp; omega, rfl⟩⟩⟩⟩⟩⟩⟩⟩⟩⟩⟩⟩⟩⟩⟩⟩⟩⟩⟩
theorem wm {t : Tree} (ht : tbulk t ≤ 1000000) (ih : ∀ (i : Nat) (u : Tree), t.kids[i]? = some u → Pok u) (n comma : Nat) (hn : n ≤ t.kids.length) (hc : comma ≤ 10) : ∀ l, l.length + 8 * kbulk (t.kids.take n) ≤ 899999999 → ∃ r, dO l t 0 (n : Int) (comma : Int) r ∧ r.length ≤ l.length + 8 * kbulk (t.kids.take n) ∧ (Qp l → Qp r) := by
  have hk := dk t
  have loop : ∀ k i l, n - i ≤ k → i ≤ n → l.length + 8 * kbulk ((t.kids.take n).drop i) ≤ 899999999 → ∃ r, eo (k + 1) t 0 (n : Int) (comma : Int) l (i : Int) r ∧ r.length ≤ l.length + 8 * kbulk ((t.kids.take n).drop i) ∧ (Qp l → Qp r) := fun k => by
    induction k with
    | zero =>
      intro i l hi hle hl
      exact ⟨l, fD 0 _ _ _ _ _ _ _ ⟨fun h => by omega, fun _ => rfl⟩, by omega, fun h => h⟩
    | succ k ihk =>
      intro i l hi hle hl
      by_cases hin : i < n
      · obtain ⟨u, hu, hul⟩ | h' := aS t.kids i
        · have hu' : (t.kids.take n)[i]? = some u := by rw [List.getElem?_take, if_pos hin]; exact hu
          have hd := bO hu'
          rw [hd, kbulk] at hl ⊢
          have hup := bu u
          by_cases h0 : 0 < i
          · obtain ⟨s, g, b⟩ := bg (t := t) (comma + i - 1) ht
            have g' : aj t ((((comma : Int) + (i : Int)) - 0) - 1) s := by rw [show (((comma : Int) + (i : Int)) - 0) - 1 = ((comma + i - 1 : Nat) : Int) by omega]; exact g
            obtain ⟨r, e, z, y⟩ := ih i u hu (l ++ [⟨s, [44]⟩]) (by simp; omega)
            simp only [List.length_append, List.length_cons, List.length_nil] at z
            obtain ⟨r2, e2, z2, y2⟩ := ihk (i + 1) r (by omega) (by omega) (by omega)
            refine ⟨r2, fD (k + 1) _ _ _ _ _ _ _ ⟨fun _ => ⟨fun _ => ⟨by omega, by omega, by omega, s, g', by simp; omega, i, rfl, u, hu, r, e, by omega, ?_⟩, fun h => by omega⟩, fun h => by omega⟩, by omega, fun hq => y2 (y (by simp only [ca, bB]; exact ⟨hq, ⟨b, by decide⟩, bR⟩))⟩
            exact e2
          · obtain ⟨r, e, z, y⟩ := ih i u hu l (by omega)
            obtain ⟨r2, e2, z2, y2⟩ := ihk (i + 1) r (by omega) (by omega) (by omega)
            refine ⟨r2, fD (k + 1) _ _ _ _ _ _ _ ⟨fun _ => ⟨fun h => by omega, fun _ => ⟨i, rfl, u, hu, r, e, by omega, e2⟩⟩, fun h => by omega⟩, by omega, fun hq => y2 (y hq)⟩
        · omega
      · exact ⟨l, fD (k + 1) _ _ _ _ _ _ _ ⟨fun h => by omega, fun _ => rfl⟩, by omega, fun h => h⟩
  intro l hl
  have h1 : kbulk (t.kids.take n) ≤ kbulk t.kids := by
    have : ∀ (l : List Tree) n, kbulk (l.take n) ≤ kbulk l := fun l => by
      induction l with
      | nil => intro n; simp
      | cons a r ih => intro n; cases n with
        | zero => simp [kbulk]
        | succ n => have := ih n; simp only [List.take_succ_cons, kbulk]; omega
    exact this _ _
  have h2 := bv t
  obtain ⟨r, e, z, y⟩ := loop n 0 l (by omega) (by omega) (by simpa using hl)
  exact ⟨r, pm (n + 1) _ _ _ _ _ _ e, by simpa using z, y⟩
theorem qa (l : List Tree) (n : Nat) : kbulk (l.take n) + kbulk (l.drop n) = kbulk l := by rw [← ep, List.take_append_drop]
theorem CI {t : Tree} (hk : t.kind = 16) (hs : shapeK t = true) (ht : tbulk t ≤ 1000000) (ih : ∀ (i : Nat) (u : Tree), t.kids[i]? = some u → Pok u) : Pok t := fun l hl => by
  have hb := bv t
  have htx := cd t
  have M := 0
  obtain ⟨s1, g1, b1⟩ := bg 0 ht
  obtain ⟨s2, g2, b2⟩ := bg 1 ht
  obtain ⟨r, e, z, y⟩ := wm ht ih t.kids.length 3 (Nat.le_refl _) (by decide) (l ++ [⟨s1, t.text⟩, ⟨s2, [40]⟩]) (by simp only [List.length_append, List.length_cons, List.length_nil, List.take_length]; omega)
  simp only [List.length_append, List.length_cons, List.length_nil, List.take_length] at z
  obtain ⟨s9, g9, b9⟩ := bg 2 ht
  refine ⟨r ++ [⟨s9, [41]⟩], ?_, by simp only [List.length_append, List.length_cons, List.length_nil]; omega, fun hq => by
    have := y (by simp only [ca, bB]; exact ⟨hq, ⟨b1, by omega⟩, ⟨b2, by decide⟩, bR⟩)
    simp only [ca, bB]; exact ⟨this, ⟨b9, by decide⟩, bR⟩⟩
  exact ax (M + 12) _ _ _ ⟨fun h => absurd (hk.symm.trans h) (by decide), fun _ => aB (M + 11) _ _ _ ⟨fun h => absurd (hk.symm.trans h) (by decide), fun _ => aE (M + 10) _ _ _ ⟨fun h => absurd (hk.symm.trans h) (by decide), fun _ => aH (M + 9) _ _ _ ⟨fun h => absurd (hk.symm.trans h) (by decide), fun _ => aL (M + 8) _ _ _ ⟨fun h => absurd (hk.symm.trans h) (by decide), fun _ => aR (M + 7) _ _ _ ⟨fun h => absurd (hk.symm.trans h) (by decide), fun _ => aT (M + 6) _ _ _ ⟨fun h => absurd (hk.symm.trans h) (by decide), fun _ => aW (M + 5) _ _ _ ⟨fun h => absurd (hk.symm.trans h) (by decide), fun _ => aZ (M + 4) _ _ _ ⟨fun h => absurd (hk.symm.trans h) (by decide), fun _ => bf (M + 3) _ _ _ ⟨fun h => absurd (hk.symm.trans h) (by decide), fun _ => bm (M + 2) _ _ _ ⟨fun h => absurd (hk.symm.trans h) (by decide), fun _ => bF (M + 1) _ _ _ ⟨fun _ => na (M) _ _ _ ⟨_, g1, _, g2, by simp only [List.length_append, List.length_cons, List.length_nil]; omega, _, e, _, g9, by simp only [List.length_append, List.length_cons, List.length_nil]; omega, rfl⟩, fun h => absurd hk h⟩⟩⟩⟩⟩⟩⟩⟩⟩⟩⟩⟩
theorem C0 {t : Tree} (hk : t.kind = 18) (hs : shapeK t = true) (ht : tbulk t ≤ 1000000) (ih : ∀ (i : Nat) (u : Tree), t.kids[i]? = some u → Pok u) : Pok t := fun l hl => by
  have hb := bv t
  have htx := cd t
  have M := 0
  obtain ⟨s1, g1, b1⟩ := bg 0 ht
  obtain ⟨r, e, z, y⟩ := wm ht ih t.kids.length 2 (Nat.le_refl _) (by decide) (l ++ [⟨s1, [91]⟩]) (by simp only [List.length_append, List.length_cons, List.length_nil, List.take_length]; omega)
  simp only [List.length_append, List.length_cons, List.length_nil, List.take_length] at z
  obtain ⟨s9, g9, b9⟩ := bg 1 ht
  refine ⟨r ++ [⟨s9, [93]⟩], ?_, by simp only [List.length_append, List.length_cons, List.length_nil]; omega, fun hq => by
    have := y (by simp only [ca, bB]; exact ⟨hq, ⟨b1, by decide⟩, bR⟩)
    simp only [ca, bB]; exact ⟨this, ⟨b9, by decide⟩, bR⟩⟩
  exact ax (M + 14) _ _ _ ⟨fun h => absurd (hk.symm.trans h) (by decide), fun _ => aB (M + 13) _ _ _ ⟨fun h => absurd (hk.symm.trans h) (by decide), fun _ => aE (M + 12) _ _ _ ⟨fun h => absurd (hk.symm.trans h) (by decide), fun _ => aH (M + 11) _ _ _ ⟨fun h => absurd (hk.symm.trans h) (by decide), fun _ => aL (M + 10) _ _ _ ⟨fun h => absurd (hk.symm.trans h) (by decide), fun _ => aR (M + 9) _ _ _ ⟨fun h => absurd (hk.symm.trans h) (by decide), fun _ => aT (M + 8) _ _ _ ⟨fun h => absurd (hk.symm.trans h) (by decide), fun _ => aW (M + 7) _ _ _ ⟨fun h => absurd (hk.symm.trans h) (by decide), fun _ => aZ (M + 6) _ _ _ ⟨fun h => absurd (hk.symm.trans h) (by decide), fun _ => bf (M + 5) _ _ _ ⟨fun h => absurd (hk.symm.trans h) (by decide), fun _ => bm (M + 4) _ _ _ ⟨fun h => absurd (hk.symm.trans h) (by decide), fun _ => bF (M + 3) _ _ _ ⟨fun h => absurd (hk.symm.trans h) (by decide), fun _ => bV (M + 2) _ _ _ ⟨fun h => absurd (hk.symm.trans h) (by decide), fun _ => ch (M + 1) _ _ _ ⟨fun _ => nb (M) _ _ _ ⟨_, g1, by simp only [List.length_append, List.length_cons, List.length_nil]; omega, _, e, _, g9, by simp only [List.length_append, List.length_cons, List.length_nil]; omega, rfl⟩, fun h => absurd hk h⟩⟩⟩⟩⟩⟩⟩⟩⟩⟩⟩⟩⟩⟩
theorem p_2 {t : Tree} (hk : t.kind = 2) (hs : shapeK t = true) (ht : tbulk t ≤ 1000000) (ih : ∀ (i : Nat) (u : Tree), t.kids[i]? = some u → Pok u) : Pok t := fun l hl => by
  have hb := bv t
  have htx := cd t
  have hn := (fg hs).1 hk
  have hkl := dk t
  have M := 0
  obtain ⟨s1, g1, b1⟩ := bg 0 ht
  obtain ⟨s2, g2, b2⟩ := bg 1 ht
  obtain ⟨s3, g3, b3⟩ := bg 2 ht
  obtain ⟨s4, g4, b4⟩ := bg 3 ht
  obtain ⟨s5, g5, b5⟩ := bg 4 ht
  obtain ⟨s6, g6, b6⟩ := bg 5 ht
  obtain ⟨r, e, z, y⟩ := wm ht ih (t.kids.length - 2) 6 (by omega) (by decide) (l ++ [⟨s1, [100, 101, 102]⟩, ⟨s2, t.text⟩, ⟨s3, [40]⟩]) (by have := qa t.kids (t.kids.length - 2); simp only [List.length_append, List.length_cons, List.length_nil]; omega)
  simp only [List.length_append, List.length_cons, List.length_nil] at z
  obtain ⟨u, hu, _⟩ | h' := aS t.kids (t.kids.length - 2)
  rotate_left
  · omega
  obtain ⟨v, hv, _⟩ | h' := aS t.kids (t.kids.length - 1)
  rotate_left
  · omega
  have hsp := qa t.kids (t.kids.length - 2)
  have hd1 := bO hu
  have hd2 : t.kids.drop (t.kids.length - 2 + 1) = v :: t.kids.drop (t.kids.length - 1 + 1) := by rw [show t.kids.length - 2 + 1 = t.kids.length - 1 by omega]; exact bO hv
  rw [hd1, kbulk, hd2, kbulk] at hsp
  have hup := bu u
  have hvp := bu v
  have e' : dO (l ++ [⟨s1, [100, 101, 102]⟩, ⟨s2, t.text⟩, ⟨s3, [40]⟩]) t 0 (((t.kids.length : Nat) : Int) - 2) 6 r := by rw [show ((t.kids.length : Nat) : Int) - 2 = ((t.kids.length - 2 : Nat) : Int) by omega]; exact e
  obtain ⟨r1, e1, z1, y1⟩ := ih _ u hu (r ++ [⟨s4, [41]⟩, ⟨s5, [58]⟩]) (by simp only [List.length_append, List.length_cons, List.length_nil]; omega)
  simp only [List.length_append, List.length_cons, List.length_nil] at z1
  obtain ⟨r2, e2, z2, y2⟩ := ih _ v hv (r1 ++ [⟨s6, [61]⟩]) (by simp only [List.length_append, List.length_cons, List.length_nil]; omega)
  simp only [List.length_append, List.length_cons, List.length_nil] at z2
  refine ⟨r2, ?_, by omega, fun hq => ?_⟩
  · exact ax (M + 2) _ _ _ ⟨fun h => absurd (hk.symm.trans h) (by decide), fun _ => aB (M + 1) _ _ _ ⟨fun _ => nK (M) _ _ _ ⟨_, g1, _, g2, _, g3, by simp only [List.length_append, List.length_cons, List.length_nil]; omega, by omega, r, e', _, g4, _, g5, by simp only [List.length_append, List.length_cons, List.length_nil]; omega, by omega, t.kids.length - 2, by omega, u, hu, r1, e1, _, g6, by simp only [List.length_append, List.length_cons, List.length_nil]; omega, by omega, t.kids.length - 1, by omega, v, hv, r2, e2, rfl⟩, fun h => absurd hk h⟩⟩
  · have q1 := y (by simp only [ca, bB]; exact ⟨hq, ⟨b1, by decide⟩, ⟨b2, by omega⟩, ⟨b3, by decide⟩, bR⟩)
    have q2 := y1 (by simp only [ca, bB]; exact ⟨q1, ⟨b4, by decide⟩, ⟨b5, by decide⟩, bR⟩)
    exact y2 (by simp only [ca, bB]; exact ⟨q2, ⟨b6, by decide⟩, bR⟩)
theorem p_1 {t : Tree} (hk : t.kind = 1) (hs : shapeK t = true) (ht : tbulk t ≤ 1000000) (ih : ∀ (i : Nat) (u : Tree), t.kids[i]? = some u → Pok u) : Pok t := fun l hl => by
  have hb := bv t
  have htx := cd t
  have hkl := dk t
  obtain ⟨s1, g1, b1⟩ := bg 0 ht
  obtain ⟨s2, g2, b2⟩ := bg 1 ht
  obtain ⟨s3, g3, b3⟩ := bg 2 ht
  have loop : ∀ k i l, t.kids.length - i ≤ k → l.length + 8 * kbulk (t.kids.drop i) ≤ 899999996 → ∃ r, dx (k + 1) t l i r ∧ r.length ≤ l.length + 8 * kbulk (t.kids.drop i) + 1 ∧ (Qp l → Qp r) := fun k => by
    have last : ∀ k i l, ¬ i < t.kids.length → l.length ≤ 899999996 → ∃ r, dx (k + 1) t l i r ∧ r.length ≤ l.length + 8 * kbulk (t.kids.drop i) + 1 ∧ (Qp l → Qp r) := fun k i l hi hl => by
      refine ⟨l ++ [⟨s3, []⟩], jE k _ _ _ _ ⟨fun h => absurd h hi, fun _ => ⟨s3, g3, by simp only [List.length_append, List.length_cons, List.length_nil]; omega, rfl⟩⟩, by simp only [List.length_append, List.length_cons, List.length_nil]; omega, fun hq => by simp only [ca, bB]; exact ⟨hq, ⟨b3, by decide⟩, bR⟩⟩
    induction k with
    | zero => intro i l hi hl; exact last 0 i l (by omega) (by omega)
    | succ k ihk =>
      intro i l hi hl
      obtain ⟨u, hu, hul⟩ | h' := aS t.kids i
      · have hd := bO hu
        rw [hd, kbulk] at hl ⊢
        obtain ⟨r, e, z, y⟩ := ih i u hu l (by omega)
        obtain ⟨r2, e2, z2, y2⟩ := ihk (i + 1) r (by omega) (by omega)
        exact ⟨r2, jE (k + 1) _ _ _ _ ⟨fun _ => ⟨u, hu, r, e, by omega, e2⟩, fun h => absurd hul h⟩, by omega, fun hq => y2 (y hq)⟩
      · exact last (k + 1) i l h' (by omega)
  obtain ⟨r, e, z, y⟩ := loop t.kids.length 0 (l ++ [⟨s1, [109, 111, 100, 117, 108, 101]⟩, ⟨s2, t.text⟩]) (by omega) (by simp only [List.length_append, List.length_cons, List.length_nil, List.drop_zero]; omega)
  simp only [List.length_append, List.length_cons, List.length_nil, List.drop_zero] at z
  refine ⟨r, ax (t.kids.length + 2) _ _ _ ⟨fun _ => nJ (t.kids.length + 1) _ _ _ ⟨_, g1, _, g2, by simp only [List.length_append, List.length_cons, List.length_nil]; omega, e⟩, fun h => absurd hk h⟩, by omega, fun hq => y (by simp only [ca, bB]; exact ⟨hq, ⟨b1, by decide⟩, ⟨b2, by omega⟩, bR⟩)⟩
theorem yT : ∀ t : Tree, tbulk t ≤ 1000000 → shapeK t = true → Pok t := cm fun t ih ht hs => by
  have ih' : ∀ (i : Nat) (u : Tree), t.kids[i]? = some u → Pok u := fun i u hu => ih i u hu (by have := bE hu; omega) (sG hs hu).1
  by_cases h : ∃ c ∈ [(1 : Int), 2, 3, 4, 5, 6, 7, 13, 14, 15, 8, 16, 17, 18, 19, 20, 21, 22], t.kind = c
  · obtain ⟨c, hc, e⟩ := h
    simp only [List.mem_cons, List.not_mem_nil, or_false] at hc
    rcases hc with rfl | rfl | rfl | rfl | rfl | rfl | rfl | rfl | rfl | rfl | rfl | rfl | rfl | rfl | rfl | rfl | rfl | rfl
    · exact p_1 e hs ht ih'
    · exact p_2 e hs ht ih'
    · exact p_3 e hs ht ih'
    · exact p_4 e hs ht ih'
    · exact p_5 e ht
    · exact p_6 e ht
    · exact p_7 e ht
    · exact CS e ht
    · exact C1 e ht
    · exact C2 e ht
    · exact p_8 e hs ht ih'
    · exact CI e hs ht ih'
    · exact C4 e hs ht ih'
    · exact C0 e hs ht ih'
    · exact CK e hs ht ih'
    · exact CZ e hs ht ih'
    · exact CL e hs ht ih'
    · exact CY e hs ht ih'
  · exact BU (fun c hc e => h ⟨c, hc, e⟩) ht
theorem zy : ∀ t : Tree, tbulk t ≤ 1000000 → ∃ b, fw t b := cm fun t ih ht => by
  have hk := dk t
  have hl := sH t
  have kids : ∀ k i, t.kids.length - i ≤ k → ∃ b, eU (k + 1) t i b := fun k => by
    induction k with
    | zero => intro i hi; exact ⟨_, eJ 0 _ _ _ ⟨fun h => by omega, fun _ => rfl⟩⟩
    | succ k ihk =>
      intro i hi
      obtain ⟨u, hu, hul⟩ | h' := aS t.kids i
      · have := bE hu
        obtain ⟨b, hb⟩ := ih i u hu (by omega)
        cases b with
        | false => exact ⟨false, eJ (k + 1) _ _ _ ⟨fun _ => ⟨u, hu, _, hb, fun _ => rfl, fun h => (by cases h)⟩, fun h => absurd hul h⟩⟩
        | true =>
          obtain ⟨b2, hb2⟩ := ihk (i + 1) (by omega)
          exact ⟨b2, eJ (k + 1) _ _ _ ⟨fun _ => ⟨u, hu, _, hb, fun h => (by cases h), fun _ => hb2⟩, fun h => absurd hul h⟩⟩
      · exact ⟨true, eJ (k + 1) _ _ _ ⟨fun h => absurd h h', fun _ => rfl⟩⟩
  have lead : ∀ k i, t.leads.length - i ≤ k → ∃ b M, cJ M t i b := fun k => by
    have last : ∀ i, ¬ i < t.leads.length → ∃ b M, cJ M t i b := fun i hi => by
      obtain ⟨b, hb⟩ := kids t.kids.length 0 (by omega)
      exact ⟨b, _, dq _ _ _ _ ⟨fun h => absurd h hi, fun _ => hb⟩⟩
    induction k with
    | zero => intro i hi; exact last i (by omega)
    | succ k ihk =>
      intro i hi
      obtain ⟨s, hs, hsl⟩ | h' := aS t.leads i
      · have := qj hs
        have := bv t
        obtain ⟨b2, M, hb2⟩ := ihk (i + 1) (by omega)
        by_cases h1 : t.kind = 1
        · have ht1 := sx s (((i : Nat) : Int) == 2) (by omega)
          cases hb : fQ false s (((i : Nat) : Int) == 2) with
          | false => rw [hb] at ht1; exact ⟨false, 1, dq 0 _ _ _ ⟨fun _ => ⟨s, hs, fun _ => ⟨_, ht1, fun _ => rfl, fun h => (by cases h)⟩, fun h => absurd h1 h⟩, fun h => absurd hsl h⟩⟩
          | true => rw [hb] at ht1; exact ⟨b2, M + 1, dq M _ _ _ ⟨fun _ => ⟨s, hs, fun _ => ⟨_, ht1, fun h => (by cases h), fun _ => hb2⟩, fun h => absurd h1 h⟩, fun h => absurd hsl h⟩⟩
        · have ht1 := sx s false (by omega)
          cases hb : fQ false s false with
          | false => rw [hb] at ht1; exact ⟨false, 1, dq 0 _ _ _ ⟨fun _ => ⟨s, hs, fun h => absurd h h1, fun _ => ⟨_, ht1, fun _ => rfl, fun h => (by cases h)⟩⟩, fun h => absurd hsl h⟩⟩
          | true => rw [hb] at ht1; exact ⟨b2, M + 1, dq M _ _ _ ⟨fun _ => ⟨s, hs, fun h => absurd h h1, fun _ => ⟨_, ht1, fun h => (by cases h), fun _ => hb2⟩⟩, fun h => absurd hsl h⟩⟩
      · exact last i h'
  by_cases h : ((t.leads.length : Nat) : Int) = dd t.kind t.kids.length
  · obtain ⟨b, M, hb⟩ := lead t.leads.length 0 (by omega)
    exact ⟨b, k8 M _ _ ⟨_, oC (by omega) (by omega), fun h' => absurd h h', fun _ => hb⟩⟩
  · exact ⟨false, k8 0 _ _ ⟨_, oC (by omega) (by omega), fun _ => rfl, fun h' => absurd h' h⟩⟩
theorem xO : ∀ t : Tree, tbulk t ≤ 1000000 → ∃ b, eY t b := cm fun t ih ht => by
  have hk := dk t
  have kids : ∀ k i, t.kids.length - i ≤ k → ∃ b, az (k + 1) t i b := fun k => by
    induction k with
    | zero => intro i hi; exact ⟨_, eh 0 _ _ _ ⟨fun h => by omega, fun _ => rfl⟩⟩
    | succ k ihk =>
      intro i hi
      obtain ⟨u, hu, hul⟩ | h' := aS t.kids i
      · have := bE hu
        obtain ⟨b, hb⟩ := ih i u hu (by omega)
        cases b with
        | false => exact ⟨false, eh (k + 1) _ _ _ ⟨fun _ => ⟨u, hu, _, hb, fun _ => rfl, fun h => (by cases h)⟩, fun h => absurd hul h⟩⟩
        | true =>
          obtain ⟨b2, hb2⟩ := ihk (i + 1) (by omega)
          exact ⟨b2, eh (k + 1) _ _ _ ⟨fun _ => ⟨u, hu, _, hb, fun h => (by cases h), fun _ => ⟨by omega, hb2⟩⟩, fun h => absurd hul h⟩⟩
      · exact ⟨true, eh (k + 1) _ _ _ ⟨fun h => absurd h h', fun _ => rfl⟩⟩
  obtain ⟨b, hb⟩ := kids t.kids.length 0 (by omega)
  by_cases hall : (t.kind = 1 ∧ (40 : Int) < t.kids.length) ∨ (t.kind = 2 ∧ (10 : Int) < t.kids.length) ∨ (t.kind = 16 ∧ (8 : Int) < t.kids.length) ∨ (t.kind = 18 ∧ (16 : Int) < t.kids.length)
  · refine ⟨false, jY (t.kids.length + 1) _ _ ?_⟩
    repeat' (refine And.intro (fun _ => ?_) (fun _ => ?_))
    all_goals first | rfl | (exfalso; omega)
  · refine ⟨b, jY (t.kids.length + 1) _ _ ?_⟩
    repeat' (refine And.intro (fun _ => ?_) (fun _ => ?_))
    all_goals first | exact hb | (exfalso; omega)
theorem yx : ∀ t : Tree, tbulk t ≤ 1000000 → ∃ n, fE t n ∧ 0 ≤ n ∧ n ≤ tbulk t := cm fun t ih ht => by
  have hk := dk t
  have kids : ∀ k i (z : Int), t.kids.length - i ≤ k → 0 ≤ z → z < tbulk t → ∃ n, eR (k + 1) t z i n ∧ 0 ≤ n ∧ n ≤ tbulk t := fun k => by
    induction k with
    | zero => intro i z hi h0 hz; exact ⟨_, gE 0 _ _ _ _ ⟨fun h => by omega, fun _ => ⟨by omega, rfl⟩⟩, by omega, by omega⟩
    | succ k ihk =>
      intro i z hi h0 hz
      obtain ⟨u, hu, hul⟩ | h' := aS t.kids i
      · have := bE hu
        obtain ⟨n, hn, n0, n1⟩ := ih i u hu (by omega)
        obtain ⟨r, hr, r0, r1⟩ := ihk (i + 1) (max z n) (by omega) (by omega) (by omega)
        exact ⟨r, gE (k + 1) _ _ _ _ ⟨fun _ => ⟨u, hu, _, hn, hr⟩, fun h => absurd hul h⟩, r0, r1⟩
      · exact ⟨_, gE (k + 1) _ _ _ _ ⟨fun h => absurd h h', fun _ => ⟨by omega, rfl⟩⟩, by omega, by omega⟩
  obtain ⟨n, hn, n0, n1⟩ := kids t.kids.length 0 0 (by omega) (by omega) (by have := bu t; omega)
  exact ⟨n, oQ _ _ _ hn, n0, n1⟩
theorem pD (t : Tree) (ht : tbulk t ≤ 1000000) : ∃ b, dW t b ∧ (b = true → shapeK t = true) := by
  have h1 := lZ t (by omega)
  cases hs : shapeK t with
  | false => rw [hs] at h1; exact ⟨false, iO 0 _ _ ⟨_, h1, fun h => by (cases h), fun _ => rfl⟩, fun h => (by cases h)⟩
  | true =>
    rw [hs] at h1
    obtain ⟨b, hb⟩ := zy t ht
    exact ⟨b, iO 0 _ _ ⟨_, h1, fun _ => ⟨_, hb, rfl⟩, fun h => (by cases h)⟩, fun _ => rfl⟩
theorem zt (t : Tree) (ht : tbulk t ≤ 1000000) : ∃ s, ik t s := by
  obtain ⟨b, hb, hs⟩ := pD t ht
  cases b with
  | false => exact ⟨[], kL 0 _ _ ⟨_, hb, fun _ => rfl, fun h => (by cases h)⟩⟩
  | true =>
    obtain ⟨l, e, z, q⟩ := yT t ht (hs rfl) [] (by simp; omega)
    have hq := q bR
    simp only [List.length_nil] at z
    have loop : ∀ k i (s : List UInt8), l.length - i ≤ k → s.length ≤ i * 2000020 → i ≤ l.length → ∃ r, bZ (k + 1) l s i r := fun k => by
      induction k with
      | zero => intro i s hi hsl hil; exact ⟨_, cx 0 _ _ _ _ ⟨fun h => by omega, fun _ => rfl⟩⟩
      | succ k ihk =>
        intro i s hi hsl hil
        obtain ⟨x, hx, hxl⟩ | h' := aS l i
        · obtain ⟨hx1, hx2⟩ := hq x (List.mem_of_getElem? hx)
          have hmul : (i + 1) * 2000020 = i * 2000020 + 2000020 := Nat.succ_mul _ _
          obtain ⟨r1, hr1⟩ := ihk (i + 1) (((s ++ [32]) ++ x.Lead) ++ x.Text) (by omega) (by simp only [List.length_append, List.length_cons, List.length_nil]; omega) (by omega)
          obtain ⟨r2, hr2⟩ := ihk (i + 1) ((s ++ x.Lead) ++ x.Text) (by omega) (by simp only [List.length_append]; omega) (by omega)
          have plain : s.length + x.Lead.length ≤ 9223372036854775807 ∧ ∃ y : Pce, l[i]? = some y ∧ (s ++ x.Lead).length + y.Text.length ≤ 9223372036854775807 ∧ bZ (k + 1) l ((s ++ x.Lead) ++ y.Text) (i + 1) r2 := ⟨by omega, x, hx, by simp only [List.length_append]; omega, hr2⟩
          by_cases h0 : (0 : Int) < ((i : Nat) : Int)
          · by_cases hle : x.Lead = []
            · obtain ⟨y, hy, hyl⟩ | h' := aS l (i - 1)
              rotate_left
              · omega
              obtain ⟨hy1, hy2⟩ := hq y (List.mem_of_getElem? hy)
              have hf := yM y.Text x.Text (by omega) (by omega)
              cases hb2 : fusesT y.Text x.Text with
              | true =>
                rw [hb2] at hf
                exact ⟨r1, cx (k + 1) _ _ _ _ ⟨fun _ => ⟨fun _ => ⟨x, hx, fun _ => ⟨by omega, i - 1, by omega, y, hy, x, hx, _, hf, fun _ => ⟨by simp only [List.length_cons, List.length_nil]; omega, x, hx, by simp only [List.length_append, List.length_cons, List.length_nil]; omega, x, hx, by simp only [List.length_append, List.length_cons, List.length_nil]; omega, hr1⟩, fun h => by (cases h)⟩, fun h => absurd hle h⟩, fun h => absurd h0 h⟩, fun h => absurd hxl h⟩⟩
              | false =>
                rw [hb2] at hf
                exact ⟨r2, cx (k + 1) _ _ _ _ ⟨fun _ => ⟨fun _ => ⟨x, hx, fun _ => ⟨by omega, i - 1, by omega, y, hy, x, hx, _, hf, fun h => by (cases h), fun _ => ⟨x, hx, plain⟩⟩, fun h => absurd hle h⟩, fun h => absurd h0 h⟩, fun h => absurd hxl h⟩⟩
            · exact ⟨r2, cx (k + 1) _ _ _ _ ⟨fun _ => ⟨fun _ => ⟨x, hx, fun h => absurd h hle, fun _ => ⟨x, hx, plain⟩⟩, fun h => absurd h0 h⟩, fun h => absurd hxl h⟩⟩
          · exact ⟨r2, cx (k + 1) _ _ _ _ ⟨fun _ => ⟨fun h => absurd h h0, fun _ => ⟨x, hx, plain⟩⟩, fun h => absurd hxl h⟩⟩
        · exact ⟨s, cx (k + 1) _ _ _ _ ⟨fun h => absurd h h', fun _ => rfl⟩⟩
    obtain ⟨r, hr⟩ := loop l.length 0 [] (by omega) (by simp) (by omega)
    exact ⟨r, kL (l.length + 1) _ _ ⟨_, hb, fun h => by (cases h), fun _ => ⟨l, nP 0 _ _ ⟨_, e, rfl⟩, hr⟩⟩⟩
theorem zj (t : Tree) (ht : tbulk t ≤ 1000000) : ∃ b, d7 t b := by
  obtain ⟨b, hb, _⟩ := pD t ht
  cases b with
  | false => exact ⟨false, fa 0 _ _ ⟨_, hb, fun h => by (cases h), fun _ => rfl⟩⟩
  | true =>
    obtain ⟨b2, hb2⟩ := xO t ht
    cases b2 with
    | false => exact ⟨false, fa 0 _ _ ⟨_, hb, fun _ => ⟨_, hb2, fun h => by (cases h), fun _ => rfl⟩, fun h => (by cases h)⟩⟩
    | true =>
      obtain ⟨n, hn, _, _⟩ := yx t ht
      obtain ⟨s, hs⟩ := zt t ht
      by_cases h40 : n ≤ 40
      · exact ⟨_, fa 0 _ _ ⟨_, hb, fun _ => ⟨_, hb2, fun _ => ⟨n, hn, fun _ => ⟨s, hs, rfl⟩, fun h => absurd h40 h⟩, fun h => (by cases h)⟩, fun h => (by cases h)⟩⟩
      · exact ⟨false, fa 0 _ _ ⟨_, hb, fun _ => ⟨_, hb2, fun _ => ⟨n, hn, fun h => absurd h h40, fun _ => rfl⟩, fun h => (by cases h)⟩, fun h => (by cases h)⟩⟩
end Go.Proofs.YtiknldgpnhikhaaGreat
namespace Go.Proofs.YtiknldgpnhikhaaGreat
open Go.RowKit Lx Sx
set_option maxHeartbeats 1000000
set_option maxRecDepth 100000
theorem Ck {L : List Int} {a : Int} (hd : Dc L a) : Gt L (fun t a' => jV L a t L a') 500 := by
  obtain ⟨r, a1, h1, h2, h3⟩ := ej hd (n := 5) (by omega) (by omega)
  by_cases hr : r = 0
  · obtain ⟨s, a2, g1, g2, g3⟩ := gy h3 [[84], [85]] (by decide) (by decide)
    have hs := fR g2 (by decide)
    obtain ⟨t, a3, q1, q2, q3⟩ := vR 2 g3 (by omega)
    exact ⟨_, a3, mj 0 _ _ _ _ _ ⟨_, _, _, h1, fun _ => ⟨_, _, _, g1, _, _, _, q1, rfl, rfl, rfl⟩, fun h => absurd hr h⟩, q2, by rw [tb1]; omega⟩
  · obtain ⟨s, a2, g1, g2, g3⟩ := gy h3 [[102], [103], [104]] (by decide) (by decide)
    have hs := fR g2 (by decide)
    obtain ⟨n, a3, g4, g5, g6⟩ := ej g3 (n := 4) (by omega) (by omega)
    have loop : ∀ (k : Nat) (a : Int) (l : List Tree), Dc L a → l.length + k ≤ 100 → Gt L (fun t a' => gr (k + 1) s L a l (k : Int) t L a') (s.length + 1 + kbulk l + k * 13 + 429) := fun k => by
      induction k with
      | zero =>
        intro a l hd hl
        obtain ⟨t1, b1, q1, q2, q3⟩ := vR 1 hd (by omega)
        obtain ⟨t2, b2, q4, q5, q6⟩ := A1 3 q2 (by omega)
        have : eB 3 = 422 := rfl
        refine ⟨_, b2, l6 0 _ _ _ _ _ _ _ _ ⟨fun h => by omega, fun _ => ⟨_, _, _, q1, _, _, _, q4, by simp; omega, rfl, rfl, rfl⟩⟩, q5, ?_⟩
        rw [tbK, ep]; simp only [kbulk]; omega
      | succ k ihk =>
        intro a l hd hl
        obtain ⟨x, b0, q0, q0', q0''⟩ := gy hd [[120], [121], [122]] (by decide) (by decide)
        have hx := fR q0' (by decide)
        obtain ⟨t, b, q1, q2, q3⟩ := vR 1 q0'' (by omega)
        refine (ihk b (l ++ [.node 4 x [] [t]]) q2 (by simp; omega)).map ?_ fun t' a' h => l6 (k + 1) _ _ _ _ _ _ _ _ ⟨fun _ => ⟨_, _, _, q0, _, _, _, q1, by simp; omega, by omega, by rw [show ((k + 1 : Nat) : Int) - 1 = (k : Int) by omega]; exact h⟩, fun h => by omega⟩
        rw [ep]; simp only [kbulk, tb1]; omega
    exact (loop n.toNat a3 [] g6 (by simp; omega)).map (by simp only [kbulk]; omega) fun t a' h => mj (n.toNat + 1) _ _ _ _ _ ⟨_, _, _, h1, fun h => absurd h hr, fun _ => ⟨_, _, _, g1, _, _, _, g4, by rw [show n = ((n.toNat : Nat) : Int) by omega]; exact h⟩⟩
def Sh (l : List (List UInt8)) (n : Nat) : Prop := l.length = n ∧ ∀ x ∈ l, x.length ≤ 2
theorem Sh.sum : ∀ {l : List (List UInt8)} {n : Nat}, Sh l n → lsum l ≤ 3 * n
  | [], n, h => by simp [lsum]
  | x :: r, n, h => by
    obtain ⟨h1, h2⟩ := h
    have := h2 x (by simp)
    have := Sh.sum (l := r) (n := n - 1) ⟨by simp at h1; omega, fun y hy => h2 y (by simp [hy])⟩
    simp only [lsum]; simp at h1; omega
theorem Sh.set {l : List (List UInt8)} {n i : Nat} {x : List UInt8} (h : Sh l n) (hx : x.length ≤ 2) : Sh (l.set i x) n := ⟨by simpa using h.1, fun y hy => by
  rcases List.mem_or_eq_of_mem_set hy with h1 | h1
  · exact h.2 y h1
  · subst h1; exact hx⟩
theorem Sh.get {l : List (List UInt8)} {n i : Nat} (h : Sh l n) (hi : i < n) : ∃ s, l[i]? = some s := by
  obtain ⟨s, hs, _⟩ | h' := aS l i
  · exact ⟨s, hs⟩
  · have := h.1; omega
theorem yL {n : Int} (h0 : 0 ≤ n) (h1 : n ≤ 100000000) : ∃ l, gP n l ∧ Sh l n.toNat := by
  have loop : ∀ k i (l : List (List UInt8)), n.toNat - i ≤ k → i ≤ n.toNat → Sh l i → ∃ r, ew (k + 1) n l i r ∧ Sh r n.toNat := fun k => by
    induction k with
    | zero => intro i l hi hle hl; exact ⟨l, gi 0 _ _ _ _ ⟨fun h => by omega, fun _ => rfl⟩, by rw [show n.toNat = i by omega]; exact hl⟩
    | succ k ihk =>
      intro i l hi hle hl
      by_cases h : (i : Int) < n
      · obtain ⟨r, e, hr⟩ := ihk (i + 1) (l ++ [[32]]) (by omega) (by omega) ⟨by simp [hl.1], fun x hx => by
          rcases List.mem_append.1 hx with h1 | h1
          · exact hl.2 x h1
          · simp at h1; subst h1; simp⟩
        exact ⟨r, gi (k + 1) _ _ _ _ ⟨fun _ => ⟨by simp [hl.1]; omega, by omega, e⟩, fun h' => absurd h h'⟩, hr⟩
      · exact ⟨l, gi (k + 1) _ _ _ _ ⟨fun h' => absurd h' h, fun _ => rfl⟩, by rw [show n.toNat = i by omega]; exact hl⟩
  obtain ⟨r, e, hr⟩ := loop n.toNat 0 [] (by omega) (by omega) ⟨rfl, fun x hx => by cases hx⟩
  exact ⟨r, od _ _ _ e, hr⟩
def pR (t : Tree) (i : Int) (first : List UInt8) : List UInt8 := if t.kind = 1 then [10, 10] else if 0 < i then [32] else if t.kind = 8 ∨ t.kind = 22 ∨ t.kind = 16 ∨ t.kind = 18 then [] else if t.kind = 2 then (if (2 : Int) < t.kids.length then [] else [32]) else if t.kind = 17 ∨ t.kind = 21 then first else [32]
theorem zA (t : Tree) (i : Int) (first : List UInt8) : gX t i first (pR t i first) := by
  refine oc 1 _ _ _ _ ?_
  repeat' first | (refine And.intro (fun _ => ?_) (fun _ => ?_)) | (refine nN 0 _ _ _ _ ?_)
  all_goals simp_all [pR]
  all_goals (intro h; omega)
theorem wB (t : Tree) (i : Int) (first : List UInt8) (hf : first.length ≤ 2) : (pR t i first).length ≤ 2 := by
  unfold pR
  repeat' split
  all_goals first | exact hf | simp
theorem lO {n : Int} (hn : 0 ≤ n) (a b c : Nat) (z : Int) : f0 n a b c z ≤ b + n := by
  unfold f0; repeat' split
  all_goals omega
theorem A7 {k n : Int} (hn : 0 ≤ n) : dd k n ≤ 6 + n := by
  have a1 := lO hn 2 6 2 (-1)
  have a2 := lO hn 0 3 0 (-1)
  have a3 := lO hn 1 2 0 (-1)
  have a4 := lO hn 1 3 0 1
  have a5 := lO hn 1 2 0 1
  have a6 := lO hn 1 0 0 1
  have a7 := lO hn 3 3 0 3
  have a8 := lO hn 2 4 0 2
  have a9 := lO hn 2 1 0 2
  have a10 := lO hn 0 1 0 0
  simp only [dd]
  repeat' first | omega | split
theorem yf {t : Tree} (hs : shapeK t = true) : (t.kind = 1 → dd t.kind t.kids.length = 3) ∧ (t.kind = 2 → 6 ≤ dd t.kind t.kids.length) ∧ (t.kind = 4 ∨ t.kind = 8 ∨ t.kind = 22 → dd t.kind t.kids.length = 2) ∧ (t.kind ≠ 17 → 1 ≤ dd t.kind t.kids.length) := by
  have h := pe hs
  refine ⟨fun hk => ?_, fun hk => ?_, fun hk => ?_, fun hk => ?_⟩
  · rw [hk]; simp only [dd]; simp
  · rw [hk] at h ⊢; simp only [dd, f0] at h ⊢; simp at h ⊢; repeat' split
    all_goals first | omega | (simp_all; omega)
  · rcases hk with hk | hk | hk <;> (rw [hk] at h ⊢; simp only [dd, f0] at h ⊢; simp at h ⊢; repeat' split) <;> first | omega | (simp_all; done) | (simp_all; omega)
  · have key : ∀ k n : Int, 0 ≤ n → k ≠ 17 → 0 ≤ dd k n → 1 ≤ dd k n := fun k n hn hk h => by
      have q : ∀ (a b c : Nat) z, 1 ≤ b → f0 n a b c z = -1 ∨ 1 ≤ f0 n a b c z := fun a b c z hb => by
        unfold f0; repeat' split
        all_goals omega
      have a1 := q 2 6 2 (-1) (by decide)
      have a2 := q 0 3 0 (-1) (by decide)
      have a3 := q 1 2 0 (-1) (by decide)
      have a4 := q 1 3 0 1 (by decide)
      have a5 := q 1 2 0 1 (by decide)
      have a7 := q 3 3 0 3 (by decide)
      have a8 := q 2 4 0 2 (by decide)
      have a9 := q 2 1 0 2 (by decide)
      have a10 := q 0 1 0 0 (by decide)
      revert h
      simp only [dd]
      repeat' first | (intro h; omega) | split
    exact key _ _ (by omega) hk h
section
variable {t : Tree} {N : Nat} {us : List Tree}
theorem zX : ∀ k i (l : List (List UInt8)), N - i ≤ k → Sh l N → ∃ l', ee (k + 1) t l i us (.node t.kind t.text l' us) ∧ Sh l' N := fun k => by
  induction k with
  | zero => intro i l hi hl; exact ⟨l, fI 0 _ _ _ _ _ ⟨fun h => by have := hl.1; omega, fun _ => rfl⟩, hl⟩
  | succ k ihk =>
    intro i l hi hl
    by_cases h : i < l.length
    · obtain ⟨s, hs⟩ := hl.get (i := i) (by have := hl.1; omega)
      obtain ⟨l', e, h'⟩ := ihk (i + 1) (l.set i []) (by omega) (hl.set (by simp))
      exact ⟨l', fI (k + 1) _ _ _ _ _ ⟨fun _ => ⟨s, hs, e⟩, fun h' => absurd h h'⟩, h'⟩
    · exact ⟨l, fI (k + 1) _ _ _ _ _ ⟨fun h' => absurd h' h, fun _ => rfl⟩, hl⟩
theorem vu : ∀ k i (l : List (List UInt8)), N - i ≤ k → Sh l N → ∃ l', de (k + 1) t l i us (.node t.kind t.text l' us) ∧ Sh l' N := fun k => by
  induction k with
  | zero => intro i l hi hl; exact ⟨l, fN 0 _ _ _ _ _ ⟨fun h => by have := hl.1; omega, fun _ => rfl⟩, hl⟩
  | succ k ihk =>
    intro i l hi hl
    by_cases h : i < l.length
    · obtain ⟨s, hs⟩ := hl.get (i := i) (by have := hl.1; omega)
      obtain ⟨l', e, h'⟩ := ihk (i + 1) (l.set i []) (by omega) (hl.set (by simp))
      exact ⟨l', fN (k + 1) _ _ _ _ _ ⟨fun _ => ⟨s, hs, e⟩, fun h' => absurd h h'⟩, h'⟩
    · exact ⟨l, fN (k + 1) _ _ _ _ _ ⟨fun h' => absurd h' h, fun _ => rfl⟩, hl⟩
theorem rP (hs : shapeK t = true) (hN : N = (dd t.kind t.kids.length).toNat) {l : List (List UInt8)} (hl : Sh l N) : ∃ l', dc (N + 2) t l us (.node t.kind t.text l' us) ∧ Sh l' N := by
  obtain ⟨g1, g2, g3, g4⟩ := yf hs
  have e0 : ([] : List UInt8).length ≤ 2 := by simp
  by_cases h1 : t.kind = 1
  · have := g1 h1
    obtain ⟨s, hs⟩ := hl.get (i := 2) (by omega)
    exact ⟨_, bD (N + 1) _ _ _ _ ⟨fun _ => ⟨s, hs, rfl⟩, fun h => absurd h1 h⟩, hl.set (by simp)⟩
  by_cases h2 : t.kind = 2
  · have := g2 h2
    have l1 := hl.set (i := 2) e0
    have l2 := l1.set (i := 3) e0
    have l3 := l2.set (i := 4) e0
    obtain ⟨s, hs⟩ := hl.get (i := 2) (by omega)
    obtain ⟨s', hs'⟩ := l1.get (i := 3) (by omega)
    obtain ⟨s2, hs2⟩ := l2.get (i := 4) (by omega)
    obtain ⟨l', e, h'⟩ := zX (t := t) (us := us) N 6 _ (by omega) l3
    exact ⟨l', bD (N + 1) _ _ _ _ ⟨fun h => absurd h h1, fun _ => ⟨fun _ => ⟨s, hs, s', hs', s2, hs2, e⟩, fun h => absurd h2 h⟩⟩, h'⟩
  by_cases h4 : t.kind = 4
  · have := g3 (by simp [h4])
    obtain ⟨s, hs⟩ := hl.get (i := 1) (by omega)
    exact ⟨_, bD (N + 1) _ _ _ _ ⟨fun h => absurd h h1, fun _ => ⟨fun h => absurd h h2, fun _ => ⟨fun _ => ⟨s, hs, rfl⟩, fun h => absurd h4 h⟩⟩⟩, hl.set e0⟩
  by_cases h8 : t.kind = 8
  · have := g3 (by simp [h8])
    obtain ⟨s, hs⟩ := hl.get (i := 1) (by omega)
    exact ⟨_, bD (N + 1) _ _ _ _ ⟨fun h => absurd h h1, fun _ => ⟨fun h => absurd h h2, fun _ => ⟨fun h => absurd h h4, fun _ => ⟨fun _ => ⟨s, hs, rfl⟩, fun h => absurd h8 h⟩⟩⟩⟩, hl.set e0⟩
  by_cases h22 : t.kind = 22
  · have := g3 (by simp [h22])
    obtain ⟨s, hs⟩ := hl.get (i := 1) (by omega)
    exact ⟨_, bD (N + 1) _ _ _ _ ⟨fun h => absurd h h1, fun _ => ⟨fun h => absurd h h2, fun _ => ⟨fun h => absurd h h4, fun _ => ⟨fun h => absurd h h8, fun _ => ⟨fun _ => ⟨s, hs, rfl⟩, fun h => absurd h22 h⟩⟩⟩⟩⟩, hl.set e0⟩
  by_cases h16 : t.kind = 16
  · obtain ⟨l', e, h'⟩ := vu (t := t) (us := us) N 1 _ (by omega) hl
    exact ⟨l', bD (N + 1) _ _ _ _ ⟨fun h => absurd h h1, fun _ => ⟨fun h => absurd h h2, fun _ => ⟨fun h => absurd h h4, fun _ => ⟨fun h => absurd h h8, fun _ => ⟨fun h => absurd h h22, fun _ => ⟨fun _ => e, fun h => absurd h16 h⟩⟩⟩⟩⟩⟩, h'⟩
  by_cases h18 : t.kind = 18
  · obtain ⟨l', e, h'⟩ := vu (t := t) (us := us) N 1 _ (by omega) hl
    exact ⟨l', bD (N + 1) _ _ _ _ ⟨fun h => absurd h h1, fun _ => ⟨fun h => absurd h h2, fun _ => ⟨fun h => absurd h h4, fun _ => ⟨fun h => absurd h h8, fun _ => ⟨fun h => absurd h h22, fun _ => ⟨fun h => absurd h h16, fun _ => ⟨fun _ => e, fun h => absurd h18 h⟩⟩⟩⟩⟩⟩⟩, h'⟩
  · exact ⟨l, bD (N + 1) _ _ _ _ ⟨fun h => absurd h h1, fun _ => ⟨fun h => absurd h h2, fun _ => ⟨fun h => absurd h h4, fun _ => ⟨fun h => absurd h h8, fun _ => ⟨fun h => absurd h h22, fun _ => ⟨fun h => absurd h h16, fun _ => ⟨fun h => absurd h h18, fun _ => rfl⟩⟩⟩⟩⟩⟩⟩, hl⟩
end
theorem nz {l : List Tree} {i : Nat} {u : Tree} (h : l[i]? = some u) : kbulk (l.take (i + 1)) = kbulk (l.take i) + tbulk u := by
  rw [List.take_add_one, h, ep]; simp [kbulk]
theorem xU : ∀ t : Tree, tbulk t ≤ 1000000 → shapeK t = true → ∀ first, first.length ≤ 2 → ∃ u, eC t first u ∧ tbulk u + 3 ≤ 25 * tbulk t := cm fun t ih ht hs first hf => by
  have hk := dk t
  have hbt := bv t
  have h0 := pe hs
  have h6 := A7 (k := t.kind) (n := (t.kids.length : Int)) (by omega)
  obtain ⟨g1, g2, g3, g4⟩ := yf hs
  obtain ⟨bl, hbl, hsh⟩ := yL h0 (by omega)
  have loop : ∀ k i (done rest : List Tree), t.kids.length - i ≤ k → done.length = i → i ≤ t.kids.length → rest.length = t.kids.length - i → kbulk done + 3 * i ≤ 25 * kbulk (t.kids.take i) → ∃ M r, dg M t first bl (done ++ rest) i r ∧ tbulk r + 3 ≤ 25 * tbulk t := fun k => by
    have last : ∀ i (done rest : List Tree), ¬ i < t.kids.length → done.length = i → i ≤ t.kids.length → rest.length = t.kids.length - i → kbulk done + 3 * i ≤ 25 * kbulk (t.kids.take i) → ∃ M r, dg M t first bl (done ++ rest) i r ∧ tbulk r + 3 ≤ 25 * tbulk t := fun i done rest hi hd hle hr hb => by
      have hr0 : rest = [] := List.length_eq_zero_iff.1 (by omega)
      subst hr0
      rw [List.append_nil]
      rw [List.take_of_length_le (by omega)] at hb
      have fin : ∀ l', Sh l' (dd t.kind t.kids.length).toNat → tbulk (.node t.kind t.text l' done) + 3 ≤ 25 * tbulk t := fun l' hl' => by
        have := hl'.sum
        simp only [tbulk]; omega
      by_cases h17 : t.kind = 17
      · obtain ⟨l', e, h'⟩ := rP (us := done) hs rfl hsh
        exact ⟨_, _, dU _ _ _ _ _ _ _ ⟨fun h => absurd h hi, fun _ => ⟨fun h => absurd h17 h, fun _ => e⟩⟩, fin l' h'⟩
      · by_cases h21 : t.kind = 21
        · obtain ⟨l', e, h'⟩ := rP (us := done) hs rfl hsh
          exact ⟨_, _, dU _ _ _ _ _ _ _ ⟨fun h => absurd h hi, fun _ => ⟨fun _ => ⟨fun h => absurd h21 h, fun _ => e⟩, fun h => absurd h h17⟩⟩, fin l' h'⟩
        · obtain ⟨l', e, h'⟩ := rP (us := done) hs rfl (hsh.set (i := 0) hf)
          have := g4 h17
          obtain ⟨s, hs0⟩ := hsh.get (i := 0) (by omega)
          exact ⟨_, _, dU _ _ _ _ _ _ _ ⟨fun h => absurd h hi, fun _ => ⟨fun _ => ⟨fun _ => ⟨s, hs0, e⟩, fun h => absurd h h21⟩, fun h => absurd h h17⟩⟩, fin l' h'⟩
    induction k with
    | zero => intro i done rest hi hd hle hr hb; exact last i done rest (by omega) hd hle hr hb
    | succ k ihk =>
      intro i done rest hi hd hle hr hb
      obtain ⟨u, hu, hul⟩ | h' := aS t.kids i
      · have hbu := bE hu
        obtain ⟨v, hv, hvb⟩ := ih i u hu (by omega) (sG hs hu).1 _ (wB t i first hf)
        match rest, hr with
        | z :: rest', hr =>
          obtain ⟨M, r, e, hb2⟩ := ihk (i + 1) (done ++ [v]) rest' (by omega) (by simp [hd]) (by omega) (by simp at hr; omega) (by rw [nz hu, ep]; simp only [kbulk]; omega)
          refine ⟨M + 1, r, dU M _ _ _ _ _ _ ⟨fun _ => ⟨u, hu, _, zA t i first, v, hv, z, by simp [← hd], by omega, ?_⟩, fun h => absurd hul h⟩, hb2⟩
          have : (done ++ z :: rest').set i v = done ++ [v] ++ rest' := by simp [← hd]
          rw [this]; exact e
        | [], hr => simp at hr; omega
      · exact last i done rest h' hd hle hr hb
  obtain ⟨M, r, e, hb⟩ := loop t.kids.length 0 [] (List.replicate t.kids.length (.node 0 [] [] [])) (by omega) rfl (by omega) (by simp) (by simp [kbulk])
  exact ⟨r, nG (M + 1) _ _ _ ⟨_, oC (by omega) (by omega), bl, hbl, nh M _ _ _ _ ⟨by omega, by simpa using e⟩⟩, hb⟩
theorem xx (t : Tree) (ht : tbulk t ≤ 1000000) : ∃ u, gw t u ∧ tbulk u ≤ 25 * tbulk t := by
  have h1 := lZ t (by omega)
  have := bu t
  cases hs : shapeK t with
  | false => rw [hs] at h1; exact ⟨.node 0 [] [] [], jv 0 _ _ ⟨_, h1, fun _ => rfl, fun h => (by cases h)⟩, by rw [tb0]; simp; omega⟩
  | true =>
    rw [hs] at h1
    obtain ⟨u, hu, hb⟩ := xU t ht hs [] (by simp)
    exact ⟨u, jv 0 _ _ ⟨_, h1, fun h => (by cases h), fun _ => ⟨u, hu, rfl⟩⟩, by omega⟩
theorem uA : ∀ (l : List (List UInt8)) (i : Nat) (x : List UInt8), lsum (l.set i x) ≤ lsum l + x.length
  | [], i, x => by simp [lsum]
  | y :: r, 0, x => by simp only [List.set_cons_zero, lsum]; omega
  | y :: r, i + 1, x => by have := uA r i x; simp only [List.set_cons_succ, lsum]; omega
theorem y4 {L : List Int} : ∀ t : Tree, tbulk t ≤ 1000000 → ∀ {a : Int}, Dc L a → Gt L (fun u a' => fX L a t u L a') (6 * tbulk t) := cm fun t ih ht a hd => by
  have hk := dk t
  have hl := sH t
  have hbt := bv t
  have kids : ∀ k i (done : List Tree) (ls : List (List UInt8)) (a : Int), t.kids.length - i ≤ k → i ≤ t.kids.length → done.length = i → kbulk done ≤ 6 * kbulk (t.kids.take i) → lsum ls ≤ 6 * lsum t.leads → Dc L a → ∃ M, Gt L (fun u a' => d4 M t L a (done ++ t.kids.drop i) i ls u L a') (6 * tbulk t) := fun k => by
    have last : ∀ i (done : List Tree) (ls : List (List UInt8)) (a : Int), ¬ i < t.kids.length → i ≤ t.kids.length → done.length = i → kbulk done ≤ 6 * kbulk (t.kids.take i) → lsum ls ≤ 6 * lsum t.leads → Dc L a → ∃ M, Gt L (fun u a' => d4 M t L a (done ++ t.kids.drop i) i ls u L a') (6 * tbulk t) := fun i done ls a hi hle hdn hb hls hd => by
      rw [List.drop_of_length_le (by omega), List.append_nil]
      rw [List.take_of_length_le (by omega)] at hb
      exact ⟨1, _, a, kz 0 _ _ _ _ _ _ _ _ _ ⟨fun h => absurd h (by omega), fun _ => ⟨rfl, rfl, rfl⟩⟩, hd, by simp only [tbulk]; omega⟩
    induction k with
    | zero => intro i done ls a hi hle hdn hb hls hd; exact last i done ls a (by omega) hle hdn hb hls hd
    | succ k ihk =>
      intro i done ls a hi hle hdn hb hls hd
      obtain ⟨u, hu, hul⟩ | h' := aS t.kids i
      · have hbu := bE hu
        obtain ⟨v, a1, q1, q2, q3⟩ := ih i u hu (by omega) hd
        obtain ⟨M, hM⟩ := ihk (i + 1) (done ++ [v]) ls a1 (by omega) (by omega) (by simp [hdn]) (by rw [nz hu, ep]; simp only [kbulk]; omega) hls q2
        have hg : (done ++ t.kids.drop i)[i]? = some u := by rw [List.getElem?_append_right (by omega), hdn]; simpa using hu
        refine ⟨M + 1, hM.map (Nat.le_refl _) fun w b h => kz M _ _ _ _ _ _ _ _ _ ⟨fun _ => ⟨u, hg, _, _, _, q1, u, hg, ?_⟩, fun h' => absurd (by simp [hdn]; omega) h'⟩⟩
        have : (done ++ t.kids.drop i).set i v = done ++ [v] ++ t.kids.drop (i + 1) := by rw [bO hu]; simp [← hdn]
        rw [this]; exact h
      · exact last i done ls a h' hle hdn hb hls hd
  have lead : ∀ k i (ls : List (List UInt8)) (a : Int), t.leads.length - i ≤ k → i ≤ t.leads.length → ls.length = t.leads.length → lsum ls ≤ lsum t.leads + 5 * i → Dc L a → ∃ M, Gt L (fun u a' => cY M t L a ls i u L a') (6 * tbulk t) := fun k => by
    have hll := qw t.leads
    have last : ∀ i (ls : List (List UInt8)) (a : Int), ¬ i < t.leads.length → i ≤ t.leads.length → ls.length = t.leads.length → lsum ls ≤ lsum t.leads + 5 * i → Dc L a → ∃ M, Gt L (fun u a' => cY M t L a ls i u L a') (6 * tbulk t) := fun i ls a hi hle hlen hb hd => by
      obtain ⟨M, hM⟩ := kids t.kids.length 0 [] ls a (by omega) (by omega) rfl (by simp [kbulk]) (by omega) hd
      exact ⟨M + 1, hM.map (Nat.le_refl _) fun w b h => ia M _ _ _ _ _ _ _ _ ⟨fun h' => absurd h' (by omega), fun _ => ⟨by omega, by simpa using h⟩⟩⟩
    induction k with
    | zero => intro i ls a hi hle hlen hb hd; exact last i ls a (by omega) hle hlen hb hd
    | succ k ihk =>
      intro i ls a hi hle hlen hb hd
      obtain ⟨x, hx, hxl⟩ | h' := aS ls i
      · obtain ⟨n, a1, h1, h2, h3⟩ := ej hd (n := 9) (by omega) (by omega)
        by_cases hn : n = 1
        · obtain ⟨s, a2, g1, g2, g3⟩ := gy h3 [[32, 35, 32, 99, 10], [32, 32], [10, 9], [35, 10]] (by decide) (by decide)
          have hs5 := fR g2 (by decide)
          have := uA ls i s
          obtain ⟨M, hM⟩ := ihk (i + 1) (ls.set i s) a2 (by omega) (by omega) (by simpa using hlen) (by omega) g3
          exact ⟨M + 1, hM.map (Nat.le_refl _) fun w b h => ia M _ _ _ _ _ _ _ _ ⟨fun _ => ⟨_, _, _, h1, fun _ => ⟨_, _, _, g1, x, hx, h⟩, fun h' => absurd hn h'⟩, fun h' => absurd hxl h'⟩⟩
        · obtain ⟨M, hM⟩ := ihk (i + 1) ls a1 (by omega) (by omega) hlen (by omega) h3
          exact ⟨M + 1, hM.map (Nat.le_refl _) fun w b h => ia M _ _ _ _ _ _ _ _ ⟨fun _ => ⟨_, _, _, h1, fun h' => absurd h' hn, fun _ => h⟩, fun h' => absurd hxl h'⟩⟩
      · exact last i ls a (by omega) hle hlen hb hd
  obtain ⟨M, hM⟩ := lead t.leads.length 0 t.leads a (by omega) (by omega) rfl (by omega) hd
  exact hM.map (Nat.le_refl _) fun w b h => o8 M _ _ _ _ _ _ ⟨by omega, h⟩
theorem yU {L : List Int} {a : Int} (hd : Dc L a) (name : List UInt8) (hname : name.length ≤ 5) : Gt L (fun t a' => ig L a name t L a') 300000 := by
  obtain ⟨n, a1, h1, h2, h3⟩ := ej hd (n := 4) (by omega) (by omega)
  have loop : ∀ (k : Nat) (a : Int) (l : List Tree), Dc L a → l.length + k ≤ 100 → kbulk l + k * 500 ≤ 1500 → Gt L (fun t a' => eS (k + 1) name L a l (k : Int) t L a') 300000 := fun k => by
    induction k with
    | zero =>
      intro a l hd hl hb
      have ht : tbulk (.node 1 name [] l) ≤ 1506 := by rw [tbK]; omega
      obtain ⟨u, hu, hub⟩ := xx (.node 1 name [] l) (by omega)
      obtain ⟨z, a2, g1, g2, g3⟩ := ej hd (n := 2) (by omega) (by omega)
      by_cases hz : z = 0
      · exact (y4 u (by omega) g3).map (by omega) fun w b h => gz 0 _ _ _ _ _ _ _ _ ⟨fun h' => by omega, fun _ => ⟨u, hu, _, _, _, g1, fun _ => ⟨_, _, _, h, rfl, rfl, rfl⟩, fun h' => absurd hz h'⟩⟩
      · exact ⟨u, a2, gz 0 _ _ _ _ _ _ _ _ ⟨fun h' => by omega, fun _ => ⟨u, hu, _, _, _, g1, fun h' => absurd h' hz, fun _ => ⟨rfl, rfl, rfl⟩⟩⟩, g3, by omega⟩
    | succ k ihk =>
      intro a l hd hl hb
      obtain ⟨t, b, q1, q2, q3⟩ := Ck hd
      exact (ihk b (l ++ [t]) q2 (by simp; omega) (by rw [ep]; simp only [kbulk]; omega)).map (Nat.le_refl _) fun w c h => gz (k + 1) _ _ _ _ _ _ _ _ ⟨fun _ => ⟨_, _, _, q1, by simp; omega, by omega, by rw [show ((k + 1 : Nat) : Int) - 1 = (k : Int) by omega]; exact h⟩, fun h => by omega⟩
  exact (loop n.toNat a1 [] h3 (by simp; omega) (by simp only [kbulk]; omega)).map (Nat.le_refl _) fun w b h => oA (n.toNat + 1) _ _ _ _ _ _ ⟨_, _, _, h1, by rw [show n = ((n.toNat : Nat) : Int) by omega]; exact h⟩
theorem yg (l : List Int) (hl : l.length ≤ 1000000) : ∃ p, hI l p ∧ kbulk p ≤ 1000000 := by
  have hd0 : Dc l 0 := ⟨by omega, by omega, by omega⟩
  obtain ⟨n, a1, h1, h2, h3⟩ := ej hd0 (n := 4) (by omega) (by omega)
  have loop : ∀ (k : Nat) (a : Int) (p : List Tree), Dc l a → p.length + k ≤ 3 → kbulk p + k * 300001 ≤ 900003 → ∃ r, bA (k + 1) l a p (k : Int) r ∧ kbulk r ≤ 900003 := fun k => by
    induction k with
    | zero => intro a p hd hp hb; exact ⟨p, gj 0 _ _ _ _ _ ⟨fun h => by omega, fun _ => rfl⟩, by omega⟩
    | succ k ihk =>
      intro a p hd hp hb
      have hb2 : kbulk p + k * 300001 + 300001 ≤ 900003 := Nat.le_trans (Nat.le_of_eq (by rw [Nat.succ_mul, Nat.add_assoc])) hb
      have hb3 : kbulk p + k * 300001 ≤ 900003 := Nat.le_trans (Nat.le_add_right _ _) hb2
      obtain ⟨x, hx, _⟩ | h' := aS [[(65 : UInt8)], [66], [67]] p.length
      rotate_left
      · simp at h'; omega
      have hx5 : x.length ≤ 5 := fR (List.mem_of_getElem? hx) (by decide)
      obtain ⟨t, a2, q1, q2, q3⟩ := yU hd x hx5
      obtain ⟨z, a3, g1, g2, g3⟩ := ej q2 (n := 8) (by omega) (by omega)
      have step : ∀ u : Tree, tbulk u ≤ 300001 → ∃ b r, d7 u b ∧ ((b = true) → (p ++ [u]).length ≤ 1000000000 ∧ InI (((k + 1 : Nat) : Int) - 1) ∧ bA (k + 1) l a3 (p ++ [u]) (((k + 1 : Nat) : Int) - 1) r) ∧ ((b = false) → InI (((k + 1 : Nat) : Int) - 1) ∧ bA (k + 1) l a3 p (((k + 1 : Nat) : Int) - 1) r) ∧ kbulk r ≤ 900003 := fun u hu => by
        obtain ⟨b, hb'⟩ := zj u (by omega)
        have e : ((k + 1 : Nat) : Int) - 1 = (k : Int) := by omega
        rw [e]
        cases b with
        | true =>
          obtain ⟨r, hr, hrb⟩ := ihk a3 (p ++ [u]) g3 (by simp; omega) (by clear hb; rw [ep]; simp only [kbulk]; omega)
          exact ⟨true, r, hb', fun _ => ⟨by simp; omega, by omega, hr⟩, fun h => (by cases h), hrb⟩
        | false =>
          obtain ⟨r, hr, hrb⟩ := ihk a3 p g3 (by omega) hb3
          exact ⟨false, r, hb', fun h => (by cases h), fun _ => ⟨by omega, hr⟩, hrb⟩
      by_cases hz : z = 7
      · have hub : tbulk (.node t.kind [65] t.leads t.kids) ≤ 300001 := by have := bv t; simp only [tbulk, List.length_cons, List.length_nil]; omega
        obtain ⟨b, r, e1, e2, e3, e4⟩ := step _ hub
        exact ⟨r, gj (k + 1) _ _ _ _ _ ⟨fun _ => ⟨x, hx, _, _, _, q1, _, _, _, g1, fun _ => ⟨b, e1, e2, e3⟩, fun h => absurd hz h⟩, fun h => by omega⟩, e4⟩
      · obtain ⟨b, r, e1, e2, e3, e4⟩ := step t (by omega)
        exact ⟨r, gj (k + 1) _ _ _ _ _ ⟨fun _ => ⟨x, hx, _, _, _, q1, _, _, _, g1, fun h => absurd h hz, fun _ => ⟨b, e1, e2, e3⟩⟩, fun h => by omega⟩, e4⟩
  obtain ⟨r, hr, hrb⟩ := loop n.toNat a1 [] h3 (by simp; omega) (by simp only [kbulk]; omega)
  exact ⟨r, n9 (n.toNat + 1) _ _ ⟨_, _, pJ 0 _ _ _ ⟨by omega, rfl, rfl⟩, _, _, _, h1, by rw [show n = ((n.toNat : Nat) : Int) by omega]; exact hr⟩, by omega⟩
end Go.Proofs.YtiknldgpnhikhaaGreat
namespace Go.Proofs.YtiknldgpnhikhaaGreat
open Go.RowKit
def dv (R : List Nat) (l : List (Nat × Ob)) : List (Nat × Ob) := l.filter fun p => g8 p.1 R
def ung : Ob → Ob
  | .free => .gone
  | o => o
def dX (nx : Nat) (R : List Nat) (l : List (Nat × Ob)) : List (Nat × Ob) := (l.filter fun p => !g8 p.1 R && Nat.blt p.1 nx).map fun p => (p.1, ung p.2)
theorem oR {α : Type} {R : List Nat} : ∀ (l : List (Nat × Ob)) (c : List (Nat × Ob) → α), pY R l c = c (dv R l)
  | [], c => rfl
  | (i, o) :: r, c => by
    simp only [pY]
    cases h : g8 i R
    · simp only; rw [oR r]; simp [dv, h]
    · simp only; rw [oR r]; simp [dv, h]
theorem oo {α : Type} {nx : Nat} {R : List Nat} : ∀ (l : List (Nat × Ob)) (c : List (Nat × Ob) → α), oG nx R l c = c (dX nx R l)
  | [], c => rfl
  | (i, o) :: r, c => by
    simp only [oG]
    cases h : (!g8 i R && Nat.blt i nx)
    · simp only; rw [oo r]; simp only [dX, List.filter_cons, h]; rfl
    · cases o <;> (simp only; rw [oo r]; simp only [dX, List.filter_cons, h]; rfl)
theorem nv {R : List Nat} {i : Nat} : ∀ {l : List (Nat × Ob)}, ao (dv R l) i = ao l i ∨ (g8 i R = false ∧ ao (dv R l) i = .gone)
  | [] => .inl rfl
  | (j, o) :: r => by
    by_cases hj : j = i
    · subst hj
      cases h : g8 j R
      · right
        refine ⟨rfl, ?_⟩
        have ih := nv (R := R) (i := j) (l := r)
        simp only [dv, List.filter_cons, h] at ih ⊢
        simp only [Bool.false_eq_true, if_false]
        clear ih
        have key : ∀ (l : List (Nat × Ob)), ao (l.filter fun p => g8 p.1 R) j = .gone := by
          intro l
          induction l with
          | nil => rfl
          | cons q t ih =>
            obtain ⟨k, o'⟩ := q
            simp only [List.filter_cons]
            split
            · rename_i hk
              have : k ≠ j := fun e => by subst e; simp [h] at hk
              simp only [ao, nbF this]; exact ih
            · exact ih
        exact key r
      · left
        simp only [dv, List.filter_cons, h, if_true, ao, nbT]
    · have ih := nv (R := R) (i := i) (l := r)
      simp only [dv, List.filter_cons]
      split
      · simp only [ao, nbF hj]; exact ih
      · simp only [ao, nbF hj]; exact ih
theorem sS {R : List Nat} {i : Nat} (h : g8 i R = false) (l : List (Nat × Ob)) : ao (dv R l) i = .gone := by
  induction l with
  | nil => rfl
  | cons q t ih =>
    obtain ⟨k, o'⟩ := q
    simp only [dv, List.filter_cons]
    split
    · rename_i hk
      have : k ≠ i := fun e => by subst e; simp [h] at hk
      simp only [ao, nbF this]; exact ih
    · exact ih
theorem xM {nx : Nat} {R : List Nat} {i : Nat} (l : List (Nat × Ob)) : ao (dX nx R l) i = if (!g8 i R && Nat.blt i nx) = true then ung (ao l i) else .gone := by
  induction l with
  | nil => simp [dX, ao, ung]
  | cons q t ih =>
    obtain ⟨k, o⟩ := q
    by_cases hk : k = i
    · subst hk
      cases h : (!g8 k R && Nat.blt k nx)
      · rw [h] at ih
        simp only [dX, List.filter_cons, h, Bool.false_eq_true, if_false] at ih ⊢
        exact ih
      · simp only [dX, List.filter_cons, h, if_true, List.map_cons, ao, nbT]
    · have e : ao ((k, o) :: t) i = ao t i := by simp only [ao, nbF hk]
      rw [e, ← ih]
      simp only [dX, List.filter_cons]
      split
      · simp only [List.map_cons, ao, nbF hk]
      · rfl
section
variable {P : Program} {T : Tab} {K : Ctx} {Q : Exit → Act → World → Prop} {s : List EI} {n : Nat} {F : Fm} {H : Hp}
theorem vq (lo : Nat) (H : Hp) (v : V) : ∃ v' H', (∀ (α : Type) (c : V → Hp → α), wt lo H v c = c v' H') ∧ H'.nx = H.nx ∧ (∀ K S w ρ x, HRel S w ρ H.get → Inv K S w ρ H.get → VRel S w ρ v x → ∃ S', HRel S' w ρ H'.get ∧ Inv K S' w ρ H'.get ∧ Up S S' w w ρ ρ ∧ VRel S' w ρ v' x) := by
  have triv : ∃ v' H', (∀ (α : Type) (c : V → Hp → α), c v H = c v' H') ∧ H'.nx = H.nx ∧ (∀ K S w ρ x, HRel S w ρ H.get → Inv K S w ρ H.get → VRel S w ρ v x → ∃ S', HRel S' w ρ H'.get ∧ Inv K S' w ρ H'.get ∧ Up S S' w w ρ ρ ∧ VRel S' w ρ v' x) := ⟨v, H, fun _ _ => rfl, rfl, fun K S w ρ x h1 h2 h3 => ⟨S, h1, h2, Up.refl, h3⟩⟩
  cases v with
  | sl id =>
    simp only [wt]
    split
    · split
      · rename_i e sz els ho
        split
        · rename_i hpu
          refine ⟨.row sz els, ⟨H.nx, lT id H.es⟩, fun α c => by rw [pQ], rfl, fun K S w ρ x hr hi hx => ?_⟩
          have hg : (⟨H.nx, lT id H.es⟩ : Hp).get = cp H.get id .gone := by
            funext i
            unfold Hp.get
            by_cases hii : i = id
            · subst hii
              rw [bJ]
              simp only []
              have hlt : Nat.blt i H.nx = true := by
                unfold Hp.get at ho
                split at ho
                · assumption
                · cases ho
              rw [hlt]
              simp only [lu, if_true]
            · rw [cq _ _ hii]
              simp only [lu, if_neg hii]
          refine ⟨_, by rw [hg]; exact (fZ hr).1, by rw [hg]; exact hi.frz hr id, (fZ hr).2, qS hr ho hpu hx⟩
        · exact triv
      · exact triv
    · exact triv
  | _ => exact triv
theorem vc (lo : Nat) : ∀ (vs : List V) (H : Hp), ∃ vs' H', (∀ (α : Type) (c : List V → Hp → α), vZ lo H vs c = c vs' H') ∧ H'.nx = H.nx ∧ (∀ K S w ρ xs, HRel S w ρ H.get → Inv K S w ρ H.get → LRel S w ρ vs xs → ∃ S', HRel S' w ρ H'.get ∧ Inv K S' w ρ H'.get ∧ Up S S' w w ρ ρ ∧ LRel S' w ρ vs' xs)
  | [], H => ⟨[], H, fun _ _ => rfl, rfl, fun K S w ρ x h1 h2 h3 => ⟨S, h1, h2, Up.refl, h3⟩⟩
  | v :: r, H => by
    obtain ⟨v', H1, e1, n1, k1⟩ := vq lo H v
    obtain ⟨r', H2, e2, n2, k2⟩ := vc lo r H1
    refine ⟨v' :: r', H2, fun α c => by simp only [vZ, e1, e2], n2.trans n1, fun K S w ρ xs hr hi hx => ?_⟩
    simp only [LRel] at hx
    obtain ⟨x, ys, rfl, h1, h2⟩ := hx
    obtain ⟨S1, a1, a2, a3, a4⟩ := k1 K S w ρ x hr hi h1
    obtain ⟨S2, b1, b2, b3, b4⟩ := k2 K S1 w ρ ys a1 a2 (h2.up a3)
    exact ⟨S2, b1, b2, ⟨fun b hb => b3.s b (a3.s b hb), fun _ _ _ => rfl, fun _ _ h => h⟩, x, ys, rfl, a4.up b3, b4⟩
theorem Ai (lo : Nat) (H : Hp) (v : V) : ∃ v' H', (∀ (α : Type) (c : V → Hp → α), yB lo H v c = c v' H') ∧ H'.nx = H.nx ∧ (∀ K S w ρ x, HRel S w ρ H.get → Inv K S w ρ H.get → VRel S w ρ v x → ∃ S', HRel S' w ρ H'.get ∧ Inv K S' w ρ H'.get ∧ Up S S' w w ρ ρ ∧ VRel S' w ρ v' x) := by
  have h0 := vq lo H v
  cases v
  case agg cs =>
    obtain ⟨vs', H', e, hn, k⟩ := vc lo cs H
    refine ⟨.agg vs', H', fun α c => by simp only [yB, e], hn, fun K S w ρ x hr hi hx => ?_⟩
    simp only [VRel] at hx
    obtain ⟨xs, rfl, h1⟩ := hx
    obtain ⟨S', a1, a2, a3, a4⟩ := k K S w ρ xs hr hi h1
    exact ⟨S', a1, a2, a3, by simp only [VRel]; exact ⟨xs, rfl, a4⟩⟩
  all_goals exact h0
theorem rL (lo : Nat) : ∀ (vs : List V) (H : Hp), ∃ vs' H', (∀ (α : Type) (c : List V → Hp → α), ua lo H vs c = c vs' H') ∧ H'.nx = H.nx ∧ (∀ K S w ρ xs, HRel S w ρ H.get → Inv K S w ρ H.get → LRel S w ρ vs xs → ∃ S', HRel S' w ρ H'.get ∧ Inv K S' w ρ H'.get ∧ Up S S' w w ρ ρ ∧ LRel S' w ρ vs' xs)
  | [], H => ⟨[], H, fun _ _ => rfl, rfl, fun K S w ρ x h1 h2 h3 => ⟨S, h1, h2, Up.refl, h3⟩⟩
  | v :: r, H => by
    obtain ⟨v', H1, e1, n1, k1⟩ := Ai lo H v
    obtain ⟨r', H2, e2, n2, k2⟩ := rL lo r H1
    refine ⟨v' :: r', H2, fun α c => by simp only [ua, e1, e2], n2.trans n1, fun K S w ρ xs hr hi hx => ?_⟩
    simp only [LRel] at hx
    obtain ⟨x, ys, rfl, h1, h2⟩ := hx
    obtain ⟨S1, a1, a2, a3, a4⟩ := k1 K S w ρ x hr hi h1
    obtain ⟨S2, b1, b2, b3, b4⟩ := k2 K S1 w ρ ys a1 a2 (h2.up a3)
    exact ⟨S2, b1, b2, ⟨fun b hb => b3.s b (a3.s b hb), fun _ _ _ => rfl, fun _ _ h => h⟩, x, ys, rfl, a4.up b3, b4⟩
variable {all : Array Oper} {rest : List Oper} {o : Oper} {u : V} {H' : Hp}
theorem BD {ok : Bool} (hw : bp F all o.guard = some true) (hx : nr P K o [] ok n F H u H') (k : Go P K Q (.ops all rest) s n (F.seto o.dst (some u)) H') : Go P K Q (.ops all (o :: rest)) s n F H := fun S w ρ a hr hi hF => by
  show wpList P all (db P Q s) (o :: rest) a w
  unfold wpList
  rw [if_pos (cn hF hw)]
  exact .inl (hx S w ρ a hr hi hF _ _ fun x S' w' ρ' hr' hi' hu _ _ hv => k S' w' ρ' _ hr' hi' (cF (hF.up hu) o.dst hv))
variable {L : List Nat} {m left i : Nat} {listed : Array Bool}
theorem Br (hrd : Region.ready .any all listed = [i]) (hi : all[i]? = some o) (hw : bp F all o.guard = some true) (hx : nr P K o L ((listed.setIfInBounds i true).getD m false) n F H u H') (k : Go P K Q (.drw all L m left (listed.setIfInBounds i true)) s n (F.seto o.dst (some u)) H') : Go P K Q (.drw all L m (left + 1) listed) s n F H := fun S w ρ a hr hiv hF hs => by
  refine lw (S := S) hrd ?_
  unfold wpOp
  simp only [hi]
  rw [if_pos (cn hF hw)]
  exact .inl (hx S w ρ a hr hiv hF _ _ fun x S' w' ρ' hr' hi' hu hA hL hv => kq hu hA hL (k S' w' ρ' _ hr' hi' (cF (hF.up hu) o.dst hv) hs))
def ii (P : Program) (K : Ctx) (Q : Exit → Act → World → Prop) (n : Nat) : Rs → Prop
  | .ok e F H => ∀ S w ρ a, HRel S w ρ H.get → Inv K S w ρ H.get → FRel S w ρ a n F → Q (match e with | true => .ret | false => .normal) a w
  | .pt p s F H => Go P K Q p s n F H
  | .er _ _ => False
variable {ih : EP → List EI → Fm → Hp → Rs}
theorem vG {S : Nat → Prop} {w : World} {ρ : Nat → Option Value} {x : Value} : ∀ {rs : List V}, VRel S w ρ (lK rs) x → ∃ ys, LRel S w ρ rs ys ∧ x = pz ys
  | [], hvx => by simp only [lK, VRel] at hvx; obtain ⟨ys, rfl, h1⟩ := hvx; exact ⟨ys, h1, by simp only [LRel] at h1; subst h1; rfl⟩
  | [v], hvx => ⟨[x], ⟨x, [], rfl, hvx, rfl⟩, rfl⟩
  | v :: u :: r, hvx => by
    simp only [lK, VRel] at hvx; obtain ⟨ys, rfl, h1⟩ := hvx
    refine ⟨ys, h1, ?_⟩
    simp only [LRel] at h1
    obtain ⟨_, _, rfl, _, _, _, rfl, _⟩ := h1
    rfl
theorem y5 (hT : TabOk P T) (IH : ∀ p s F H K Q n, ii P K Q n (ih p s F H) → Go P K Q p s n F H) {X : Rs → Prop} (hX : ∀ n m, ¬ X (.er n m)) {keep ok : Bool} {vs : List V} {fid : FuncId} {fn : Func} {b : Code} {c : V → Hp → Rs} (hf : P.funcs[fid]? = some fn) (hb : fn.body = some b) (hl : Nat.ble vs.length fn.ntmps = true)
    (h : X (wb T ih keep vs fn b H L ok c)) : ∃ u H' L', (L' = L ∨ ok = true) ∧ CallR P K fid vs H L' (fun u' H'' => u' = u ∧ H'' = H') ∧ X (c u H') := by
  unfold wb at h
  simp only [] at h
  generalize hR : lV H 40 (om vs []) [] = R at h
  split at h
  · rename_i hok
    rw [oR] at h
    split at h
    · rename_i e F1 H1 hrun
      split at h
      · rename_i rs hres
        split at h
        · rename_i hnx
          have hnx' : H.nx ≤ H1.nx := Nat.le_of_ble_eq_true hnx
          -- the objects that the call gets
          have hin : ∀ i, (⟨H.nx, dv R H.es⟩ : Hp).get i = H.get i ∨ (⟨H.nx, dv R H.es⟩ : Hp).get i = .gone := fun i => by
            unfold Hp.get
            simp only []
            split
            · rcases nv (R := R) (i := i) (l := H.es) with e | ⟨_, e⟩
              · exact .inl e
              · exact .inr e
            · exact .inl rfl
          have hout : ∀ i, g8 i R = false → Nat.blt i H.nx = true → (⟨H.nx, dv R H.es⟩ : Hp).get i = .gone := fun i hi hlt => by
            unfold Hp.get
            simp only [hlt]
            exact sS hi _
          -- the objects behind the call
          have key : ∀ (H2 : Hp) (es3 : List (Nat × Ob)), H2.nx = H1.nx → (∀ i, ao es3 i = ao H2.es i ∨ ao es3 i = .gone) → ∀ i, ((⟨H2.nx, es3 ++ dX H.nx R H.es⟩ : Hp).get i = H2.get i ∨ (⟨H2.nx, es3 ++ dX H.nx R H.es⟩ : Hp).get i = .gone) ∨ ((⟨H2.nx, es3 ++ dX H.nx R H.es⟩ : Hp).get i = H.get i ∧ (⟨H.nx, dv R H.es⟩ : Hp).get i = .gone ∧ H.get i ≠ .free) := fun H2 es3 hn h3 i => by
            by_cases hlt2 : Nat.blt i H2.nx = true
            · have e0 : (⟨H2.nx, es3 ++ dX H.nx R H.es⟩ : Hp).get i = ao (es3 ++ dX H.nx R H.es) i := by unfold Hp.get; simp only [hlt2]
              have e2 : H2.get i = ao H2.es i := by unfold Hp.get; rw [hlt2]
              rw [e0, e2]
              rcases ug es3 (dX H.nx R H.es) i with e | ⟨e', e⟩
              · rw [e]
                rcases h3 i with h3 | h3
                · exact .inl (.inl h3)
                · exact .inl (.inr h3)
              · rw [e]
                rw [xM]
                cases hm : (!g8 i R && Nat.blt i H.nx)
                · exact .inl (.inr (by simp))
                · have hm' := hm
                  simp only [Bool.and_eq_true, Bool.not_eq_true'] at hm'
                  have eH : H.get i = ao H.es i := by unfold Hp.get; rw [hm'.2]
                  rw [if_pos rfl]
                  cases hf : ao H.es i
                  case free => exact .inl (.inr rfl)
                  all_goals exact .inr ⟨by rw [eH, hf]; rfl, hout i hm'.1 hm'.2, by rw [eH, hf]; simp⟩
            · have e0 : (⟨H2.nx, es3 ++ dX H.nx R H.es⟩ : Hp).get i = .free := by
                unfold Hp.get; simp only [Bool.not_eq_true] at hlt2; simp only [hlt2]
              have e2 : H2.get i = .free := by unfold Hp.get; simp only [Bool.not_eq_true] at hlt2; rw [hlt2]
              exact .inl (.inl (by rw [e0, e2]))
          -- what holds behind the call
          have fin : ∀ (H2 : Hp) (es3 : List (Nat × Ob)) (rs2 : List V), H2.nx = H1.nx → (∀ i, ao es3 i = ao H2.es i ∨ ao es3 i = .gone) →
              (∀ K S w ρ xs, HRel S w ρ H1.get → Inv K S w ρ H1.get → LRel S w ρ rs xs → ∃ S', HRel S' w ρ H2.get ∧ Inv K S' w ρ H2.get ∧ Up S S' w w ρ ρ ∧ LRel S' w ρ rs2 xs) →
              ∃ L', (L' = L ∨ ok = true) ∧ CallR P K fid vs H L' (fun u' H'' => u' = lK rs2 ∧ H'' = ⟨H2.nx, es3 ++ dX H.nx R H.es⟩) := fun H2 es3 rs2 hn h3 hfz => by
            have main : ∀ L', (∀ (S : Nat → Prop) (w : World) (ρ : Nat → Option Value), HRel S w ρ H.get → L' = [] ∨ (cH H.get L' = true ∧ ∀ id, id ∈ L' → (⟨H.nx, dv R H.es⟩ : Hp).get id = .gone)) → CallR P K fid vs H L' (fun u' H'' => u' = lK rs2 ∧ H'' = ⟨H2.nx, es3 ++ dX H.nx R H.es⟩) := fun L' hL' S w ρ xs hr hi hx => by
              have hr1 := hr.drop (h' := (⟨H.nx, dv R H.es⟩ : Hp).get) hin
              have hi1 : Inv ⟨w, S, fun b => ∃ id, own ρ id ((⟨H.nx, dv R H.es⟩ : Hp).get id) b, ρ⟩ S w ρ (⟨H.nx, dv R H.es⟩ : Hp).get := ⟨ChgP.refl _ _, fun _ h => h, fun _ h => .inl h, fun id b hb => .inl ⟨id, hb⟩, fun _ _ h => h⟩
              refine qA hf hb hl hr1 hi1 hx (IH _ _ _ _ _ _ _ ?_)
              rw [hrun]
              intro S' w' ρ' a' hr' hi' hF'
              obtain ⟨rl, hrl⟩ : ∃ l : List ResultVar, fn.results = l.toArray := ⟨fn.results.toList, by simp⟩
              rw [hrl] at hres
              refine ret_go hT (rs := rl) (by cases e <;> simp) hrl hr' hF' (by simpa using hres) fun x hvx => ?_
              have hLR := vG hvx
              obtain ⟨ys, hys, rfl⟩ := hLR
              obtain ⟨S2, a1, a2, a3, a4⟩ := hfz _ S' w' ρ' ys hr' hi' hys
              obtain ⟨m1, m2, m3, m4⟩ := uq (h1 := (⟨H.nx, dv R H.es⟩ : Hp).get) (h2 := (⟨H2.nx, es3 ++ dX H.nx R H.es⟩ : Hp).get) hr hi hin a1 a2 (key H2 es3 hn h3)
              refine ⟨_, S2, ρ', _, _, rfl, ⟨rfl, rfl⟩, m1, m2, m3, vh a4, ?_⟩
              rcases hL' S w ρ hr with rfl | ⟨g1, g2⟩
              · intro id hid; simp at hid
              · exact m4 L' g1 g2
            rcases rx hok with hok | hok
            · simp only [Bool.and_eq_true] at hok
              refine ⟨L, .inl rfl, main L fun S w ρ hr => .inr ⟨hok.1, fun id hid => ?_⟩⟩
              have hmem := List.all_eq_true.1 hok.2 id hid
              simp only [Bool.not_eq_true'] at hmem
              by_cases hlt : Nat.blt id H.nx = true
              · exact hout id hmem hlt
              · exfalso
                have hfree : H.get id = .free := by unfold Hp.get; simp only [Bool.not_eq_true] at hlt; rw [hlt]
                have hnl : ∀ (l : List Nat), id ∈ l → cH H.get l = true → False := by
                  intro l
                  induction l with
                  | nil => intro h; simp at h
                  | cons j t ih =>
                    intro hm hl
                    simp only [cH] at hl
                    rcases List.mem_cons.1 hm with e | e
                    · subst e; rw [hfree] at hl; cases hl
                    · split at hl
                      · exact ih e hl
                      · exact ih e hl
                      · cases hl
                exact hnl L hid hok.1
            · exact ⟨[], .inr hok, main [] fun _ _ _ _ => .inl rfl⟩
          split at h
          · rw [oo] at h
            obtain ⟨L', g1, g2⟩ := fin H1 H1.es rs rfl (fun i => .inl rfl) (fun K S w ρ xs h1 h2 h3 => ⟨S, h1, h2, Up.refl, h3⟩)
            exact ⟨_, _, L', g1, g2, h⟩
          · obtain ⟨rs2, H2, e1, e2, e3⟩ := rL H.nx rs H1
            rw [e1] at h
            rw [oR, oo] at h
            obtain ⟨L', g1, g2⟩ := fin H2 (dv _ H2.es) rs2 e2 (fun i => by
              rcases nv (R := lV H2 60 (om rs2 R) []) (i := i) (l := H2.es) with e | ⟨_, e⟩
              · exact .inl e
              · exact .inr e) e3
            exact ⟨_, _, L', g1, g2, h⟩
        · exact absurd h (hX _ _)
      · exact absurd h (hX _ _)
    · exact absurd h (hX _ _)
    · exact absurd h (hX _ _)
  · exact absurd h (hX _ _)
theorem mS (hT : TabOk P T) (IH : ∀ p s F H K Q n, ii P K Q n (ih p s F H) → Go P K Q p s n F H) {X : Rs → Prop} (hX : ∀ n m, ¬ X (.er n m)) {ok : Bool} {c : Option V → Hp → Rs} (h : X (oM T ih F H L ok o c)) : ∃ u H', nr P K o L ok n F H u H' ∧ X (c (some u) H') := by
  unfold oM at h
  split at h
  · rename_i v hv
    exact ⟨v, H, ye hT hv, h⟩
  · rw [cZ] at h
    split at h
    · rename_i v ed hv
      split at h
      · rename_i hc
        rw [Hp.ap_eq] at h
        refine ⟨_, _, mT hT hv hc, ?_⟩
        cases v with
        | none => exact h
        | some v => exact h
      · exact absurd h (hX _ _)
    · split at h
      · rename_i fid args tys hop
        split at h
        · rename_i vs hvs
          split at h
          · rename_i v hn
            obtain ⟨he, hnat⟩ := hT.nat _ _ _ hn
            refine ⟨v, H, jZ (L' := L) he (by rw [hop]) hvs (fun S w ρ xs hr hi hx => ?_) (.inl rfl), h⟩
            obtain ⟨x, h1, h2⟩ := hnat S w ρ xs hx
            refine h2.mono fun e w' hR => ?_
            obtain ⟨rfl, rfl⟩ := hR
            exact ⟨x, S, ρ, v, H, rfl, ⟨rfl, rfl⟩, hr, hi, Up.refl, h1, lB⟩
          · split at h
            · rename_i fn hfn
              obtain ⟨hf, he⟩ := hT.fn _ _ hfn
              split at h
              · rename_i b hb
                split at h
                · rename_i hl
                  obtain ⟨u, H', L', g1, g2, g3⟩ := y5 (K := K) hT IH hX hf hb hl h
                  exact ⟨u, H', jZ he (by rw [hop]) hvs g2 g1, g3⟩
                · exact absurd h (hX _ _)
              · exact absurd h (hX _ _)
            · exact absurd h (hX _ _)
        · exact absurd h (hX _ _)
      · exact absurd h (hX _ _)
theorem xB {l : List Nat} {j : Nat} (h : ub l j = true) : l = [j] := by
  unfold ub at h
  split at h
  · rw [Nat.eq_of_beq_eq_true h]
  · cases h
theorem tm (hT : TabOk P T) (IH : ∀ p s F H K Q n, ii P K Q n (ih p s F H) → Go P K Q p s n F H) {i : Nat} {ps : List (Nat × Operand)} {vs : List (Nat × V)} {v : V} (hp : nl T all i vs = some (o, ps, v)) : ∀ (left : Nat) (listed : Array Bool) (F : Fm) (H : Hp), ii P K Q n (sW T ih all L m i o ps v s left listed F H) → GoP P K Q all L m left listed s n F H i o ps vs v
  | left, listed, F, H, h => by
    unfold sW at h
    split at h
    · rename_i hl
      split at h
      · rename_i x hrd
        split at h
        · rename_i hb
          have := Nat.eq_of_beq_eq_true hb
          subst this
          rw [Fm.puto_eq] at h
          exact Aa hT hp hrd hl (IH _ _ _ _ _ _ _ h)
        · exact h.elim
      · rename_i x y hrd
        cases left with
        | zero => exact h.elim
        | succ left =>
          simp only [cZ] at h
          generalize hj : wA x y i = j at h
          unfold wA at hj
          split at h
          · exact h.elim
          · rename_i hji
            have hne : j ≠ i := Nat.ne_of_beq_eq_false hji
            split at h
            · rename_i oj hoj
              split at h
              · rename_i hc
                simp only [Bool.and_eq_true] at hc
                obtain ⟨⟨⟨hc1, hc2⟩, hc3⟩, hc4⟩ := hc
                split at h
                · rename_i hw
                  obtain ⟨u, H', hx, hk⟩ := mS (K := K) (n := n) hT IH (X := ii P K Q n) (fun _ _ h => h) h
                  rw [Fm.puto_eq] at hk
                  have ih2 := tm hT IH hp left _ _ _ hk
                  have hpair : (match Region.ready .any all listed with | [x, y] => (Nat.beq x i && Nat.beq y j) || (Nat.beq x j && Nat.beq y i) | _ => false) = true := by
                    rw [hrd]
                    simp only []
                    cases hx1 : Nat.beq x i
                    · rw [hx1] at hj
                      cases hy1 : Nat.beq y i
                      · rw [hy1] at hj; exact absurd hj.symm hne
                      · rw [hy1] at hj; simp only at hj; subst hj; simp
                    · rw [hx1] at hj; simp only at hj; subst hj; simp
                  refine y7 hT hp hoj hpair (xB hc1) hl (fun t ht => ?_) hc2 hc3 (Array.setIfInBounds_comm _ _ (Ne.symm hne)) (Post := fun u' H'' => u' = u ∧ H'' = H') (fun S w ρ a hr hi hF K2 hK2 => ?_) (fun u' H'' hP => by obtain ⟨rfl, rfl⟩ := hP; exact ih2)
                  · rw [ht] at hc4
                    simp only [Option.isNone_iff_eq_none] at hc4
                    exact hc4
                  · unfold wpOp
                    simp only [hoj]
                    rw [if_pos (cn hF hw)]
                    refine .inl (hx S w ρ a hr hi hF _ _ fun x S' w' ρ' hr' hi' hu hA hL hv => hK2 x S' w' ρ' u H' ⟨rfl, rfl⟩ hr' hi' hu hA (hL.imp id fun h => ?_) hv)
                    simpa only [Bool.and_eq_true] using h
                · exact h.elim
              · exact h.elim
            · exact h.elim
      · exact h.elim
    · exact h.elim
theorem zY (hT : TabOk P T) (IH : ∀ p s F H K Q n, ii P K Q n (ih p s F H) → Go P K Q p s n F H) {i j : Nat} {left : Nat} {listed : Array Bool} (hrd : Region.ready .any all listed = [i, j]) (h : ii P K Q n (yW T ih all L m left i j listed s F H)) : Go P K Q (.drw all L m (left + 1) listed) s n F H := by
  unfold yW at h
  split at h
  · rename_i oi hoi
    split at h
    · rename_i oj hoj
      split at h
      · rename_i hwi
        split at h
        · rename_i hwj
          obtain ⟨ui, Hi, xi, hk⟩ := mS (K := K) (n := n) hT IH (X := ii P K Q n) (fun _ _ h => h) h
          rw [Fm.puto_eq] at hk
          split at hk
          · rename_i F1 H1 e1
            obtain ⟨uj, Hj, xj, hk2⟩ := mS (K := K) (n := n) hT IH (X := ii P K Q n) (fun _ _ h => h) hk
            rw [Fm.puto_eq] at hk2
            split at hk2
            · rename_i F2 H2 e2
              split at hk2
              · rename_i hal
                have c : Go P K Q (.ex .normal) s n F1 H1 := IH _ _ _ _ _ _ _ hk2
                intro S w ρ a hr hi hF
                have hpin : ∀ id x, K.pin id = some x → id < H.nx := fun id x hx => Decidable.byContradiction fun hn => by
                  have h1 := hi.pin id x hx
                  have h2 := hr.ob id
                  have h3 : H.get id = .free := by
                    unfold Hp.get
                    have : Nat.blt id H.nx = false := by
                      cases hb : Nat.blt id H.nx
                      · rfl
                      · exact absurd (by simpa [Nat.blt_eq] using hb) hn
                    simp only [this]
                  rw [h3] at h2
                  have h4 : ρ id = none := h2
                  rw [h4] at h1; cases h1
                have g1 : Go P K (db P Q s) (.drw all L m left (listed.setIfInBounds i true)) [] n (F.seto oi.dst (some ui)) Hi := IH _ _ _ _ _ _ _ (by rw [e1]; exact fun S w ρ a hr hi hF => c S w ρ a hr hi hF)
                have g2 : Go P K (db P Q s) (.drw all L m left (listed.setIfInBounds j true)) [] n (F.seto oj.dst (some uj)) Hj := IH _ _ _ _ _ _ _ (by rw [e2]; exact fun S w ρ a hr hi hF => go_alike hal hpin c S w ρ a hr hi hF)
                exact mG (by rw [hrd]; simp) hoi hoj hwi hwj xi xj g1 g2 S w ρ a hr hi hF
              · exact hk2.elim
            · exact hk2.elim
            · exact hk2.elim
          · exact hk.elim
          · exact hk.elim
        · exact h.elim
      · exact h.elim
    · exact h.elim
  · exact h.elim
theorem nC : ∀ {R : List Nat} {i : Nat} {ps : List (Nat × Operand)} {v : V}, oe T F all R = some (i, o, ps, v) → ∃ vs, jz F ps = some vs ∧ nl T all i vs = some (o, ps, v)
  | [], _, _, _, h => by cases h
  | j :: r, i, ps, v, h => by
    unfold oe at h
    split at h
    · rename_i hj
      split at h
      · rename_i vs hvs
        split at h
        · rename_i o' ps' v' hpb
          simp only [Option.some.injEq, Prod.mk.injEq] at h
          obtain ⟨rfl, rfl, rfl, rfl⟩ := h
          refine ⟨vs, ?_, hpb⟩
          have := hpb
          unfold nl at this
          rw [hj] at this
          simp only at this
          repeat' (split at this)
          all_goals first
            | (cases this; done)
            | (simp only [cZ, Option.some.injEq, Prod.mk.injEq] at this; obtain ⟨_, rfl, _⟩ := this; exact hvs)
        · exact nC h
      · exact nC h
    · exact nC h
theorem Az (hT : TabOk P T) (hm : P.follows .mixedOrders = true) (IH : ∀ p s F H K Q n, ii P K Q n (ih p s F H) → Go P K Q p s n F H) : ∀ (p : EP) (s : List EI) (F : Fm) (H : Hp), ii P K Q n (step T ih p s F H) → Go P K Q p s n F H
  | .code c, s, F, H, h => by
    replace h : ii P K Q n (we T ih c s F H) := h
    unfold we at h
    split at h
    · exact xz (IH _ _ _ _ _ _ _ h)
    · exact tN (IH _ _ _ _ _ _ _ h)
    · exact vK (IH _ _ _ _ _ _ _ h)
    · exact go_ret (IH _ _ _ _ _ _ _ h)
    · exact vA (IH _ _ _ _ _ _ _ h)
    · exact yK (IH _ _ _ _ _ _ _ h)
    · exact yE (IH _ _ _ _ _ _ _ h)
    · exact go_loop 1000000 (IH _ _ _ _ _ _ _ h)
    · split at h
      · exact tD ‹_› (IH _ _ _ _ _ _ _ h)
      · exact tq ‹_› (IH _ _ _ _ _ _ _ h)
      · exact h.elim
    · exact si (IH _ _ _ _ _ _ _ h)
    · split at h
      · rename_i hs
        simp only [cv, cZ] at h
        exact vo _ _ _ rfl hm hs (IH _ _ _ _ _ _ _ h)
      · exact h.elim
    · exact h.elim
  | .ops all rest, s, F, H, h => by
    replace h : ii P K Q n (tk T ih all rest s F H) := h
    unfold tk at h
    split at h
    · exact w9 (IH _ _ _ _ _ _ _ h)
    · split at h
      · rw [Fm.puto_eq] at h
        exact yv ‹_› (IH _ _ _ _ _ _ _ h)
      · obtain ⟨u, H', hx, hk⟩ := mS (K := K) (n := n) hT IH (X := ii P K Q n) (fun _ _ h => h) h
        rw [Fm.puto_eq] at hk
        exact BD ‹_› hx (IH _ _ _ _ _ _ _ hk)
      · exact h.elim
  | .ex e, s, F, H, h => by
    replace h : ii P K Q n (vP ih e s F H) := h
    unfold vP at h
    split at h
    · split at h
      · exact fun S w ρ a hr hi hF => h S w ρ a hr hi hF
      · exact fun S w ρ a hr hi hF => h S w ρ a hr hi hF
      · exact h.elim
    · split at h
      · exact vf (IH _ _ _ _ _ _ _ h)
      · exact tG (IH _ _ _ _ _ _ _ h)
      · exact ti (IH _ _ _ _ _ _ _ h)
      · exact h.elim
    · split at h
      · split at h
        · exact h.elim
        · exact aq (IH _ _ _ _ _ _ _ h)
      · exact av (IH _ _ _ _ _ _ _ h)
      · exact aM (IH _ _ _ _ _ _ _ h)
      · exact h.elim
    · split at h
      · exact y9 (IH _ _ _ _ _ _ _ h)
      · exact yS (IH _ _ _ _ _ _ _ h)
      · exact zk (IH _ _ _ _ _ _ _ h)
      · exact h.elim
    · split at h
      · exact tK (IH _ _ _ _ _ _ _ h)
      · split at h
        · exact tr ‹_› (IH _ _ _ _ _ _ _ h)
        · exact te ‹_› (IH _ _ _ _ _ _ _ h)
      · exact tZ (IH _ _ _ _ _ _ _ h)
      · exact h.elim
  | .drw all L m left listed, s, F, H, h => by
    replace h : ii P K Q n (v8 T ih all L m left listed s F H) := h
    unfold v8 at h
    split at h
    · exact tF ‹_› (IH _ _ _ _ _ _ _ h)
    · rename_i i R hrd
      cases left with
      | zero => exact h.elim
      | succ left =>
        simp only [] at h
        split at h
        · split at h
          · rename_i o ho
            split at h
            · rw [Fm.puto_eq] at h
              exact go_d1S hrd ho ‹_› (IH _ _ _ _ _ _ _ h)
            · obtain ⟨u, H', hx, hk⟩ := mS (K := K) (n := n) hT IH (X := ii P K Q n) (fun _ _ h => h) h
              rw [Fm.puto_eq] at hk
              exact Br hrd ho ‹_› hx (IH _ _ _ _ _ _ _ hk)
            · exact h.elim
          · exact h.elim
        · split at h
          · split at h
            · rename_i o ho
              split at h
              · rename_i hc
                simp only [Bool.and_eq_true, Bool.not_eq_true'] at hc
                obtain ⟨⟨hc1, hc2⟩, hc3⟩ := hc
                split at h
                · rw [Fm.puto_eq] at h
                  exact wg hc3 ho hc2 hc1 ‹_› (IH _ _ _ _ _ _ _ h)
                · rename_i hw
                  split at h
                  · rename_i v hv
                    rw [Fm.puto_eq] at h
                    exact zT hT hc3 ho hc2 hc1 hw hv (IH _ _ _ _ _ _ _ h)
                  · split at h
                    · rename_i id hid
                      split at h
                      · rename_i hL
                        simp only [Bool.and_eq_true, Bool.not_eq_true'] at hL
                        obtain ⟨⟨hL1, hL2⟩, hL3⟩ := hL
                        split at h
                        · rename_i v ed hv
                          rw [Fm.puto_eq] at h
                          exact wU hT hc3 hL2 hL3 ho hc2 hc1 hw hid hL1 hv (IH _ _ _ _ _ _ _ h)
                        · exact h.elim
                      · exact h.elim
                    · exact h.elim
                · exact h.elim
              · exact h.elim
            · exact h.elim
          · split at h
            · rename_i i' o ps v hpo
              rw [Fm.puto_eq] at h
              obtain ⟨vs, g1, g2⟩ := nC hpo
              exact ym g1 (tm hT IH g2 left listed _ _ h)
            · split at h
              · exact zY hT IH hrd h
              · exact h.elim
theorem xe (hT : TabOk P T) (hm : P.follows .mixedOrders = true) : ∀ (k : Nat) (p : EP) (s : List EI) (F : Fm) (H : Hp) (K : Ctx) (Q : Exit → Act → World → Prop) (n : Nat), ii P K Q n (run T k p s F H) → Go P K Q p s n F H
  | 0, p, s, F, H, K, Q, n, h => h
  | k + 1, p, s, F, H, K, Q, n, h => Az hT hm (fun p s F H K Q n h => xe hT hm k p s F H K Q n h) p s F H h
def zC (T : Tab) (k : Nat) (fid : FuncId) (vs : List V) (H : Hp) : Option (List V × Hp) := match T.fn fid with
  | some fn => match fn.body with
    | some b => match Nat.ble vs.length fn.ntmps with
      | true => match run T k (.code b) [] (jW fn.ntmps vs) H with
        | .ok _ F1 H1 => match oU T H1.get F1 fn.results.toList with
          | some rs => some (rs, H1)
          | none => none
        | _ => none
      | false => none
    | none => none
  | none => none
theorem Av (hT : TabOk P T) (hm : P.follows .mixedOrders = true) {k : Nat} {fid : FuncId} {vs rs : List V} {H H1 : Hp} (h : zC T k fid vs H = some (rs, H1)) {S : Nat → Prop} {w : World} {ρ : Nat → Option Value} {xs : List Value} (hr : HRel S w ρ H.get) (hx : LRel S w ρ vs xs) : dw P fid = true ∧
    Calls P fid xs.toArray w fun e w' => ∃ S' ρ' ys, e = .returned (pz ys) ∧ HRel S' w' ρ' H1.get ∧ Inv ⟨w, S, fun b => ∃ id, own ρ id (H.get id) b, ρ⟩ S' w' ρ' H1.get ∧ LRel S' w' ρ' rs ys := by
  unfold zC at h
  split at h
  · rename_i fn hfn
    obtain ⟨hf, he⟩ := hT.fn _ _ hfn
    split at h
    · rename_i b hb
      split at h
      · rename_i hl
        split at h
        · rename_i e F1 H1' hrun
          split at h
          · rename_i rs' hres
            simp only [Option.some.injEq, Prod.mk.injEq] at h
            obtain ⟨rfl, rfl⟩ := h
            refine ⟨he, ?_⟩
            have hi1 : Inv ⟨w, S, fun b => ∃ id, own ρ id (H.get id) b, ρ⟩ S w ρ H.get := ⟨ChgP.refl _ _, fun _ h => h, fun _ h => .inl h, fun id b hb => .inl ⟨id, hb⟩, fun _ _ h => h⟩
            refine qA hf hb hl hr hi1 hx (xe hT hm k _ _ _ _ _ _ _ ?_)
            rw [hrun]
            intro S' w' ρ' a' hr' hi' hF'
            obtain ⟨rl, hrl⟩ : ∃ l : List ResultVar, fn.results = l.toArray := ⟨fn.results.toList, by simp⟩
            rw [hrl] at hres
            refine ret_go hT (rs := rl) (by cases e <;> simp) hrl hr' hF' (by simpa using hres) fun x hvx => ?_
            have hLR := vG hvx
            obtain ⟨ys, hys, rfl⟩ := hLR
            exact ⟨S', ρ', ys, rfl, hr', hi', hys⟩
          · cases h
        · cases h
      · cases h
    · cases h
  · cases h
end
end Go.Proofs.YtiknldgpnhikhaaGreat
namespace Go.Proofs.YtiknldgpnhikhaaGreat
open Go.RowKit Lx Sx
set_option maxRecDepth 100000
def sV : List (List UInt8) → List V → Bool
  | [], [] => true
  | s :: r, .str l :: q => lEq s l && sV r q
  | _, _ => false
def uC (ls : List (List UInt8)) : V → Bool
  | .nils => ls.isEmpty
  | .row sz els => Nat.beq sz 1 && sV ls els
  | _ => false
mutual
def treeB : Tree → V → Bool
  | .node k s ls ks, v => match v with
    | .agg [.int .i64 k', .str s', l, r] => iEq k k' && lEq s s' && uC ls l && (match r with
      | .nils => ks.isEmpty
      | .row sz els => Nat.beq sz 4 && kidsB ks els
      | _ => false)
    | _ => false
def kidsB : List Tree → List V → Bool
  | [], vs => match vs with
    | [] => true
    | _ => false
  | t :: r, vs => match vs with
    | v :: q => treeB t v && kidsB r q
    | [] => false
end
section
variable {S : Nat → Prop} {w : World}
theorem tI {ρ : Nat → Option Value} : ∀ {ls : List (List UInt8)} {els : List V} {xs : List Value}, sV ls els = true → CRel S w ρ 1 els xs → els.length = ls.length ∧ xs = ls.map kK
  | [], [], xs, _, hc => by simp only [CRel] at hc; subst hc; exact ⟨rfl, rfl⟩
  | s :: r, v :: q, xs, hb, hc => by
    cases v <;> simp only [sV] at hb <;> first | (cases hb; done) | skip
    rename_i l
    simp only [Bool.and_eq_true] at hb
    have hl := hb.1
    rw [n8] at hl
    simp only [beq_iff_eq] at hl
    subst hl
    simp only [CRel] at hc
    obtain ⟨x, ys, rfl, _, h3, h4⟩ := hc
    simp only [VRel] at h3
    subst h3
    obtain ⟨h5, h6⟩ := tI hb.2 h4
    exact ⟨by simp [h5], by simp [h6, Value.cells]⟩
  | [], _ :: _, _, hb, _ => by cases hb
  | _ :: _, [], _, hb, _ => by cases hb
theorem xX {ρ : Nat → Option Value} {ls : List (List UInt8)} {v : V} {x : Value} (hb : uC ls v = true) (hx : VRel S w ρ v x) : ∃ A m, x = .slice A ls.length m ∧ ls.length ≤ m ∧ m ≤ maxLen ∧ RowIn S w 1 A ls.length (ls.map kK) := by
  cases v <;> simp only [uC] at hb <;> first | (cases hb; done) | skip
  · simp only [List.isEmpty_iff] at hb
    subst hb
    simp only [VRel] at hx; subst hx
    exact ⟨none, 0, rfl, Nat.le_refl _, by decide, RowIn.none_⟩
  · rename_i sz els
    simp only [Bool.and_eq_true, Nat.beq_eq] at hb
    obtain ⟨rfl, hb⟩ := hb
    simp only [VRel] at hx
    obtain ⟨A, c, xs, rfl, h3, h4, h5, h6⟩ := hx
    obtain ⟨h7, rfl⟩ := tI hb h5
    rw [h7] at h3 h6 ⊢
    exact ⟨A, c, rfl, h3, h4, h6⟩
mutual
theorem treeB_ok {ρ : Nat → Option Value} : ∀ {t : Tree} {v : V} {x : Value}, treeB t v = true → VRel S w ρ v x → ∃ c, x = .agg c.toArray ∧ TreeIs S w t c
  | .node k s ls ks, v, x, hb, hx => by
    unfold treeB at hb
    split at hb
    · rename_i k' s' l r
      simp only [Bool.and_eq_true] at hb
      obtain ⟨⟨⟨hb1, hb2⟩, hb3⟩, hb4⟩ := hb
      rw [pF] at hb1
      rw [n8] at hb2
      simp only [beq_iff_eq] at hb1 hb2
      subst hb1 hb2
      simp only [VRel] at hx
      obtain ⟨xs, rfl, hl⟩ := hx
      simp only [LRel] at hl
      obtain ⟨x0, _, rfl, h0, x1, _, rfl, h1, x2, _, rfl, h2, x3, _, rfl, h3, rfl⟩ := hl
      simp only [VRel] at h0 h1
      subst h0 h1
      obtain ⟨A, m, rfl, g1, g2, g3⟩ := xX hb3 h2
      have kk : ∃ B n, x3 = .slice B ks.length n ∧ ks.length ≤ n ∧ n ≤ maxLen ∧ ∃ cs, KidsAre S w ks cs ∧ RowIn S w 4 B ks.length cs := by
        split at hb4
        · simp only [List.isEmpty_iff] at hb4
          subst hb4
          simp only [VRel] at h3; subst h3
          exact ⟨none, 0, rfl, Nat.le_refl _, by decide, [], by simp only [KidsAre], RowIn.none_⟩
        · rename_i sz els
          simp only [Bool.and_eq_true, Nat.beq_eq] at hb4
          obtain ⟨rfl, hb4⟩ := hb4
          simp only [VRel] at h3
          obtain ⟨B, c, ys, rfl, q3, q4, q5, q6⟩ := h3
          obtain ⟨q7, q8⟩ := kidsB_ok hb4 q5
          rw [q7] at q3 q6 ⊢
          exact ⟨B, c, rfl, q3, q4, ys, q8, q6⟩
        · cases hb4
      obtain ⟨B, n, rfl, k1, k2, cs, k3, k4⟩ := kk
      exact ⟨_, rfl, Af g1 g2 k1 k2 g3 k3 k4⟩
    · cases hb
theorem kidsB_ok {ρ : Nat → Option Value} : ∀ {ts : List Tree} {vs : List V} {xs : List Value}, kidsB ts vs = true → CRel S w ρ 4 vs xs → vs.length = ts.length ∧ KidsAre S w ts xs
  | [], vs, xs, hb, hc => by
    unfold kidsB at hb
    split at hb
    · simp only [CRel] at hc; subst hc; exact ⟨rfl, by simp only [KidsAre]⟩
    · cases hb
  | t :: r, vs, xs, hb, hc => by
    unfold kidsB at hb
    split at hb
    · rename_i v q
      simp only [Bool.and_eq_true] at hb
      simp only [CRel] at hc
      obtain ⟨x, ys, rfl, _, h3, h4⟩ := hc
      obtain ⟨c, rfl, hT⟩ := treeB_ok hb.1 h3
      obtain ⟨h5, h6⟩ := kidsB_ok hb.2 h4
      exact ⟨by simp [h5], by simp only [KidsAre]; exact ⟨c, ys, by simp [Value.cells], hT, h6⟩⟩
    · cases hb
end
end
def rO (T : Tab) (k : Nat) (fid : FuncId) (vs : List V) : Option (List V) := match zC T k fid vs ⟨0, []⟩ with
  | some (rs, H1) => ua 0 H1 rs fun rs' _ => some rs'
  | none => none
theorem lv (i : Nat) : (⟨0, []⟩ : Hp).get i = .free := by
  unfold Hp.get
  have : Nat.blt i 0 = false := by cases i <;> rfl
  simp only [this]
theorem ws (w : World) : HRel (fun _ => False) w (fun _ => none) (⟨0, []⟩ : Hp).get :=
  ⟨fun i => by rw [lv]; rfl, fun i b hb => by rw [lv] at hb; exact hb.elim, fun i j b hb _ => by rw [lv] at hb; exact hb.elim, fun _ h => h.elim⟩
theorem At {P : Program} {T : Tab} (hT : TabOk P T) (hm : P.follows .mixedOrders = true) {k : Nat} {fid : FuncId} {vs rs : List V} (h : rO T k fid vs = some rs) {w : World} {xs : List Value} (hx : LRel (fun _ => False) w (fun _ => none) vs xs) :
    Calls P fid xs.toArray w fun e w' => ∃ S' ρ' ys, e = .returned (pz ys) ∧ (∀ b, S' b → w.heap.size ≤ b) ∧ Chg [] w w' ∧ LRel S' w' ρ' rs ys := by
  unfold rO at h
  split at h
  · rename_i rs1 H1 hrun
    obtain ⟨rs2, H2, e1, _, e3⟩ := rL 0 rs1 H1
    rw [e1] at h
    injection h with h; subst h
    have hr0 := ws w
    refine (Av hT hm hrun hr0 hx).2.mono fun e w' hR => ?_
    obtain ⟨S', ρ', ys, rfl, hr, hi, hl⟩ := hR
    obtain ⟨S2, a1, a2, a3, a4⟩ := e3 _ S' w' ρ' ys hr hi hl
    have hno : ∀ b, ¬ ∃ id, own (fun _ => none) id ((⟨0, []⟩ : Hp).get id) b := fun b ⟨id, hb⟩ => by rw [lv] at hb; exact hb
    refine ⟨S2, ρ', ys, rfl, fun b hb => ?_, ⟨hi.chg.os, hi.chg.tape, hi.chg.output, hi.chg.size, fun b hb _ => hi.chg.block b hb (hno b)⟩, a4⟩
    rcases a2.s1 b hb with h | h | h
    · exact h.elim
    · exact absurd h (hno b)
    · exact h
  · cases h
def ze (fid : FuncId) (vs : List V) : Option V := match Nat.beq fid 97 with
  | true => match vs with
    | [.str s, .int .u8 (.ofNat c)] => wF (Lib.indexByte s c.toUInt8) fun n => some (.int .i64 n)
    | _ => none
  | false => none
noncomputable def tR : Tab := ⟨true, lM tyL, lM fnL, ze, fun f => Nat.beq f 39⟩
theorem z9 : TabOk Tryz.prog tR := by
  refine ⟨yd, A5, fun i vs v hv => ?_⟩
  replace hv : ze i vs = some v := hv
  unfold ze at hv
  split at hv
  · rename_i hb
    have := Nat.eq_of_beq_eq_true hb
    subst this
    split at hv
    · rename_i s c
      rw [vw] at hv
      injection hv with hv; subst hv
      refine ⟨by kernel_rfl, fun S w ρ xs hx => ?_⟩
      simp only [LRel] at hx
      obtain ⟨x0, _, rfl, h0, x1, _, rfl, h1, rfl⟩ := hx
      simp only [VRel] at h0 h1
      subst h0 h1
      exact ⟨_, by simp only [VRel]; rfl, wQ _ _ _⟩
    · cases hv
  · cases hv
def nU (t : Tree) : Option (List V) → Bool
  | some [v, .int .i64 a, .int .i64 e] => treeB t v && iEq a 0 && iEq e 0
  | _ => false
theorem yw {k : Nat} {l : List UInt8} {t : Tree} (h : nU t (rO tR k 19 [.str l]) = true) {w : World} : Calls Tryz.prog 19 [kK l].toArray w fun e w' => ∃ c0 c1 c2 c3, e = .returned (.tuple #[.agg #[c0, c1, c2, c3], .int .i64 0, .int .i64 0]) ∧ TreeIs (fun b => w.heap.size ≤ b) w' t [c0, c1, c2, c3] ∧ Chg [] w w' := by
  unfold nU at h
  split at h
  · rename_i v a e hr
    simp only [Bool.and_eq_true, pF, beq_iff_eq] at h
    obtain ⟨⟨h1, rfl⟩, rfl⟩ := h
    refine (At z9 (by kernel_rfl) hr (xs := [kK l]) ⟨_, [], rfl, by simp only [VRel], rfl⟩).mono fun e w' hR => ?_
    obtain ⟨S', ρ', ys, rfl, g1, g2, g3⟩ := hR
    simp only [LRel] at g3
    obtain ⟨x0, _, rfl, h0, x1, _, rfl, h2, x2, _, rfl, h3, rfl⟩ := g3
    simp only [VRel] at h2 h3
    subst h2 h3
    obtain ⟨c, rfl, hT⟩ := treeB_ok h1 h0
    have h4 := hT.four
    match c, h4, hT with
    | [c0, c1, c2, c3], _, hT => exact ⟨c0, c1, c2, c3, rfl, hT.keep g1 (fun _ _ _ => rfl), g2⟩
  · cases h
end Go.Proofs.YtiknldgpnhikhaaGreat
namespace Go.Proofs.YtiknldgpnhikhaaGreat
open Go.RowKit Lx Sx
section
variable {S : Nat → Prop} {w : World} {ρ : Nat → Option Value}
theorem ux : ∀ ls : List (List UInt8), CRel S w ρ 1 (ls.map .str) (ls.map kK)
  | [] => by simp [CRel]
  | s :: r => by
    simp only [List.map_cons, CRel]
    exact ⟨kK s, r.map kK, by simp [Value.cells, kK], ⟨rfl, rfl⟩, by unfold VRel; rfl, ux r⟩
theorem ul : ∀ ls : List Int, CRel S w ρ 1 (ls.map (V.int .i64)) (ls.map fun z => .int .i64 z)
  | [] => by simp [CRel]
  | s :: r => by
    simp only [List.map_cons, CRel]
    exact ⟨.int .i64 s, _, by simp [Value.cells], ⟨rfl, rfl⟩, by unfold VRel; rfl, ul r⟩
mutual
theorem TreeIs.vrel : ∀ {ρ : Nat → Option Value} {t : Tree} {c : List Value}, TreeIs S w t c → LRel S w ρ (ai t) c
  | ρ, .node k s ls ks, c, h => by
    simp only [TreeIs] at h
    obtain ⟨A, m, B, n, rfl, h1, h2, h3, h4, h5, cs, h6, h7⟩ := h
    simp only [ai, Tree.kind, Tree.text, Tree.leads, Tree.kids, LRel, VRel]
    exact ⟨_, _, rfl, rfl, _, _, rfl, rfl, _, _, rfl, ⟨A, m, _, by simp, by simpa using h1, h2, ux ls, by simpa using h5⟩, _, _, rfl, ⟨B, n, cs, by simp [gK], by simpa [gK] using h3, h4, KidsAre.crel h6, by simpa [gK] using h7⟩, rfl⟩
theorem KidsAre.crel : ∀ {ρ : Nat → Option Value} {ts : List Tree} {cs : List Value}, KidsAre S w ts cs → CRel S w ρ 4 (kidsV ts) cs
  | ρ, [], cs, h => by simp only [KidsAre] at h; simp only [kidsV, CRel]; exact h
  | ρ, t :: r, cs, h => by
    simp only [KidsAre] at h
    obtain ⟨c, d, rfl, h1, h2⟩ := h
    simp only [kidsV, CRel, iQ]
    exact ⟨.agg c.toArray, d, by simp [Value.cells], ⟨by simp [Value.cells, h1.four], by simpa [Value.cells] using h1.one⟩, by simp only [VRel]; exact ⟨c, rfl, h1.vrel⟩, KidsAre.crel h2⟩
end
end
theorem vx {k : Nat} {l : List UInt8} {t : Tree} (h : nU t (rO tR k 19 [.str l]) = true) : aP Tryz.prog 19 [.str l] (.tup [.agg (ai t), .int .i64 0, .int .i64 0]) := by
  refine ⟨rfl, rfl, fun S w ρ xs hr hx => ?_⟩
  simp only [LRel, VRel] at hx
  obtain ⟨x, ys, rfl, rfl, rfl⟩ := hx
  refine (yw h (w := w)).mono ?_
  rintro e w' ⟨c0, c1, c2, c3, rfl, hT, hc⟩
  have hT' := hT.bound
  have g := hr.chg0 hc
  refine ⟨_, fun b => S b ∨ (w.heap.size ≤ b ∧ b < w'.heap.size), ρ, _, ⟨0, []⟩, rfl, rfl, ⟨fun i => ?_, fun i b hb => ?_, fun i j b hb _ => ?_, fun b hb => hb.elim (g.slt b) (·.2)⟩, ⟨ChgP.of0 hc, fun _ h => .inl h, fun b hb => hb.elim .inl fun h => .inr (.inr h.1), fun id b hb => .inl ⟨id, hb⟩, fun id x h => ?_⟩, ?_⟩
  · have := g.ob i; rw [lv] at this ⊢; exact this
  · rw [lv] at hb; exact hb.elim
  · rw [lv] at hb; exact hb.elim
  · simp only [qL] at h
    split at h
    · exact h
    · cases h
  · have hk := TreeIs.vrel (ρ := ρ) (TreeIs.keep (S' := fun b => S b ∨ (w.heap.size ≤ b ∧ b < w'.heap.size)) (fun b hb => .inr hb) (fun _ _ _ => rfl) hT')
    simp only [VRel]
    exact ⟨[.agg #[c0, c1, c2, c3], .int .i64 0, .int .i64 0], rfl, .agg #[c0, c1, c2, c3], _, rfl, by simp only [VRel]; exact ⟨_, rfl, hk⟩, _, _, rfl, by simp only [VRel], _, _, rfl, by simp only [VRel], rfl⟩
theorem CO {fid : FuncId} {l : List Int} {b : Bool} (h : aP Tryz.prog fid [.row 1 (l.map (V.int .i64))] (.bool b)) {W : World} {A : Option Addr} {cap : Nat} (hc : l.length ≤ cap) (hm : cap ≤ maxLen) (hr : RowIn Any W 1 A l.length (l.map fun z => .int .i64 z)) : Calls Tryz.prog fid #[.slice A l.length cap] W fun e W' => e = .returned (.bool b) ∧ Ext W W' := by
  have h0 := ws W
  have hr' : HRel (fun b => b < W.heap.size) W (fun _ => none) (⟨0, []⟩ : Hp).get := ⟨h0.ob, fun i b hb => by rw [lv] at hb; exact hb.elim, fun i j b hb _ => by rw [lv] at hb; exact hb.elim, fun _ h => h⟩
  have hrow : RowIn (fun b => b < W.heap.size) W 1 A l.length (l.map fun z => .int .i64 z) := ⟨hr.1, fun hp => by
    obtain ⟨b, off, h1, _, h3, h4⟩ := hr.2 hp
    exact ⟨b, off, h1, h3, h3, h4⟩⟩
  refine (h.2.2 _ W _ [.slice A l.length cap] hr' ?_).mono ?_
  · simp only [LRel]
    exact ⟨_, _, rfl, by simp only [VRel]; exact ⟨A, cap, _, by simp, by simpa using hc, hm, ul l, by simpa using hrow⟩, rfl⟩
  · rintro e W' ⟨x, S', ρ', v, H', rfl, rfl, h1, h2, h3⟩
    simp only [VRel] at h3
    subst h3
    have hno : ∀ b, ¬ ∃ id, own (fun _ => none) id ((⟨0, []⟩ : Hp).get id) b := fun b ⟨id, hb⟩ => by rw [lv] at hb; exact hb
    exact ⟨rfl, Chg.ext ⟨h2.chg.os, h2.chg.tape, h2.chg.output, h2.chg.size, fun b hb _ => h2.chg.block b hb (hno b)⟩⟩
end Go.Proofs.YtiknldgpnhikhaaGreat
namespace Go.Proofs.YtiknldgpnhikhaaGreat
open Go.RowKit Lx Sx
set_option maxRecDepth 100000
set_option maxHeartbeats 1000000
def ya : List UInt8 := [109, 111, 100, 117, 108, 101, 32, 65, 32, 116, 121, 112, 101, 32, 84, 32, 61, 32, 91, 66, 46, 85, 93]
def xP : List UInt8 := [109, 111, 100, 117, 108, 101, 32, 66, 32, 116, 121, 112, 101, 32, 85, 32, 61, 32, 73, 110, 116, 32, 116, 121, 112, 101, 32, 86, 32, 61, 32, 86]
def iG : Tree := (xp ya).1
def iH : Tree := (xp xP).1
theorem xW : nU iG (rO tR 5000 19 [.str ya]) = true := by kernel_rfl
theorem yq : nU iH (rO tR 5000 19 [.str xP]) = true := by kernel_rfl
theorem xa : kbulk [iG, iH] ≤ 10000000 := by decide +kernel
theorem BK : (fo [iG, iH] 0 (.node 9 [84] [] [])).2 = 0 ∧ (fo [iG, iH] 0 (.node 9 [84] [] [])).1.kind = 8 ∧ (fo [iG, iH] 0 (.node 9 [84] [] [])).1.kids.map (·.kind) = [5] ∧ (fo [iG, iH] 1 (.node 9 [86] [] [])).2 = 19 := by decide +kernel
theorem BE : jL [iG, iH] 1 1 = true ∧ jL [iG, iH] 1 0 = false := by decide +kernel
theorem CJ : ke true := by
  have hb := xa
  obtain ⟨a1, a2, a3, a4⟩ := BK
  obtain ⟨c1, c2⟩ := BE
  have e1 := lA hb 0 (t := .node 9 [84] [] []) (by decide +kernel)
  have e2 := lA hb 1 (t := .node 9 [86] [] []) (by decide +kernel)
  have k1 := lP hb 1 1
  have k2 := lP hb 1 0
  rw [c1] at k1
  rw [c2] at k2
  obtain ⟨u, hu, hu5⟩ : ∃ u, (fo [iG, iH] 0 (.node 9 [84] [] [])).1.kids = [u] ∧ u.kind = 5 := by
    cases hk : (fo [iG, iH] 0 (.node 9 [84] [] [])).1.kids with
    | nil => rw [hk] at a3; cases a3
    | cons u r =>
      rw [hk] at a3
      cases r with
      | nil => exact ⟨u, rfl, by simpa using a3⟩
      | cons v r => simp at a3
  exact nL 0 _ ⟨iG, 0, 0, vx xW, iH, 0, 0, vx yq, _, _, e1, _, _, e2, fun _ => ⟨fun _ => ⟨fun _ => ⟨fun _ => ⟨fun _ => ⟨u, (by rw [hu]; rfl), fun _ => ⟨fun _ => ⟨true, k1, fun _ => ⟨false, k2, rfl⟩, fun h => (by cases h)⟩, fun h => absurd a4 h⟩, fun h => absurd hu5 h⟩, fun h => absurd (by rw [hu]; rfl) h⟩, fun h => absurd a2 h⟩, fun h => absurd a1 h⟩, fun h => absurd rfl h⟩, fun h => absurd rfl h⟩
theorem BH (aw : cu true) (p : List Tree) (M D : Int) (t u : Tree) (hb : kbulk p + tbulk t + tbulk u ≤ 1048576) : iT p M D t u true := by
  obtain ⟨b1, hl1⟩ := uy p (by omega)
  obtain ⟨b2, hl2⟩ := uy [t, u] (by simp only [kbulk]; omega)
  obtain ⟨b3, q1, q2, _⟩ := yy (p := p) (by omega) M D (t := t) (u := u) (by omega) (by omega)
  exact mn 0 _ _ _ _ _ _ ⟨b1, hl1, fun _ => ⟨_, aw, rfl⟩, fun _ => ⟨b2, hl2, fun _ => ⟨_, aw, rfl⟩, fun _ => ⟨_, _, lA (by omega) M (by omega), _, _, ny (by omega) M (by omega), true, aw, fun _ => ⟨fun _ => ⟨true, su (oX p M t), fun _ => ⟨_, lP (by omega) M D, _, qc (by omega) M D, fun _ => ⟨b3, q1, b3, q2, by simp⟩, fun h => absurd rfl h⟩, fun h => (by cases h)⟩, fun h => absurd rfl h⟩, fun h => (by cases h)⟩⟩⟩
theorem tO (l : List Int) : iL l (decide (((l.length : Nat) : Int) ≤ 120)) := o4 0 _ _ rfl
theorem zO (aw : cu true) (l : List Int) : gL l true := by
  refine Classical.byCases (fun h : ((l.length : Nat) : Int) ≤ 120 => ?_) (fun h => gA 0 _ _ ⟨_, tO l, fun _ => ⟨_, aw, rfl⟩, fun h' => absurd (of_decide_eq_true h') h⟩)
  obtain ⟨p, h1, h2⟩ := yg l (by omega)
  have hpl := gh p
  have l2 : ∀ (i : Nat) (t : Tree), i + 1 ≤ 1000000000 → tbulk t ≤ kbulk p → (∃ m, bK m p (i + 1) true) → ∀ d k, (ie t).length - k ≤ d → ∃ m, cN m p (ie t) k i true := fun i t hi ht ⟨m0, hm0⟩ d => by
    induction d with
    | zero => intro k hk; exact ⟨m0 + 1, dR m0 _ _ _ _ _ ⟨fun h => by omega, fun _ => ⟨by omega, hm0⟩⟩⟩
    | succ d ihd =>
      intro k hk
      obtain ⟨u, hu, _⟩ | h' := aS (ie t) k
      · obtain ⟨m, hm⟩ := ihd (k + 1) (by omega)
        have hub := u4 (List.mem_of_getElem? hu)
        exact ⟨m + 1, dR m _ _ _ _ _ ⟨fun _ => ⟨u, hu, _, _, lA (by omega) _ (by omega), u, hu, _, _, ny (by omega) _ (by omega), fun h => absurd rfl h, fun _ => ⟨true, su (oX p _ u), fun h => (by cases h), fun _ => hm⟩⟩, fun h => by have := (List.getElem?_eq_some_iff.1 hu).1; omega⟩⟩
      · exact ⟨m0 + 1, dR m0 _ _ _ _ _ ⟨fun h => absurd h h', fun _ => ⟨by omega, hm0⟩⟩⟩
  have l1 : ∀ (i : Nat) (t : Tree), i + 1 ≤ 1000000000 → p[i]? = some t → (∃ m, bK m p (i + 1) true) → ∀ e d, t.kids.length - d ≤ e → ∃ m, cc m p d i true := fun i t hi ht h0 e => by
    have htb := dz ht
    obtain ⟨m2, hm2⟩ := l2 i t hi htb h0 (ie t).length 0 (by omega)
    have fin : ∀ d, ¬ d < t.kids.length → ∃ m, cc m p d i true := fun d hd => ⟨m2 + 1, gm m2 _ _ _ _ ⟨t, ht, fun h => absurd h hd, fun _ => ⟨t, ht, _, z4 t (by omega), hm2⟩⟩⟩
    induction e with
    | zero => intro d hd; exact fin d (by omega)
    | succ e ihe =>
      intro d hd
      by_cases hdl : d < t.kids.length
      · obtain ⟨m, hm⟩ := ihe (d + 1) (by omega)
        exact ⟨m + 1, gm m _ _ _ _ ⟨t, ht, fun _ => ⟨_, lP (by omega) _ _, _, qc (by omega) _ _, fun h => absurd rfl h, fun _ => hm⟩, fun h => absurd hdl h⟩⟩
      · exact fin d hdl
  have l0 : ∀ e i, p.length - i ≤ e → ∃ m, bK m p i true := fun e => by
    induction e with
    | zero => intro i hi; exact ⟨1, dQ 0 _ _ _ ⟨fun h => by omega, fun _ => ⟨_, aw, rfl⟩⟩⟩
    | succ e ihe =>
      intro i hi
      obtain ⟨t, ht, _⟩ | h' := aS p i
      · have hlt := (List.getElem?_eq_some_iff.1 ht).1
        obtain ⟨m, hm⟩ := l1 i t (by omega) ht (ihe (i + 1) (by omega)) t.kids.length 0 (by omega)
        exact ⟨m + 1, dQ m _ _ _ ⟨fun _ => hm, fun h => absurd hlt h⟩⟩
      · exact ⟨1, dQ 0 _ _ _ ⟨fun h => absurd h h', fun _ => ⟨_, aw, rfl⟩⟩⟩
  obtain ⟨m, hm⟩ := l0 p.length 0 (by omega)
  exact gA m _ _ ⟨_, tO l, fun _ => ⟨_, aw, rfl⟩, fun _ => ⟨p, h1, hm⟩⟩
end Go.Proofs.YtiknldgpnhikhaaGreat
namespace Go.Proofs.YtiknldgpnhikhaaGreat
open Go.RowKit Go.ChangeShapes Go.WideShapes Go.Deep
theorem x5 : Tryz.prog.cellsOf 3 = 1 := by kernel_rfl
theorem BZ {H : Type} {enc : TypeId × Value → H} {W : World} {a0 : Option Addr} {len cap : Nat} {d : DataW H} {p : List MemPlace} (h : DataW.Trod enc Tryz.prog W 0 (fun _ => true) true 22 (.slice a0 len cap) d p) :
    ∃ zs : List Int, len = zs.length ∧ len ≤ cap ∧ cap ≤ maxLen ∧ RowIn Any W 1 a0 zs.length (zs.map fun z => .int .i64 z) := by
  obtain ⟨fuel, hf⟩ := h
  rcases open_ints Tryz.underlying22 Tryz.underlying3 x5 hf with ⟨hcs, hx⟩ | ⟨a, len', cap', zs, hcs, hb, hl, hm, hlen, hx, hcell, hwf⟩
  · simp [Value.cells] at hcs
    obtain ⟨rfl, rfl, rfl⟩ := hcs
    exact ⟨[], rfl, Nat.le_refl _, Nat.zero_le _, RowIn.none_⟩
  · simp [Value.cells] at hcs
    obtain ⟨rfl, rfl, rfl⟩ := hcs
    simp only [if_true] at hlen
    have hlt : (zs.take len).length = len := by simp; omega
    refine ⟨zs.take len, hlt.symm, hl, hm, by simp, fun h0 => ?_⟩
    rw [hlt] at h0 ⊢
    have hs : a.spot = none := World.cell?_spot (a := a) (by have := hcell 0 (by omega); simpa [Addr.add] using this)
    obtain ⟨b, off, spot⟩ := a
    simp only at hs
    subst hs
    have hadd : ∀ k, (⟨b, off, none⟩ : Addr).add k = ⟨b, off + k, none⟩ := fun k => by unfold Addr.add; split <;> simp_all
    refine ⟨b, off, rfl, trivial, ?_, fun j hj => ?_⟩
    · have := hcell 0 (by omega)
      exact World.block_lt_of_cell? W ⟨b, off, none⟩ (by simpa [Addr.add] using this)
    · have hj' : j < len := by omega
      have := hcell j (by omega)
      rw [hadd] at this
      rw [this]
      simp [hj', List.getD_eq_getElem?_getD, show j < zs.length from by omega]
end Go.Proofs.YtiknldgpnhikhaaGreat
namespace Go.Proofs.YtiknldgpnhikhaaGreat
open Go.RowKit Lx Sx Go.ChangeShapes Go.WideShapes Go.Deep Go.Joins
instance : Inhabited Tree := ⟨gO⟩
theorem oN : Tryz.prog.cellsOf 29 = 4 := by kernel_rfl
theorem xf : Tryz.prog.cellsOf 3 = 1 := by kernel_rfl
theorem se : Tryz.prog.cellsOf 9 = 1 := by kernel_rfl
theorem y6 : Tryz.prog.cellsOf 27 = 1 := by kernel_rfl
theorem y8 : Tryz.prog.cellsOf 25 = 1 := by kernel_rfl
theorem sC {α : Type} {l : List α} (h : l.length = 4) : ∃ a b c d, l = [a, b, c, d] := by
  match l, h with
  | [a, b, c, d], _ => exact ⟨a, b, c, d, rfl⟩
theorem rU {α : Type} {c : Nat → List α} : ∀ (l : List Nat) (i r : Nat), (∀ j ∈ l, (c j).length = 4) → r < 4 → (l.flatMap c)[i * 4 + r]? = (l[i]?).bind fun j => (c j)[r]?
  | [], i, r, _, _ => by simp
  | j :: l, 0, r, h, hr => by
    have := h j (by simp)
    rw [List.flatMap_cons, List.getElem?_append_left (by omega)]; simp
  | j :: l, i + 1, r, h, hr => by
    have h4 := h j (by simp)
    rw [List.flatMap_cons, List.getElem?_append_right (by omega), show (i + 1) * 4 + r - (c j).length = i * 4 + r by omega, rU l i r (fun q hq => h q (by simp [hq])) hr]; simp
theorem CG {v a b c d : Value} (h : v.cells = #[a, b, c, d]) : v = .agg #[a, b, c, d] := by
  cases v <;> simp_all [Value.cells]
section
variable {H : Type} {enc : TypeId × Value → H} {W : World}
theorem oh (b off k : Nat) : (⟨b, off, none⟩ : Addr).add k = ⟨b, off + k, none⟩ := by unfold Addr.add; split <;> simp_all
theorem pg {g : Nat → Tree} {D : Nat → DataW H} : ∀ (l : List Nat), (∀ i ∈ l, tbulk (g i) ≤ Rows.uptoBulk (D i)) → kbulk (l.map g) ≤ Rows.uptoBulkAll (l.map D)
  | [], _ => by simp [kbulk, Rows.uptoBulkAll]
  | i :: l, h => by
    have := pg l (fun j hj => h j (by simp [hj]))
    have := h i (by simp)
    simp only [List.map_cons, kbulk, Rows.uptoBulkAll]; omega
theorem uI {g : Nat → List UInt8} {D : Nat → DataW H} : ∀ (l : List Nat), (∀ i ∈ l, D i = .lit (.string (g i))) → lsum (l.map g) ≤ Rows.uptoBulkAll (l.map D)
  | [], _ => by simp [lsum, Rows.uptoBulkAll]
  | i :: l, h => by
    have := uI l (fun j hj => h j (by simp [hj]))
    have := h i (by simp)
    simp only [List.map_cons, lsum, Rows.uptoBulkAll, this, Rows.uptoBulk]; omega
theorem mR {g : Nat → Tree} {c : Nat → List Value} : ∀ (l : List Nat), (∀ i ∈ l, TreeIs Any W (g i) (c i)) → KidsAre Any W (l.map g) (l.flatMap c)
  | [], _ => rfl
  | i :: l, h => by
    simp only [List.map_cons, List.flatMap_cons, KidsAre]
    exact ⟨c i, l.flatMap c, rfl, h i (by simp), mR l (fun j hj => h j (by simp [hj]))⟩
theorem Ae {n : Nat} {v : Value} {x : DataW H × List MemPlace} (h : DataW.trod enc Tryz.prog W 0 (fun _ => true) true n 27 [v] = some x) :
    ∃ (ls : List (List UInt8)) (A : Option Addr) (m : Nat), v = .slice A ls.length m ∧ ls.length ≤ m ∧ m ≤ maxLen ∧ RowIn Any W 1 A ls.length (ls.map kK) ∧ lsum ls ≤ Rows.uptoBulk x.1 := by
  rcases open_slice Tryz.underlying27 h with ⟨hcs, hx⟩ | ⟨a, len, cap, m, n', D, Pl, hcs, hb, hl, hm, hmm, hx, hi⟩
  · simp only [List.cons.injEq, and_true] at hcs
    exact ⟨[], none, 0, hcs, Nat.le_refl _, by simp [maxLen], RowIn.none_, by simp [lsum]⟩
  · simp only [List.cons.injEq, and_true] at hcs
    simp only [if_true] at hmm
    subst hmm hcs
    rw [se] at hi
    obtain ⟨T, hT⟩ := choose_lt (α := List UInt8) (p := fun i t => W.cell? (a.add i) = some (kK t) ∧ D i = .lit (.string t)) (n := m) (fun i him => by
      obtain ⟨cs', hc, ht⟩ := hi i him
      obtain ⟨s, e1, f1, _⟩ := DataW.trod_string Tryz.underlying9 ht
      subst e1
      refine ⟨s.data.toList, ?_, by have := congrArg Prod.fst f1; simpa using this⟩
      have := (World.cells?_some hc).2.2 0 (by omega)
      simpa [Addr.add] using this)
    refine ⟨(List.range len).map T, some a, m, by simp, by simpa using hl, hm, ⟨by simp, fun h0 => ?_⟩, ?_⟩
    · simp only [List.length_map, List.length_range] at h0 ⊢
      have hs : a.spot = none := World.cell?_spot (a := a) (by have := (hT 0 (by omega)).1; simpa [Addr.add] using this)
      obtain ⟨b, off, spot⟩ := a
      simp only at hs
      subst hs
      refine ⟨b, off, rfl, trivial, ?_, fun j hj => ?_⟩
      · have := (hT 0 (by omega)).1
        exact World.block_lt_of_cell? W ⟨b, off, none⟩ (by simpa [Addr.add] using this)
      · have := (hT j (by omega)).1
        rw [oh] at this
        rw [this]; simp [show j < len by omega]
    · rw [hx]
      have := uI (g := T) (D := D) (List.range len) (fun i hi' => (hT i (by have := List.mem_range.1 hi'; omega)).2)
      simp only [Rows.uptoBulk]; omega
theorem rM : ∀ (q n : Nat) (cs : List Value) (x : DataW H × List MemPlace), Rows.uptoBulk x.1 ≤ q → DataW.trod enc Tryz.prog W 0 (fun _ => true) true n 29 cs = some x → ∃ t, TreeIs Any W t cs ∧ tbulk t ≤ Rows.uptoBulk x.1
  | q, n, cs, x, hq, h => by
    obtain ⟨y0, y1, y2, y3, n', hx, hl, h0, h1, h2, h3⟩ := trod_struct4 Tryz.underlying29 h
    rw [oN] at hl
    obtain ⟨v0, v1, v2, v3, rfl⟩ := sC hl
    simp only [xf, se, y6, y8, List.drop_zero, List.drop_succ_cons, List.take_succ_cons, List.take_zero] at h0 h1 h2 h3
    obtain ⟨k, e0, f0, _⟩ := DataW.trod_int Tryz.underlying3 h0
    obtain ⟨s1, e1, f1, _⟩ := DataW.trod_string Tryz.underlying9 h1
    obtain ⟨ls, A, m, e2, l1, l2, l3, l4⟩ := Ae h2
    simp only [List.cons.injEq, and_true] at e0 e1
    have hbk : Rows.uptoBulk x.1 = Rows.uptoBulk y0.1 + (Rows.uptoBulk y1.1 + (Rows.uptoBulk y2.1 + (Rows.uptoBulk y3.1 + 0))) + 1 := by rw [hx]; simp only [Rows.uptoBulk, Rows.uptoBulkAll]
    have hs1 : Rows.uptoBulk y1.1 = s1.data.toList.length + 1 := by
      have : y1.1 = .lit (.string s1.data.toList) := by rw [f1]
      rw [this]; rfl
    have go : ∃ (ks : List Tree) (B : Option Addr) (c : Nat) (cells : List Value), v3 = .slice B ks.length c ∧ ks.length ≤ c ∧ c ≤ maxLen ∧ KidsAre Any W ks cells ∧ RowIn Any W 4 B ks.length cells ∧ kbulk ks ≤ Rows.uptoBulk y3.1 := by
      rcases open_slice Tryz.underlying25 h3 with ⟨hcs, hx3⟩ | ⟨a, len, cap, m3, n3, D, Pl, hcs, hb, hl3, hm3, hmm, hx3, hi⟩
      · simp only [List.cons.injEq, and_true] at hcs
        exact ⟨[], none, 0, [], hcs, Nat.le_refl _, by simp [maxLen], rfl, RowIn.none_, by simp [kbulk]⟩
      · simp only [List.cons.injEq, and_true] at hcs
        simp only [if_true] at hmm
        subst hmm hcs
        rw [oN] at hi
        have hall : Rows.uptoBulk y3.1 = Rows.uptoBulkAll ((List.range len).map D) + Rows.uptoBulkAll ((List.range (m3 - len)).map fun j => D (len + j)) + 1 := by rw [hx3]; simp only [Rows.uptoBulk]
        have hle : ∀ (l : List Nat) i, i ∈ l → Rows.uptoBulk (D i) ≤ Rows.uptoBulkAll (l.map D) := by
          intro l i hi'
          induction l with
          | nil => cases hi'
          | cons j r ih =>
            simp only [List.map_cons, Rows.uptoBulkAll]
            rcases List.mem_cons.1 hi' with e | e
            · subst e; omega
            · have := ih e; omega
        obtain ⟨T, hT⟩ := choose_lt (α := Tree × List Value) (p := fun i t => i < len → W.cells? 0 (a.add (i * 4)) 4 = some t.2 ∧ TreeIs Any W t.1 t.2 ∧ tbulk t.1 ≤ Rows.uptoBulk (D i)) (n := m3) (fun i him => by
          by_cases hil : i < len
          · obtain ⟨cs', hc, ht⟩ := hi i him
            have hb1 := hle (List.range len) i (by simp [hil])
            obtain ⟨t, g1, g2⟩ := rM (q - 1) n3 cs' (D i, Pl i) (by simp only; omega) ht
            exact ⟨(t, cs'), fun _ => ⟨hc, g1, g2⟩⟩
          · exact ⟨(gO, []), fun h => absurd h hil⟩)
        have hTl : ∀ i, i ∈ List.range len → W.cells? 0 (a.add (i * 4)) 4 = some (T i).2 ∧ TreeIs Any W (T i).1 (T i).2 ∧ tbulk (T i).1 ≤ Rows.uptoBulk (D i) := fun i hi' => by
          have := List.mem_range.1 hi'
          exact hT i (by omega) this
        refine ⟨(List.range len).map fun i => (T i).1, some a, m3, (List.range len).flatMap fun i => (T i).2, by simp, by simpa using hl3, hm3, mR _ (fun i hi' => (hTl i hi').2.1), ⟨?_, fun h0 => ?_⟩, ?_⟩
        · have := (mR (W := W) (g := fun i => (T i).1) (c := fun i => (T i).2) (List.range len) (fun i hi' => (hTl i hi').2.1)).length
          rw [this]
        · simp only [List.length_map, List.length_range] at h0 ⊢
          have hcell : ∀ i, i < len → ∀ r, r < 4 → W.cell? ((a.add (i * 4)).add r) = (T i).2[r]? := fun i hi' r hr => by
            have h4 := (hTl i (by simp [hi'])).2.1.four
            have := (World.cells?_some (hTl i (by simp [hi'])).1).2.2 r (by omega)
            rw [this]
          have hsome : ∃ v, W.cell? a = some v := by
            have h4 := (hTl 0 (by simp [h0])).2.1.four
            have := hcell 0 h0 0 (by omega)
            refine ⟨(T 0).2[0]'(by omega), ?_⟩
            rw [List.getElem?_eq_getElem (by omega)] at this
            simpa [Addr.add] using this
          obtain ⟨vv, hvv⟩ := hsome
          have hs : a.spot = none := World.cell?_spot (a := a) hvv
          obtain ⟨b, off, spot⟩ := a
          simp only at hs
          subst hs
          refine ⟨b, off, rfl, trivial, World.block_lt_of_cell? W ⟨b, off, none⟩ hvv, fun j hj => ?_⟩
          have e := hcell (j / 4) (by omega) (j % 4) (by omega)
          rw [oh, oh, show off + j / 4 * 4 + j % 4 = off + j by omega] at e
          have e2 := rU (c := fun i => (T i).2) (List.range len) (j / 4) (j % 4) (fun i hi' => (hTl i hi').2.1.four) (by omega)
          rw [show j / 4 * 4 + j % 4 = j by omega] at e2
          rw [e, e2]; simp [show j / 4 < len by omega]
        · have := pg (g := fun i => (T i).1) (D := D) (List.range len) (fun i hi' => (hTl i hi').2.2)
          omega
    obtain ⟨ks, B, c, cells, e3, k1, k2, k3, k4, k5⟩ := go
    refine ⟨.node k s1.data.toList ls ks, ?_, ?_⟩
    · subst e0 e1 e2 e3
      simp only [TreeIs]
      exact ⟨A, m, B, c, by simp, l1, l2, k1, k2, l3, cells, k3, k4⟩
    · simp only [tbulk]
      omega
  termination_by q => q
  decreasing_by omega
theorem CB {v : Value} {d : DataW H} {p : List MemPlace} (h : DataW.Trod enc Tryz.prog W 0 (fun _ => true) true 29 v d p) : ∃ t c0 c1 c2 c3, v.cells = #[c0, c1, c2, c3] ∧ TreeIs Any W t [c0, c1, c2, c3] ∧ tbulk t ≤ Rows.uptoBulk d := by
  obtain ⟨fuel, hf⟩ := h
  obtain ⟨t, h1, h2⟩ := rM _ fuel _ _ (Nat.le_refl _) hf
  have h4 := h1.four
  obtain ⟨c0, c1, c2, c3, e⟩ := sC h4
  refine ⟨t, c0, c1, c2, c3, ?_, e ▸ h1, h2⟩
  apply Array.ext'
  simpa using e
end
end Go.Proofs.YtiknldgpnhikhaaGreat
namespace Go.Proofs.YtiknldgpnhikhaaGreat
open Go.RowKit Go.ChangeShapes Go.WideShapes Go.Deep Go.Joins
open Lx Sx
section
variable {H : Type} {enc : TypeId × Value → H} {W : World}
theorem Cp {v : Value} {d : DataW H} {p : List MemPlace} (h : DataW.Trod enc Tryz.prog W 0 (fun _ => true) true 25 v d p) : v.cells.toList = [v] → ∃ (ks : List Tree) (B : Option Addr) (c : Nat) (cells : List Value), v = .slice B ks.length c ∧ ks.length ≤ c ∧ c ≤ maxLen ∧ KidsAre Any W ks cells ∧ RowIn Any W 4 B ks.length cells ∧ kbulk ks ≤ Rows.uptoBulk d := fun hv => by
  obtain ⟨fuel, h3⟩ := h
  rw [hv] at h3
  rcases open_slice Tryz.underlying25 h3 with ⟨hcs, hx3⟩ | ⟨a, len, cap, m3, n3, D, Pl, hcs, hb, hl3, hm3, hmm, hx3, hi⟩
  · simp only [List.cons.injEq, and_true] at hcs
    exact ⟨[], none, 0, [], hcs, Nat.le_refl _, by simp [maxLen], rfl, RowIn.none_, by simp [kbulk]⟩
  · simp only [List.cons.injEq, and_true] at hcs
    simp only [if_true] at hmm
    subst hmm hcs
    rw [oN] at hi
    have hall : Rows.uptoBulk d = Rows.uptoBulkAll ((List.range len).map D) + Rows.uptoBulkAll ((List.range (m3 - len)).map fun j => D (len + j)) + 1 := by
      have : d = _ := congrArg Prod.fst hx3
      rw [this]; simp only [Rows.uptoBulk]
    obtain ⟨T, hT⟩ := choose_lt (α := Tree × List Value) (p := fun i t => i < len → W.cells? 0 (a.add (i * 4)) 4 = some t.2 ∧ TreeIs Any W t.1 t.2 ∧ tbulk t.1 ≤ Rows.uptoBulk (D i)) (n := m3) (fun i him => by
      by_cases hil : i < len
      · obtain ⟨cs', hc, ht⟩ := hi i him
        obtain ⟨t, g1, g2⟩ := rM _ n3 cs' (D i, Pl i) (Nat.le_refl _) ht
        exact ⟨(t, cs'), fun _ => ⟨hc, g1, g2⟩⟩
      · exact ⟨(gO, []), fun h => absurd h hil⟩)
    have hTl : ∀ i, i ∈ List.range len → W.cells? 0 (a.add (i * 4)) 4 = some (T i).2 ∧ TreeIs Any W (T i).1 (T i).2 ∧ tbulk (T i).1 ≤ Rows.uptoBulk (D i) := fun i hi' => by
      have := List.mem_range.1 hi'
      exact hT i (by omega) this
    refine ⟨(List.range len).map fun i => (T i).1, some a, m3, (List.range len).flatMap fun i => (T i).2, by simp, by simpa using hl3, hm3, mR _ (fun i hi' => (hTl i hi').2.1), ⟨?_, fun h0 => ?_⟩, ?_⟩
    · have := (mR (W := W) (g := fun i => (T i).1) (c := fun i => (T i).2) (List.range len) (fun i hi' => (hTl i hi').2.1)).length
      rw [this]
    · simp only [List.length_map, List.length_range] at h0 ⊢
      have hcell : ∀ i, i < len → ∀ r, r < 4 → W.cell? ((a.add (i * 4)).add r) = (T i).2[r]? := fun i hi' r hr => by
        have h4 := (hTl i (by simp [hi'])).2.1.four
        have := (World.cells?_some (hTl i (by simp [hi'])).1).2.2 r (by omega)
        rw [this]
      have hsome : ∃ v, W.cell? a = some v := by
        have h4 := (hTl 0 (by simp [h0])).2.1.four
        have := hcell 0 h0 0 (by omega)
        refine ⟨(T 0).2[0]'(by omega), ?_⟩
        rw [List.getElem?_eq_getElem (by omega)] at this
        simpa [Addr.add] using this
      obtain ⟨vv, hvv⟩ := hsome
      have hs : a.spot = none := World.cell?_spot (a := a) hvv
      obtain ⟨b, off, spot⟩ := a
      simp only at hs
      subst hs
      refine ⟨b, off, rfl, trivial, World.block_lt_of_cell? W ⟨b, off, none⟩ hvv, fun j hj => ?_⟩
      have e := hcell (j / 4) (by omega) (j % 4) (by omega)
      rw [oh, oh, show off + j / 4 * 4 + j % 4 = off + j by omega] at e
      have e2 := rU (c := fun i => (T i).2) (List.range len) (j / 4) (j % 4) (fun i hi' => (hTl i hi').2.1.four) (by omega)
      rw [show j / 4 * 4 + j % 4 = j by omega] at e2
      rw [e, e2]; simp [show j / 4 < len by omega]
    · have := pg (g := fun i => (T i).1) (D := D) (List.range len) (fun i hi' => (hTl i hi').2.2)
      omega
end
end Go.Proofs.YtiknldgpnhikhaaGreat
namespace Go.Proofs.YtiknldgpnhikhaaGreat
open Go.RowKit Lx Sx
abbrev mq (W : World) : Nat → Prop := fun b => b < W.heap.size
theorem RowIn.live {W : World} {sz n : Nat} {A : Option Addr} {xs : List Value} (h : RowIn Any W sz A n xs) : RowIn (mq W) W sz A n xs := ⟨h.1, fun hp => by
  obtain ⟨b, off, h1, _, h3, h4⟩ := h.2 hp
  exact ⟨b, off, h1, h3, h3, h4⟩⟩
mutual
theorem TreeIs.live {W : World} : ∀ {t : Tree} {c : List Value}, TreeIs Any W t c → TreeIs (mq W) W t c
  | .node k s ls ks, c, h => by
    simp only [TreeIs] at h ⊢
    obtain ⟨A, m, B, n, h1, h2, h3, h4, h5, h6, cs, h7, h8⟩ := h
    exact ⟨A, m, B, n, h1, h2, h3, h4, h5, h6.live, cs, KidsAre.live h7, h8.live⟩
theorem KidsAre.live {W : World} : ∀ {ts : List Tree} {cs : List Value}, KidsAre Any W ts cs → KidsAre (mq W) W ts cs
  | [], cs, h => by simp only [KidsAre] at h ⊢; exact h
  | t :: r, cs, h => by
    simp only [KidsAre] at h ⊢
    obtain ⟨c, d, h1, h2, h3⟩ := h
    exact ⟨c, d, h1, TreeIs.live h2, KidsAre.live h3⟩
end
abbrev VLive (W : World) (v : V) (x : Value) : Prop := VRel (mq W) W (fun _ => none) v x
theorem C5 {W : World} {t : Tree} {c0 c1 c2 c3 : Value} (h : TreeIs Any W t [c0, c1, c2, c3]) : VLive W (nm t) (.agg #[c0, c1, c2, c3]) := by
  simp only [VLive, VRel]
  exact ⟨_, rfl, TreeIs.vrel h.live⟩
theorem CE {W : World} {ts : List Tree} {cs : List Value} {A : Option Addr} {cap : Nat} (h : KidsAre Any W ts cs) (hr : RowIn Any W 4 A ts.length cs) (hc : ts.length ≤ cap) (hm : cap ≤ maxLen) : VLive W (.row 4 (kidsV ts)) (.slice A ts.length cap) := by
  simp only [VLive, VRel]
  exact ⟨A, cap, cs, by rw [gK], by rw [gK]; exact hc, hm, KidsAre.crel h.live, by rw [gK]; exact hr.live⟩
theorem C7 {W : World} (z : Int) : VLive W (.int .i64 z) (.int .i64 z) := by simp only [VLive, VRel]
theorem C6 {fid : FuncId} {us : List V} {b : Bool} (h : aP Tryz.prog fid us (.bool b)) {W : World} {xs : List Value} (hx : LRel (mq W) W (fun _ => none) us xs) : Calls Tryz.prog fid xs.toArray W fun e W' => e = .returned (.bool b) ∧ Ext W W' := by
  have h0 := ws W
  have hr' : HRel (mq W) W (fun _ => none) (⟨0, []⟩ : Hp).get := ⟨h0.ob, fun i b hb => by rw [lv] at hb; exact hb.elim, fun i j b hb _ => by rw [lv] at hb; exact hb.elim, fun _ h => h⟩
  refine (h.2.2 _ W _ xs hr' hx).mono ?_
  rintro e W' ⟨x, S', ρ', v, H', rfl, rfl, h1, h2, h3⟩
  simp only [VRel] at h3
  subst h3
  have hno : ∀ b, ¬ ∃ id, own (fun _ => none) id ((⟨0, []⟩ : Hp).get id) b := fun b ⟨id, hb⟩ => by rw [lv] at hb; exact hb
  exact ⟨rfl, Chg.ext ⟨h2.chg.os, h2.chg.tape, h2.chg.output, h2.chg.size, fun b hb _ => h2.chg.block b hb (hno b)⟩⟩
theorem lr1 {W : World} {u : V} {x : Value} (h : VLive W u x) : LRel (mq W) W (fun _ => none) [u] [x] := ⟨x, [], rfl, h, rfl⟩
theorem lrc {W : World} {u : V} {us : List V} {x : Value} {xs : List Value} (h : VLive W u x) (k : LRel (mq W) W (fun _ => none) us xs) : LRel (mq W) W (fun _ => none) (u :: us) (x :: xs) := ⟨x, xs, rfl, h, k⟩
end Go.Proofs.YtiknldgpnhikhaaGreat
