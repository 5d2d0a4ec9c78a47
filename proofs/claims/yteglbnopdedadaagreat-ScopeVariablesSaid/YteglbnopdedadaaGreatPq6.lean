/- Contracts of the functions that the law reaches, part 6. -/
import Derived.Test.YteglbnopdedadaaGreatPq5
set_option linter.unusedVariables false
set_option linter.unusedSimpArgs false
namespace Go.Proofs.YteglbnopdedadaaGreat
open Go.RowKit Lx Sx
set_option maxRecDepth 100000
set_option maxHeartbeats 4000000
theorem bN (m : Nat) (p0 : (List GSemvcsref02Piece)) (p1 : Tree) (r0 : (List GSemvcsref02Piece)) (h : ((p1.kind = 17) → ∃ (t19_1 : Tree), p1.kids[0]? = some t19_1 ∧ ∃ (r19_2 : (List GSemvcsref02Piece)), aA p0 t19_1 r19_2 ∧ r19_2 = r0) ∧ ((p1.kind ≠ 17) → jl m p0 p1 r0)) : jv (m + 1) p0 p1 r0 := by
 intro K hK
 refine gR 6 rfl ?_
 refine gB 224 rfl rfl rfl (fun hd => ?_) (fun hd => ?_)
 refine gT 225 rfl hd rfl ?_
 replace hd := (eq_of_beq hd)
 replace h := h.1 hd
 refine gR 6 rfl ?_
 obtain ⟨t19_1, hxt19_1, h⟩ := h
 refine gY (az (ar hxt19_1) aa rfl rfl rfl rfl) rfl rfl ?_
 refine gR 1 rfl ?_
 obtain ⟨r19_2, hs149, h⟩ := h
 refine gC hs149 [0] (by kernel_rfl) rfl rfl .rfl ⟨⟨_, rfl, ⟨rfl, rfl, (ai _ GSemvcsref02Piece.w (fun _ => rfl) p0).symm⟩⟩, trivial⟩ rfl ?_
 rintro _ _ ⟨rfl, rfl⟩
 refine gHR 2 (List.map GSemvcsref02Piece.w r19_2) rfl (ai _ GSemvcsref02Piece.w (fun _ => rfl) r19_2) rfl ?_
 refine gR 6 rfl ?_
 subst h
 refine ab (F' := (mkF 365 0 [(4, .sl 1)])) (H' := ⟨2, [(1, .row 131 2 (List.map GSemvcsref02Piece.w r19_2))]⟩) [1000, 2] [] rfl hK ⟨⟨_, rfl, .rfl⟩, trivial⟩ ⟨⟨_, rfl, ⟨rfl, rfl, (ai _ GSemvcsref02Piece.w (fun _ => rfl) r19_2).symm⟩⟩, trivial⟩ rfl ?_
 exact ax [] aa (rs := [.tmp 4]) rfl rfl ⟨rfl, rfl⟩
 refine gF 225 rfl hd rfl ?_
 replace hd := (ne_of_beq_false hd)
 replace h := h.2 hd
 refine gR 1 rfl ?_
 exact gJ (h K hK) [0] [] rfl hK ⟨⟨_, rfl, .rfl⟩, ⟨_, rfl, .rfl⟩, ⟨_, rfl, .rfl⟩, ⟨_, rfl, .rfl⟩, trivial⟩ ⟨⟨_, rfl, ⟨rfl, rfl, (ai _ GSemvcsref02Piece.w (fun _ => rfl) p0).symm⟩⟩, trivial⟩ rfl
theorem ch (m : Nat) (p0 : (List GSemvcsref02Piece)) (p1 : Tree) (r0 : (List GSemvcsref02Piece)) (h : ((p1.kind = 18) → jt m p0 p1 r0) ∧ ((p1.kind ≠ 18) → jr m p0 p1 r0)) : jl (m + 1) p0 p1 r0 := by
 intro K hK
 refine gR 6 rfl ?_
 refine gB 232 rfl rfl rfl (fun hd => ?_) (fun hd => ?_)
 refine gT 233 rfl hd rfl ?_
 replace hd := (eq_of_beq hd)
 replace h := h.1 hd
 refine gR 1 rfl ?_
 exact gJ (h K hK) [0] [] rfl hK ⟨⟨_, rfl, .rfl⟩, ⟨_, rfl, .rfl⟩, ⟨_, rfl, .rfl⟩, trivial⟩ ⟨⟨_, rfl, ⟨rfl, rfl, (ai _ GSemvcsref02Piece.w (fun _ => rfl) p0).symm⟩⟩, trivial⟩ rfl
 refine gF 233 rfl hd rfl ?_
 replace hd := (ne_of_beq_false hd)
 replace h := h.2 hd
 refine gR 1 rfl ?_
 exact gJ (h K hK) [0] [] rfl hK ⟨⟨_, rfl, .rfl⟩, ⟨_, rfl, .rfl⟩, ⟨_, rfl, .rfl⟩, trivial⟩ ⟨⟨_, rfl, ⟨rfl, rfl, (ai _ GSemvcsref02Piece.w (fun _ => rfl) p0).symm⟩⟩, trivial⟩ rfl
theorem mh (m : Nat) (p0 : (List GSemvcsref02Piece)) (p1 : Tree) (r0 : (List GSemvcsref02Piece)) (h : ∃ (s21_1 : (List UInt8)), aj p1 0 s21_1 ∧ (p0 ++ [(GSemvcsref02Piece.mk s21_1 [91])]).length ≤ 1000000000 ∧ ∃ (r21_2 : (List GSemvcsref02Piece)), dH (p0 ++ [(GSemvcsref02Piece.mk s21_1 [91])]) p1 0 ((p1.kids.length : Nat) : Int) 2 r21_2 ∧ ∃ (s21_3 : (List UInt8)), aj p1 1 s21_3 ∧ (r21_2 ++ [(GSemvcsref02Piece.mk s21_3 [93])]).length ≤ 1000000000 ∧ (r21_2 ++ [(GSemvcsref02Piece.mk s21_3 [93])]) = r0) : jt (m + 1) p0 p1 r0 := by
 intro K hK
 refine gR 4 rfl ?_
 obtain ⟨s21_1, hs150, h⟩ := h
 refine gC0 hs150 (by kernel_rfl) rfl rfl .rfl rfl ?_
 refine gR 2 rfl ?_
 obtain ⟨hb, h⟩ := h
 refine gDo (.repl 0 (.row 131 2 (List.map GSemvcsref02Piece.w (p0 ++ [(GSemvcsref02Piece.mk s21_1 [91])])))) (bf aa rfl rfl rfl rfl rfl (apM GSemvcsref02Piece.w p0 (GSemvcsref02Piece.mk s21_1 [91])) (by rw [aq]; exact hb)) (okR rfl) rfl rfl rfl ?_
 refine gR 4 rfl ?_
 refine gDs [] 10 10 rfl (by kernel_rfl) (by kernel_rfl) ?_
 refine gDr [(0, 2), (1, 2), (2, 2), (4, 2)] (by kernel_rfl) rfl rfl ?_
 obtain ⟨r21_2, hs151, h⟩ := h
 refine gDC 3 hs151 [2] (by kernel_rfl) rfl (by kernel_rfl) rfl rfl .rfl ⟨⟨_, rfl, ⟨rfl, rfl, (ai _ GSemvcsref02Piece.w (fun _ => rfl) (p0 ++ [(GSemvcsref02Piece.mk s21_1 [91])])).symm⟩⟩, trivial⟩ (by kernel_rfl) rfl ?_
 rintro _ _ ⟨rfl, rfl⟩
 refine gHR 4 (List.map GSemvcsref02Piece.w r21_2) rfl (ai _ GSemvcsref02Piece.w (fun _ => rfl) r21_2) rfl ?_
 obtain ⟨s21_3, hs152, h⟩ := h
 refine br 5 hs152 (by kernel_rfl) rfl (by kernel_rfl) rfl rfl .rfl rfl rfl ?_
 refine gDr [(6, 0), (7, 0)] (by kernel_rfl) rfl rfl ?_
 obtain ⟨hb, h⟩ := h
 refine ce 8 (.repl 4 (.row 131 2 (List.map GSemvcsref02Piece.w (r21_2 ++ [(GSemvcsref02Piece.mk s21_3 [93])])))) rfl (by kernel_rfl) (bf aa rfl rfl rfl rfl rfl (apM GSemvcsref02Piece.w r21_2 (GSemvcsref02Piece.mk s21_3 [93])) (by rw [aq]; exact hb)) (okR rfl) rfl (by kernel_rfl) rfl rfl ?_
 refine gDr [(9, 0)] (by kernel_rfl) rfl rfl ?_
 refine gDe (by kernel_rfl) ?_
 refine gR 4 rfl ?_
 subst h
 refine ab (F' := (mkF 365 0 [(4, .sl 1)])) (H' := ⟨2, [(1, .row 131 2 (List.map GSemvcsref02Piece.w (r21_2 ++ [(GSemvcsref02Piece.mk s21_3 [93])])))]⟩) [1000, 6] [] rfl hK ⟨⟨_, rfl, .rfl⟩, trivial⟩ ⟨⟨_, rfl, ⟨rfl, rfl, (ai _ GSemvcsref02Piece.w (fun _ => rfl) (r21_2 ++ [(GSemvcsref02Piece.mk s21_3 [93])])).symm⟩⟩, trivial⟩ rfl ?_
 exact ax [] aa (rs := [.tmp 4]) rfl rfl ⟨rfl, rfl⟩
theorem cR (m : Nat) (p0 : (List GSemvcsref02Piece)) (p1 : Tree) (r0 : (List GSemvcsref02Piece)) (h : ((p1.kind = 19) → je m p0 p1 r0) ∧ ((p1.kind ≠ 19) → i8 m p0 p1 r0)) : jr (m + 1) p0 p1 r0 := by
 intro K hK
 refine gR 6 rfl ?_
 refine gB 249 rfl rfl rfl (fun hd => ?_) (fun hd => ?_)
 refine gT 250 rfl hd rfl ?_
 replace hd := (eq_of_beq hd)
 replace h := h.1 hd
 refine gR 1 rfl ?_
 exact gJ (h K hK) [0] [] rfl hK ⟨⟨_, rfl, .rfl⟩, ⟨_, rfl, .rfl⟩, trivial⟩ ⟨⟨_, rfl, ⟨rfl, rfl, (ai _ GSemvcsref02Piece.w (fun _ => rfl) p0).symm⟩⟩, trivial⟩ rfl
 refine gF 250 rfl hd rfl ?_
 replace hd := (ne_of_beq_false hd)
 replace h := h.2 hd
 refine gR 1 rfl ?_
 exact gJ (h K hK) [0] [] rfl hK ⟨⟨_, rfl, .rfl⟩, ⟨_, rfl, .rfl⟩, ⟨_, rfl, .rfl⟩, trivial⟩ ⟨⟨_, rfl, ⟨rfl, rfl, (ai _ GSemvcsref02Piece.w (fun _ => rfl) p0).symm⟩⟩, trivial⟩ rfl
theorem mj (m : Nat) (p0 : (List GSemvcsref02Piece)) (p1 : Tree) (r0 : (List GSemvcsref02Piece)) (h : ∃ (t23_1 : Tree), p1.kids[0]? = some t23_1 ∧ ∃ (s23_2 : (List UInt8)), aj p1 0 s23_2 ∧ (p0 ++ [(GSemvcsref02Piece.mk s23_2 [105, 102])]).length ≤ 1000000000 ∧ ∃ (r23_3 : (List GSemvcsref02Piece)), aA (p0 ++ [(GSemvcsref02Piece.mk s23_2 [105, 102])]) t23_1 r23_3 ∧ ∃ (t23_4 : Tree), p1.kids[1]? = some t23_4 ∧ ∃ (s23_5 : (List UInt8)), aj p1 1 s23_5 ∧ (r23_3 ++ [(GSemvcsref02Piece.mk s23_5 [116, 104, 101, 110])]).length ≤ 1000000000 ∧ ∃ (r23_6 : (List GSemvcsref02Piece)), aA (r23_3 ++ [(GSemvcsref02Piece.mk s23_5 [116, 104, 101, 110])]) t23_4 r23_6 ∧ ∃ (t23_7 : Tree), p1.kids[2]? = some t23_7 ∧ ∃ (s23_8 : (List UInt8)), aj p1 2 s23_8 ∧ (r23_6 ++ [(GSemvcsref02Piece.mk s23_8 [101, 108, 115, 101])]).length ≤ 1000000000 ∧ ∃ (r23_9 : (List GSemvcsref02Piece)), aA (r23_6 ++ [(GSemvcsref02Piece.mk s23_8 [101, 108, 115, 101])]) t23_7 r23_9 ∧ r23_9 = r0) : je (m + 1) p0 p1 r0 := by
 intro K hK
 refine gR 1 rfl ?_
 refine gDs [] 12 12 rfl (by kernel_rfl) (by kernel_rfl) ?_
 refine gDr [(0, 2), (1, 2), (6, 2), (7, 2)] (by kernel_rfl) rfl rfl ?_
 obtain ⟨t23_1, hxt23_1, h⟩ := h
 refine gYd 8 rfl (by kernel_rfl) (az (ar hxt23_1) aa rfl rfl rfl rfl) rfl rfl ?_
 refine gDr [(9, 2)] (by kernel_rfl) rfl rfl ?_
 obtain ⟨s23_2, hs153, h⟩ := h
 refine br 2 hs153 (by kernel_rfl) rfl (by kernel_rfl) rfl rfl .rfl rfl rfl ?_
 refine gDr [(3, 0), (4, 0)] (by kernel_rfl) rfl rfl ?_
 obtain ⟨hb, h⟩ := h
 refine ce 5 (.repl 0 (.row 131 2 (List.map GSemvcsref02Piece.w (p0 ++ [(GSemvcsref02Piece.mk s23_2 [105, 102])])))) rfl (by kernel_rfl) (bf aa rfl rfl rfl rfl rfl (apM GSemvcsref02Piece.w p0 (GSemvcsref02Piece.mk s23_2 [105, 102])) (by rw [aq]; exact hb)) (okR rfl) rfl (by kernel_rfl) rfl rfl ?_
 obtain ⟨r23_3, hs154, h⟩ := h
 refine gDC 10 hs154 [2] (by kernel_rfl) rfl (by kernel_rfl) rfl rfl .rfl ⟨⟨_, rfl, ⟨rfl, rfl, (ai _ GSemvcsref02Piece.w (fun _ => rfl) (p0 ++ [(GSemvcsref02Piece.mk s23_2 [105, 102])])).symm⟩⟩, trivial⟩ (by kernel_rfl) rfl ?_
 rintro _ _ ⟨rfl, rfl⟩
 refine gHR 4 (List.map GSemvcsref02Piece.w r23_3) rfl (ai _ GSemvcsref02Piece.w (fun _ => rfl) r23_3) rfl ?_
 refine gDr [(11, 0)] (by kernel_rfl) rfl rfl ?_
 refine gDe (by kernel_rfl) ?_
 refine gR 2 rfl ?_
 refine gDs [] 12 12 rfl (by kernel_rfl) (by kernel_rfl) ?_
 refine gDr [(0, 2), (1, 2), (6, 2), (7, 2)] (by kernel_rfl) rfl rfl ?_
 obtain ⟨t23_4, hxt23_4, h⟩ := h
 refine gYd 8 rfl (by kernel_rfl) (az (ar hxt23_4) aa rfl rfl rfl rfl) rfl rfl ?_
 refine gDr [(9, 2)] (by kernel_rfl) rfl rfl ?_
 obtain ⟨s23_5, hs155, h⟩ := h
 refine br 2 hs155 (by kernel_rfl) rfl (by kernel_rfl) rfl rfl .rfl rfl rfl ?_
 refine gDr [(3, 0), (4, 0)] (by kernel_rfl) rfl rfl ?_
 obtain ⟨hb, h⟩ := h
 refine ce 5 (.repl 4 (.row 131 2 (List.map GSemvcsref02Piece.w (r23_3 ++ [(GSemvcsref02Piece.mk s23_5 [116, 104, 101, 110])])))) rfl (by kernel_rfl) (bf aa rfl rfl rfl rfl rfl (apM GSemvcsref02Piece.w r23_3 (GSemvcsref02Piece.mk s23_5 [116, 104, 101, 110])) (by rw [aq]; exact hb)) (okR rfl) rfl (by kernel_rfl) rfl rfl ?_
 obtain ⟨r23_6, hs156, h⟩ := h
 refine gDC 10 hs156 [6] (by kernel_rfl) rfl (by kernel_rfl) rfl rfl .rfl ⟨⟨_, rfl, ⟨rfl, rfl, (ai _ GSemvcsref02Piece.w (fun _ => rfl) (r23_3 ++ [(GSemvcsref02Piece.mk s23_5 [116, 104, 101, 110])])).symm⟩⟩, trivial⟩ (by kernel_rfl) rfl ?_
 rintro _ _ ⟨rfl, rfl⟩
 refine gHR 8 (List.map GSemvcsref02Piece.w r23_6) rfl (ai _ GSemvcsref02Piece.w (fun _ => rfl) r23_6) rfl ?_
 refine gDr [(11, 0)] (by kernel_rfl) rfl rfl ?_
 refine gDe (by kernel_rfl) ?_
 refine gR 2 rfl ?_
 refine gDs [] 12 12 rfl (by kernel_rfl) (by kernel_rfl) ?_
 refine gDr [(0, 2), (1, 2), (6, 2), (7, 2)] (by kernel_rfl) rfl rfl ?_
 obtain ⟨t23_7, hxt23_7, h⟩ := h
 refine gYd 8 rfl (by kernel_rfl) (az (ar hxt23_7) aa rfl rfl rfl rfl) rfl rfl ?_
 refine gDr [(9, 2)] (by kernel_rfl) rfl rfl ?_
 obtain ⟨s23_8, hs157, h⟩ := h
 refine br 2 hs157 (by kernel_rfl) rfl (by kernel_rfl) rfl rfl .rfl rfl rfl ?_
 refine gDr [(3, 0), (4, 0)] (by kernel_rfl) rfl rfl ?_
 obtain ⟨hb, h⟩ := h
 refine ce 5 (.repl 8 (.row 131 2 (List.map GSemvcsref02Piece.w (r23_6 ++ [(GSemvcsref02Piece.mk s23_8 [101, 108, 115, 101])])))) rfl (by kernel_rfl) (bf aa rfl rfl rfl rfl rfl (apM GSemvcsref02Piece.w r23_6 (GSemvcsref02Piece.mk s23_8 [101, 108, 115, 101])) (by rw [aq]; exact hb)) (okR rfl) rfl (by kernel_rfl) rfl rfl ?_
 obtain ⟨r23_9, hs158, h⟩ := h
 refine gDC 10 hs158 [10] (by kernel_rfl) rfl (by kernel_rfl) rfl rfl .rfl ⟨⟨_, rfl, ⟨rfl, rfl, (ai _ GSemvcsref02Piece.w (fun _ => rfl) (r23_6 ++ [(GSemvcsref02Piece.mk s23_8 [101, 108, 115, 101])])).symm⟩⟩, trivial⟩ (by kernel_rfl) rfl ?_
 rintro _ _ ⟨rfl, rfl⟩
 refine gHR 12 (List.map GSemvcsref02Piece.w r23_9) rfl (ai _ GSemvcsref02Piece.w (fun _ => rfl) r23_9) rfl ?_
 refine gDr [(11, 0)] (by kernel_rfl) rfl rfl ?_
 refine gDe (by kernel_rfl) ?_
 refine gR 4 rfl ?_
 subst h
 refine ab (F' := (mkF 365 0 [(4, .sl 1)])) (H' := ⟨2, [(1, .row 131 2 (List.map GSemvcsref02Piece.w r23_9))]⟩) [1000, 12] [] rfl hK ⟨⟨_, rfl, .rfl⟩, trivial⟩ ⟨⟨_, rfl, ⟨rfl, rfl, (ai _ GSemvcsref02Piece.w (fun _ => rfl) r23_9).symm⟩⟩, trivial⟩ rfl ?_
 exact ax [] aa (rs := [.tmp 4]) rfl rfl ⟨rfl, rfl⟩
theorem dP (m : Nat) (p0 : (List GSemvcsref02Piece)) (p1 : Tree) (r0 : (List GSemvcsref02Piece)) (h : ((p1.kind = 20) → jj m p0 p1 r0) ∧ ((p1.kind ≠ 20) → jw m p0 p1 r0)) : i8 (m + 1) p0 p1 r0 := by
 intro K hK
 refine gR 6 rfl ?_
 refine gB 284 rfl rfl rfl (fun hd => ?_) (fun hd => ?_)
 refine gT 285 rfl hd rfl ?_
 replace hd := (eq_of_beq hd)
 replace h := h.1 hd
 refine gR 1 rfl ?_
 exact gJ (h K hK) [0] [] rfl hK ⟨⟨_, rfl, .rfl⟩, ⟨_, rfl, .rfl⟩, trivial⟩ ⟨⟨_, rfl, ⟨rfl, rfl, (ai _ GSemvcsref02Piece.w (fun _ => rfl) p0).symm⟩⟩, trivial⟩ rfl
 refine gF 285 rfl hd rfl ?_
 replace hd := (ne_of_beq_false hd)
 replace h := h.2 hd
 refine gR 1 rfl ?_
 exact gJ (h K hK) [0] [] rfl hK ⟨⟨_, rfl, .rfl⟩, ⟨_, rfl, .rfl⟩, ⟨_, rfl, .rfl⟩, trivial⟩ ⟨⟨_, rfl, ⟨rfl, rfl, (ai _ GSemvcsref02Piece.w (fun _ => rfl) p0).symm⟩⟩, trivial⟩ rfl
theorem mg (m : Nat) (p0 : (List GSemvcsref02Piece)) (p1 : Tree) (r0 : (List GSemvcsref02Piece)) (h : ∃ (s25_1 : (List UInt8)), aj p1 0 s25_1 ∧ ∃ (s25_2 : (List UInt8)), aj p1 1 s25_2 ∧ ∃ (s25_3 : (List UInt8)), aj p1 2 s25_3 ∧ (p0 ++ [(GSemvcsref02Piece.mk s25_1 [108, 101, 116]), (GSemvcsref02Piece.mk s25_2 p1.text), (GSemvcsref02Piece.mk s25_3 [61])]).length ≤ 1000000000 ∧ ∃ (t25_4 : Tree), p1.kids[0]? = some t25_4 ∧ ∃ (r25_5 : (List GSemvcsref02Piece)), aA (p0 ++ [(GSemvcsref02Piece.mk s25_1 [108, 101, 116]), (GSemvcsref02Piece.mk s25_2 p1.text), (GSemvcsref02Piece.mk s25_3 [61])]) t25_4 r25_5 ∧ ∃ (s25_6 : (List UInt8)), aj p1 3 s25_6 ∧ (r25_5 ++ [(GSemvcsref02Piece.mk s25_6 [105, 110])]).length ≤ 1000000000 ∧ ∃ (t25_7 : Tree), p1.kids[1]? = some t25_7 ∧ ∃ (r25_8 : (List GSemvcsref02Piece)), aA (r25_5 ++ [(GSemvcsref02Piece.mk s25_6 [105, 110])]) t25_7 r25_8 ∧ r25_8 = r0) : jj (m + 1) p0 p1 r0 := by
 intro K hK
 refine gR 1 rfl ?_
 refine gDs [] 15 15 rfl (by kernel_rfl) (by kernel_rfl) ?_
 refine gDr [(0, 2), (1, 2), (4, 2), (6, 2), (7, 2), (9, 2)] (by kernel_rfl) rfl rfl ?_
 obtain ⟨s25_1, hs159, h⟩ := h
 refine br 2 hs159 (by kernel_rfl) rfl (by kernel_rfl) rfl rfl .rfl rfl rfl ?_
 refine gDr [(3, 2)] (by kernel_rfl) rfl rfl ?_
 obtain ⟨s25_2, hs160, h⟩ := h
 refine br 5 hs160 (by kernel_rfl) rfl (by kernel_rfl) rfl rfl .rfl rfl rfl ?_
 refine gDr [(8, 2)] (by kernel_rfl) rfl rfl ?_
 obtain ⟨s25_3, hs161, h⟩ := h
 refine br 10 hs161 (by kernel_rfl) rfl (by kernel_rfl) rfl rfl .rfl rfl rfl ?_
 refine gDr [(11, 0), (12, 0)] (by kernel_rfl) rfl rfl ?_
 obtain ⟨hb, h⟩ := h
 refine ce 13 (.repl 0 (.row 131 2 (List.map GSemvcsref02Piece.w (p0 ++ [(GSemvcsref02Piece.mk s25_1 [108, 101, 116]), (GSemvcsref02Piece.mk s25_2 p1.text), (GSemvcsref02Piece.mk s25_3 [61])])))) rfl (by kernel_rfl) (bf aa rfl rfl rfl rfl rfl (List.map_append (f := GSemvcsref02Piece.w) (l₁ := p0) (l₂ := [(GSemvcsref02Piece.mk s25_1 [108, 101, 116]), (GSemvcsref02Piece.mk s25_2 p1.text), (GSemvcsref02Piece.mk s25_3 [61])])).symm (by rw [aq]; exact hb)) (okR rfl) rfl (by kernel_rfl) rfl rfl ?_
 refine gDr [(14, 0)] (by kernel_rfl) rfl rfl ?_
 refine gDe (by kernel_rfl) ?_
 refine gR 2 rfl ?_
 refine gDs [] 12 12 rfl (by kernel_rfl) (by kernel_rfl) ?_
 refine gDr [(0, 2), (1, 2), (2, 2)] (by kernel_rfl) rfl rfl ?_
 obtain ⟨t25_4, hxt25_4, h⟩ := h
 refine gYd 3 rfl (by kernel_rfl) (az (ar hxt25_4) aa rfl rfl rfl rfl) rfl rfl ?_
 refine gDr [(4, 2), (6, 2)] (by kernel_rfl) rfl rfl ?_
 obtain ⟨r25_5, hs162, h⟩ := h
 refine gDC 5 hs162 [2] (by kernel_rfl) rfl (by kernel_rfl) rfl rfl .rfl ⟨⟨_, rfl, ⟨rfl, rfl, (ai _ GSemvcsref02Piece.w (fun _ => rfl) (p0 ++ [(GSemvcsref02Piece.mk s25_1 [108, 101, 116]), (GSemvcsref02Piece.mk s25_2 p1.text), (GSemvcsref02Piece.mk s25_3 [61])])).symm⟩⟩, trivial⟩ (by kernel_rfl) rfl ?_
 rintro _ _ ⟨rfl, rfl⟩
 refine gHR 4 (List.map GSemvcsref02Piece.w r25_5) rfl (ai _ GSemvcsref02Piece.w (fun _ => rfl) r25_5) rfl ?_
 obtain ⟨s25_6, hs163, h⟩ := h
 refine br 7 hs163 (by kernel_rfl) rfl (by kernel_rfl) rfl rfl .rfl rfl rfl ?_
 refine gDr [(8, 0), (9, 0)] (by kernel_rfl) rfl rfl ?_
 obtain ⟨hb, h⟩ := h
 refine ce 10 (.repl 4 (.row 131 2 (List.map GSemvcsref02Piece.w (r25_5 ++ [(GSemvcsref02Piece.mk s25_6 [105, 110])])))) rfl (by kernel_rfl) (bf aa rfl rfl rfl rfl rfl (apM GSemvcsref02Piece.w r25_5 (GSemvcsref02Piece.mk s25_6 [105, 110])) (by rw [aq]; exact hb)) (okR rfl) rfl (by kernel_rfl) rfl rfl ?_
 refine gDr [(11, 0)] (by kernel_rfl) rfl rfl ?_
 refine gDe (by kernel_rfl) ?_
 refine gR 6 rfl ?_
 obtain ⟨t25_7, hxt25_7, h⟩ := h
 refine gY (az (ar hxt25_7) aa rfl rfl rfl rfl) rfl rfl ?_
 refine gR 1 rfl ?_
 obtain ⟨r25_8, hs164, h⟩ := h
 refine gC hs164 [6] (by kernel_rfl) rfl rfl .rfl ⟨⟨_, rfl, ⟨rfl, rfl, (ai _ GSemvcsref02Piece.w (fun _ => rfl) (r25_5 ++ [(GSemvcsref02Piece.mk s25_6 [105, 110])])).symm⟩⟩, trivial⟩ rfl ?_
 rintro _ _ ⟨rfl, rfl⟩
 refine gHR 8 (List.map GSemvcsref02Piece.w r25_8) rfl (ai _ GSemvcsref02Piece.w (fun _ => rfl) r25_8) rfl ?_
 refine gR 6 rfl ?_
 subst h
 refine ab (F' := (mkF 365 0 [(4, .sl 1)])) (H' := ⟨2, [(1, .row 131 2 (List.map GSemvcsref02Piece.w r25_8))]⟩) [1000, 8] [] rfl hK ⟨⟨_, rfl, .rfl⟩, trivial⟩ ⟨⟨_, rfl, ⟨rfl, rfl, (ai _ GSemvcsref02Piece.w (fun _ => rfl) r25_8).symm⟩⟩, trivial⟩ rfl ?_
 exact ax [] aa (rs := [.tmp 4]) rfl rfl ⟨rfl, rfl⟩
theorem fv (m : Nat) (p0 : (List GSemvcsref02Piece)) (p1 : Tree) (r0 : (List GSemvcsref02Piece)) (h : ((p1.kind = 21) → jq m p0 p1 r0) ∧ ((p1.kind ≠ 21) → jo m p0 p1 r0)) : jw (m + 1) p0 p1 r0 := by
 intro K hK
 refine gR 6 rfl ?_
 refine gB 317 rfl rfl rfl (fun hd => ?_) (fun hd => ?_)
 refine gT 318 rfl hd rfl ?_
 replace hd := (eq_of_beq hd)
 replace h := h.1 hd
 refine gR 1 rfl ?_
 exact gJ (h K hK) [0] [] rfl hK ⟨⟨_, rfl, .rfl⟩, ⟨_, rfl, .rfl⟩, trivial⟩ ⟨⟨_, rfl, ⟨rfl, rfl, (ai _ GSemvcsref02Piece.w (fun _ => rfl) p0).symm⟩⟩, trivial⟩ rfl
 refine gF 318 rfl hd rfl ?_
 replace hd := (ne_of_beq_false hd)
 replace h := h.2 hd
 refine gR 1 rfl ?_
 exact gJ (h K hK) [0] [] rfl hK ⟨⟨_, rfl, .rfl⟩, ⟨_, rfl, .rfl⟩, ⟨_, rfl, .rfl⟩, trivial⟩ ⟨⟨_, rfl, ⟨rfl, rfl, (ai _ GSemvcsref02Piece.w (fun _ => rfl) p0).symm⟩⟩, trivial⟩ rfl
theorem mc (m : Nat) (p0 : (List GSemvcsref02Piece)) (p1 : Tree) (r0 : (List GSemvcsref02Piece)) (h : ∃ (t27_1 : Tree), p1.kids[0]? = some t27_1 ∧ ∃ (r27_2 : (List GSemvcsref02Piece)), aA p0 t27_1 r27_2 ∧ ∃ (s27_3 : (List UInt8)), aj p1 0 s27_3 ∧ (r27_2 ++ [(GSemvcsref02Piece.mk s27_3 p1.text)]).length ≤ 1000000000 ∧ ∃ (t27_4 : Tree), p1.kids[1]? = some t27_4 ∧ ∃ (r27_5 : (List GSemvcsref02Piece)), aA (r27_2 ++ [(GSemvcsref02Piece.mk s27_3 p1.text)]) t27_4 r27_5 ∧ r27_5 = r0) : jq (m + 1) p0 p1 r0 := by
 intro K hK
 refine gR 1 rfl ?_
 refine gDs [] 14 14 rfl (by kernel_rfl) (by kernel_rfl) ?_
 refine gDr [(0, 2), (1, 2), (2, 2)] (by kernel_rfl) rfl rfl ?_
 obtain ⟨t27_1, hxt27_1, h⟩ := h
 refine gYd 3 rfl (by kernel_rfl) (az (ar hxt27_1) aa rfl rfl rfl rfl) rfl rfl ?_
 refine gDr [(4, 2), (6, 2), (8, 2), (9, 2)] (by kernel_rfl) rfl rfl ?_
 obtain ⟨r27_2, hs165, h⟩ := h
 refine gDC 5 hs165 [0] (by kernel_rfl) rfl (by kernel_rfl) rfl rfl .rfl ⟨⟨_, rfl, ⟨rfl, rfl, (ai _ GSemvcsref02Piece.w (fun _ => rfl) p0).symm⟩⟩, trivial⟩ (by kernel_rfl) rfl ?_
 rintro _ _ ⟨rfl, rfl⟩
 refine gHR 2 (List.map GSemvcsref02Piece.w r27_2) rfl (ai _ GSemvcsref02Piece.w (fun _ => rfl) r27_2) rfl ?_
 obtain ⟨s27_3, hs166, h⟩ := h
 refine br 7 hs166 (by kernel_rfl) rfl (by kernel_rfl) rfl rfl .rfl rfl rfl ?_
 refine gDr [(10, 0), (11, 0)] (by kernel_rfl) rfl rfl ?_
 obtain ⟨hb, h⟩ := h
 refine ce 12 (.repl 2 (.row 131 2 (List.map GSemvcsref02Piece.w (r27_2 ++ [(GSemvcsref02Piece.mk s27_3 p1.text)])))) rfl (by kernel_rfl) (bf aa rfl rfl rfl rfl rfl (apM GSemvcsref02Piece.w r27_2 (GSemvcsref02Piece.mk s27_3 p1.text)) (by rw [aq]; exact hb)) (okR rfl) rfl (by kernel_rfl) rfl rfl ?_
 refine gDr [(13, 0)] (by kernel_rfl) rfl rfl ?_
 refine gDe (by kernel_rfl) ?_
 refine gR 6 rfl ?_
 obtain ⟨t27_4, hxt27_4, h⟩ := h
 refine gY (az (ar hxt27_4) aa rfl rfl rfl rfl) rfl rfl ?_
 refine gR 1 rfl ?_
 obtain ⟨r27_5, hs167, h⟩ := h
 refine gC hs167 [4] (by kernel_rfl) rfl rfl .rfl ⟨⟨_, rfl, ⟨rfl, rfl, (ai _ GSemvcsref02Piece.w (fun _ => rfl) (r27_2 ++ [(GSemvcsref02Piece.mk s27_3 p1.text)])).symm⟩⟩, trivial⟩ rfl ?_
 rintro _ _ ⟨rfl, rfl⟩
 refine gHR 6 (List.map GSemvcsref02Piece.w r27_5) rfl (ai _ GSemvcsref02Piece.w (fun _ => rfl) r27_5) rfl ?_
 refine gR 6 rfl ?_
 subst h
 refine ab (F' := (mkF 365 0 [(4, .sl 1)])) (H' := ⟨2, [(1, .row 131 2 (List.map GSemvcsref02Piece.w r27_5))]⟩) [1000, 6] [] rfl hK ⟨⟨_, rfl, .rfl⟩, trivial⟩ ⟨⟨_, rfl, ⟨rfl, rfl, (ai _ GSemvcsref02Piece.w (fun _ => rfl) r27_5).symm⟩⟩, trivial⟩ rfl ?_
 exact ax [] aa (rs := [.tmp 4]) rfl rfl ⟨rfl, rfl⟩
theorem iV (m : Nat) (p0 : (List GSemvcsref02Piece)) (p1 : Tree) (r0 : (List GSemvcsref02Piece)) (h : ((p1.kind = 22) → jc m p0 p1 r0) ∧ ((p1.kind ≠ 22) → ∃ (s28_1 : (List UInt8)), aj p1 0 s28_1 ∧ (p0 ++ [(GSemvcsref02Piece.mk s28_1 p1.text)]).length ≤ 1000000000 ∧ (p0 ++ [(GSemvcsref02Piece.mk s28_1 p1.text)]) = r0)) : jo (m + 1) p0 p1 r0 := by
 intro K hK
 refine gR 6 rfl ?_
 refine gB 338 rfl rfl rfl (fun hd => ?_) (fun hd => ?_)
 refine gT 339 rfl hd rfl ?_
 replace hd := (eq_of_beq hd)
 replace h := h.1 hd
 refine gR 1 rfl ?_
 exact gJ (h K hK) [0] [] rfl hK ⟨⟨_, rfl, .rfl⟩, ⟨_, rfl, .rfl⟩, trivial⟩ ⟨⟨_, rfl, ⟨rfl, rfl, (ai _ GSemvcsref02Piece.w (fun _ => rfl) p0).symm⟩⟩, trivial⟩ rfl
 refine gF 339 rfl hd rfl ?_
 replace hd := (ne_of_beq_false hd)
 replace h := h.2 hd
 refine gR 5 rfl ?_
 refine gDs [] 9 9 rfl (by kernel_rfl) (by kernel_rfl) ?_
 refine gDr [(0, 2), (1, 2), (3, 2), (4, 2)] (by kernel_rfl) rfl rfl ?_
 obtain ⟨s28_1, hs168, h⟩ := h
 refine br 2 hs168 (by kernel_rfl) rfl (by kernel_rfl) rfl rfl .rfl rfl rfl ?_
 refine gDr [(5, 0), (6, 0)] (by kernel_rfl) rfl rfl ?_
 obtain ⟨hb, h⟩ := h
 refine ce 7 (.repl 0 (.row 131 2 (List.map GSemvcsref02Piece.w (p0 ++ [(GSemvcsref02Piece.mk s28_1 p1.text)])))) rfl (by kernel_rfl) (bf aa rfl rfl rfl rfl rfl (apM GSemvcsref02Piece.w p0 (GSemvcsref02Piece.mk s28_1 p1.text)) (by rw [aq]; exact hb)) (okR rfl) rfl (by kernel_rfl) rfl rfl ?_
 refine gDr [(8, 0)] (by kernel_rfl) rfl rfl ?_
 refine gDe (by kernel_rfl) ?_
 refine gR 2 rfl ?_
 subst h
 refine ab (F' := (mkF 365 0 [(4, .sl 1)])) (H' := ⟨2, [(1, .row 131 2 (List.map GSemvcsref02Piece.w (p0 ++ [(GSemvcsref02Piece.mk s28_1 p1.text)])))]⟩) [1000, 2] [] rfl hK ⟨⟨_, rfl, .rfl⟩, trivial⟩ ⟨⟨_, rfl, ⟨rfl, rfl, (ai _ GSemvcsref02Piece.w (fun _ => rfl) (p0 ++ [(GSemvcsref02Piece.mk s28_1 p1.text)])).symm⟩⟩, trivial⟩ rfl ?_
 exact ax [] aa (rs := [.tmp 4]) rfl rfl ⟨rfl, rfl⟩
theorem ma (m : Nat) (p0 : (List GSemvcsref02Piece)) (p1 : Tree) (r0 : (List GSemvcsref02Piece)) (h : ∃ (s29_1 : (List UInt8)), aj p1 0 s29_1 ∧ (p0 ++ [(GSemvcsref02Piece.mk s29_1 [40])]).length ≤ 1000000000 ∧ ∃ (t29_2 : Tree), p1.kids[0]? = some t29_2 ∧ ∃ (r29_3 : (List GSemvcsref02Piece)), aA (p0 ++ [(GSemvcsref02Piece.mk s29_1 [40])]) t29_2 r29_3 ∧ ∃ (s29_4 : (List UInt8)), aj p1 1 s29_4 ∧ (r29_3 ++ [(GSemvcsref02Piece.mk s29_4 [41])]).length ≤ 1000000000 ∧ (r29_3 ++ [(GSemvcsref02Piece.mk s29_4 [41])]) = r0) : jc (m + 1) p0 p1 r0 := by
 intro K hK
 refine gR 4 rfl ?_
 obtain ⟨s29_1, hs169, h⟩ := h
 refine gC0 hs169 (by kernel_rfl) rfl rfl .rfl rfl ?_
 refine gR 2 rfl ?_
 obtain ⟨hb, h⟩ := h
 refine gDo (.repl 0 (.row 131 2 (List.map GSemvcsref02Piece.w (p0 ++ [(GSemvcsref02Piece.mk s29_1 [40])])))) (bf aa rfl rfl rfl rfl rfl (apM GSemvcsref02Piece.w p0 (GSemvcsref02Piece.mk s29_1 [40])) (by rw [aq]; exact hb)) (okR rfl) rfl rfl rfl ?_
 refine gR 4 rfl ?_
 refine gDs [] 12 12 rfl (by kernel_rfl) (by kernel_rfl) ?_
 refine gDr [(0, 2), (1, 2), (2, 2)] (by kernel_rfl) rfl rfl ?_
 obtain ⟨t29_2, hxt29_2, h⟩ := h
 refine gYd 3 rfl (by kernel_rfl) (az (ar hxt29_2) aa rfl rfl rfl rfl) rfl rfl ?_
 refine gDr [(4, 2), (6, 2)] (by kernel_rfl) rfl rfl ?_
 obtain ⟨r29_3, hs170, h⟩ := h
 refine gDC 5 hs170 [2] (by kernel_rfl) rfl (by kernel_rfl) rfl rfl .rfl ⟨⟨_, rfl, ⟨rfl, rfl, (ai _ GSemvcsref02Piece.w (fun _ => rfl) (p0 ++ [(GSemvcsref02Piece.mk s29_1 [40])])).symm⟩⟩, trivial⟩ (by kernel_rfl) rfl ?_
 rintro _ _ ⟨rfl, rfl⟩
 refine gHR 4 (List.map GSemvcsref02Piece.w r29_3) rfl (ai _ GSemvcsref02Piece.w (fun _ => rfl) r29_3) rfl ?_
 obtain ⟨s29_4, hs171, h⟩ := h
 refine br 7 hs171 (by kernel_rfl) rfl (by kernel_rfl) rfl rfl .rfl rfl rfl ?_
 refine gDr [(8, 0), (9, 0)] (by kernel_rfl) rfl rfl ?_
 obtain ⟨hb, h⟩ := h
 refine ce 10 (.repl 4 (.row 131 2 (List.map GSemvcsref02Piece.w (r29_3 ++ [(GSemvcsref02Piece.mk s29_4 [41])])))) rfl (by kernel_rfl) (bf aa rfl rfl rfl rfl rfl (apM GSemvcsref02Piece.w r29_3 (GSemvcsref02Piece.mk s29_4 [41])) (by rw [aq]; exact hb)) (okR rfl) rfl (by kernel_rfl) rfl rfl ?_
 refine gDr [(11, 0)] (by kernel_rfl) rfl rfl ?_
 refine gDe (by kernel_rfl) ?_
 refine gR 4 rfl ?_
 subst h
 refine ab (F' := (mkF 365 0 [(4, .sl 1)])) (H' := ⟨2, [(1, .row 131 2 (List.map GSemvcsref02Piece.w (r29_3 ++ [(GSemvcsref02Piece.mk s29_4 [41])])))]⟩) [1000, 6] [] rfl hK ⟨⟨_, rfl, .rfl⟩, trivial⟩ ⟨⟨_, rfl, ⟨rfl, rfl, (ai _ GSemvcsref02Piece.w (fun _ => rfl) (r29_3 ++ [(GSemvcsref02Piece.mk s29_4 [41])])).symm⟩⟩, trivial⟩ rfl ?_
 exact ax [] aa (rs := [.tmp 4]) rfl rfl ⟨rfl, rfl⟩
def d6 (m : Nat) (p1 : Tree) (p2 : Int) (p3 : Int) (p4 : Int) (l1v1 : (List GSemvcsref02Piece)) (z1v2 : Int) (r0 : (List GSemvcsref02Piece)) : Prop := ∀ (K : Ctx) (j1 : Nat), av K [] → m ≤ j1 → Go Tryz.prog K (bodyPost Tryz.prog Tryz.f148 (SP K (fun u G => u = .sl 1 ∧ G = ⟨2, [(1, .row 131 2 (List.map GSemvcsref02Piece.w r0))]⟩))) (.code (cL (cK (cB (cA (cB (ac Tryz.f148))))))) [.loop (cL (cK (cB (cA (cB (ac Tryz.f148)))))) j1, .blk 0, .seq (cB (cB (ac Tryz.f148)))] 41 (mkF 41 0 [(0, .sl 0), (2, .int .i64 p2), (3, .int .i64 p3), (4, .int .i64 p4), (6, .box (ak p1) 0), (11, .int .i64 z1v2)]) ⟨1, [(0, .row 131 2 (List.map GSemvcsref02Piece.w l1v1))]⟩
theorem oK (m : Nat) (p0 : (List GSemvcsref02Piece)) (p1 : Tree) (p2 : Int) (p3 : Int) (p4 : Int) (r0 : (List GSemvcsref02Piece)) (h : d6 m p1 p2 p3 p4 p0 p2 r0) : dH p0 p1 p2 p3 p4 r0 := by
 refine al 41 [] Tryz.func148 rfl rfl rfl (aH rfl) fun K hK => ?_
 refine gR 3 rfl ?_
 refine gFP 1 rfl rfl rfl rfl ?_
 refine gR 11 rfl ?_
 refine go_loop m ?_
 exact gJ (h K _ hK (by omega)) [0] [] rfl hK ⟨⟨_, rfl, .rfl⟩, ⟨_, rfl, .rfl⟩, ⟨_, rfl, .rfl⟩, ⟨_, rfl, .rfl⟩, ⟨_, rfl, .rfl⟩, ⟨_, rfl, .rfl⟩, trivial⟩ ⟨⟨_, rfl, ⟨rfl, rfl, (ai _ GSemvcsref02Piece.w (fun _ => rfl) p0).symm⟩⟩, trivial⟩ rfl
theorem fe (m : Nat) (p1 : Tree) (p2 : Int) (p3 : Int) (p4 : Int) (l1v1 : (List GSemvcsref02Piece)) (z1v2 : Int) (r0 : (List GSemvcsref02Piece)) (h : ((z1v2 < p3) → ((p2 < z1v2) → InI (p4 + z1v2) ∧ InI ((p4 + z1v2) - p2) ∧ InI (((p4 + z1v2) - p2) - 1) ∧ ∃ (s1_1 : (List UInt8)), aj p1 (((p4 + z1v2) - p2) - 1) s1_1 ∧ (l1v1 ++ [(GSemvcsref02Piece.mk s1_1 [44])]).length ≤ 1000000000 ∧ ∃ (k1_2 : Nat), z1v2 = ((k1_2 : Nat) : Int) ∧ ∃ (t1_3 : Tree), p1.kids[k1_2]? = some t1_3 ∧ ∃ (r1_4 : (List GSemvcsref02Piece)), aA (l1v1 ++ [(GSemvcsref02Piece.mk s1_1 [44])]) t1_3 r1_4 ∧ InI (z1v2 + 1) ∧ d6 m p1 p2 p3 p4 r1_4 (z1v2 + 1) r0) ∧ ((¬ p2 < z1v2) → ∃ (k1_5 : Nat), z1v2 = ((k1_5 : Nat) : Int) ∧ ∃ (t1_6 : Tree), p1.kids[k1_5]? = some t1_6 ∧ ∃ (r1_7 : (List GSemvcsref02Piece)), aA l1v1 t1_6 r1_7 ∧ InI (z1v2 + 1) ∧ d6 m p1 p2 p3 p4 r1_7 (z1v2 + 1) r0)) ∧ ((¬ z1v2 < p3) → l1v1 = r0)) : d6 (m + 1) p1 p2 p3 p4 l1v1 z1v2 r0 := by
 intro K j1 hK hj1
 obtain ⟨j1, rfl⟩ : ∃ j, j1 = j + 1 := ⟨j1 - 1, by omega⟩
 refine gR 8 rfl ?_
 refine gB 15 rfl rfl rfl (fun hd => ?_) (fun hd => ?_)
 replace hd := (of_decide_eq_true hd)
 replace h := h.1 hd
 refine gR 13 rfl ?_
 refine gB 20 rfl rfl rfl (fun hd => ?_) (fun hd => ?_)
 replace hd := (of_decide_eq_true hd)
 replace h := h.1 hd
 refine gR 6 rfl ?_
 obtain ⟨hb, h⟩ := h
 refine gR 1 rfl ?_
 refine gV 25 (.int .i64 (p4 + z1v2)) rfl (an hb rfl) rfl ?_
 refine gR 1 rfl ?_
 obtain ⟨hb, h⟩ := h
 refine gR 1 rfl ?_
 refine gV 27 (.int .i64 ((p4 + z1v2) - p2)) rfl (an hb rfl) rfl ?_
 obtain ⟨hb, h⟩ := h
 refine gR 1 rfl ?_
 refine gV 28 (.int .i64 (((p4 + z1v2) - p2) - 1)) rfl (an hb rfl) rfl ?_
 obtain ⟨s1_1, hs7, h⟩ := h
 refine gC0 hs7 (by kernel_rfl) rfl rfl .rfl rfl ?_
 refine gR 2 rfl ?_
 obtain ⟨hb, h⟩ := h
 refine gDo (.repl 0 (.row 131 2 (List.map GSemvcsref02Piece.w (l1v1 ++ [(GSemvcsref02Piece.mk s1_1 [44])])))) (bf aa rfl rfl rfl rfl rfl (apM GSemvcsref02Piece.w l1v1 (GSemvcsref02Piece.mk s1_1 [44])) (by rw [aq]; exact hb)) (okR rfl) rfl rfl rfl ?_
 refine gR 8 rfl ?_
 obtain ⟨k1_2, ek1_2, h⟩ := h
 refine gV 36 (.int .i64 ((k1_2 : Nat) : Int)) rfl (dv ek1_2) rfl ?_
 obtain ⟨t1_3, hxt1_3, h⟩ := h
 refine gY (az (ar hxt1_3) aa rfl rfl rfl rfl) rfl rfl ?_
 refine gR 1 rfl ?_
 obtain ⟨r1_4, hs8, h⟩ := h
 refine gC hs8 [2] (by kernel_rfl) rfl rfl .rfl ⟨⟨_, rfl, ⟨rfl, rfl, (ai _ GSemvcsref02Piece.w (fun _ => rfl) (l1v1 ++ [(GSemvcsref02Piece.mk s1_1 [44])])).symm⟩⟩, trivial⟩ rfl ?_
 rintro _ _ ⟨rfl, rfl⟩
 refine gHR 4 (List.map GSemvcsref02Piece.w r1_4) rfl (ai _ GSemvcsref02Piece.w (fun _ => rfl) r1_4) rfl ?_
 refine gR 6 rfl ?_
 obtain ⟨hb, h⟩ := h
 refine gR 1 rfl ?_
 refine gV 17 (.int .i64 (z1v2 + 1)) rfl (an hb rfl) rfl ?_
 refine gR 2 rfl ?_
 refine ao ?_
 exact gJ (h K _ hK (by omega)) [4] [] rfl hK ⟨⟨_, rfl, .rfl⟩, ⟨_, rfl, .rfl⟩, ⟨_, rfl, .rfl⟩, ⟨_, rfl, .rfl⟩, ⟨_, rfl, .rfl⟩, ⟨_, rfl, .rfl⟩, trivial⟩ ⟨⟨_, rfl, ⟨rfl, rfl, (ai _ GSemvcsref02Piece.w (fun _ => rfl) r1_4).symm⟩⟩, trivial⟩ rfl
 replace hd := (of_decide_eq_false hd)
 replace h := h.2 hd
 refine gR 8 rfl ?_
 obtain ⟨k1_5, ek1_5, h⟩ := h
 refine gV 36 (.int .i64 ((k1_5 : Nat) : Int)) rfl (dv ek1_5) rfl ?_
 obtain ⟨t1_6, hxt1_6, h⟩ := h
 refine gY (az (ar hxt1_6) aa rfl rfl rfl rfl) rfl rfl ?_
 refine gR 1 rfl ?_
 obtain ⟨r1_7, hs9, h⟩ := h
 refine gC hs9 [0] (by kernel_rfl) rfl rfl .rfl ⟨⟨_, rfl, ⟨rfl, rfl, (ai _ GSemvcsref02Piece.w (fun _ => rfl) l1v1).symm⟩⟩, trivial⟩ rfl ?_
 rintro _ _ ⟨rfl, rfl⟩
 refine gHR 2 (List.map GSemvcsref02Piece.w r1_7) rfl (ai _ GSemvcsref02Piece.w (fun _ => rfl) r1_7) rfl ?_
 refine gR 6 rfl ?_
 obtain ⟨hb, h⟩ := h
 refine gR 1 rfl ?_
 refine gV 17 (.int .i64 (z1v2 + 1)) rfl (an hb rfl) rfl ?_
 refine gR 2 rfl ?_
 refine ao ?_
 exact gJ (h K _ hK (by omega)) [2] [] rfl hK ⟨⟨_, rfl, .rfl⟩, ⟨_, rfl, .rfl⟩, ⟨_, rfl, .rfl⟩, ⟨_, rfl, .rfl⟩, ⟨_, rfl, .rfl⟩, ⟨_, rfl, .rfl⟩, trivial⟩ ⟨⟨_, rfl, ⟨rfl, rfl, (ai _ GSemvcsref02Piece.w (fun _ => rfl) r1_7).symm⟩⟩, trivial⟩ rfl
 replace hd := (of_decide_eq_false hd)
 replace h := h.2 hd
 refine gR 3 rfl ?_
 refine ay ?_
 refine gR 9 rfl ?_
 subst h
 refine ab (F' := (mkF 41 0 [(10, .sl 1)])) (H' := ⟨2, [(1, .row 131 2 (List.map GSemvcsref02Piece.w l1v1))]⟩) [1000, 0] [] rfl hK ⟨⟨_, rfl, .rfl⟩, trivial⟩ ⟨⟨_, rfl, ⟨rfl, rfl, (ai _ GSemvcsref02Piece.w (fun _ => rfl) l1v1).symm⟩⟩, trivial⟩ rfl ?_
 exact ax [] aa (rs := [.tmp 10]) rfl rfl ⟨rfl, rfl⟩
theorem kI (m : Nat) (p0 : Tree) (p1 : Int) (r0 : (List UInt8)) (h : ((p1 < ((p0.leads.length : Nat) : Int)) → ∃ (k0_1 : Nat), p1 = ((k0_1 : Nat) : Int) ∧ ∃ (s0_2 : (List UInt8)), p0.leads[k0_1]? = some s0_2 ∧ s0_2 = r0) ∧ ((¬ p1 < ((p0.leads.length : Nat) : Int)) → [] = r0)) : aj p0 p1 r0 := by
 refine ⟨rfl, rfl, ?_⟩
 refine al 15 [] Tryz.func147 rfl rfl rfl (aH rfl) fun K hK => ?_
 refine gR 3 rfl ?_
 refine gFP 0 rfl rfl rfl rfl ?_
 refine gR 10 rfl ?_
 refine gV 8 (.int .i64 ((p0.leads.length : Nat) : Int)) rfl (aW (aq V.str _)) rfl ?_
 refine gLB 7 rfl (aq V.str _) fun hl2 => ?_
 refine gR 3 rfl ?_
 refine gB 9 rfl rfl rfl (fun hd => ?_) (fun hd => ?_)
 replace hd := (of_decide_eq_true hd)
 replace h := h.1 hd
 refine gR 6 rfl ?_
 obtain ⟨k0_1, ek0_1, h⟩ := h
 refine gV 12 (.int .i64 ((k0_1 : Nat) : Int)) rfl (dv ek0_1) rfl ?_
 obtain ⟨s0_2, hxs0_2, h⟩ := h
 refine gY (az (mapget (f := V.str) hxs0_2) aa rfl rfl rfl rfl) rfl rfl ?_
 refine gR 6 rfl ?_
 subst h
 refine ab (F' := (mkF 15 0 [(4, .str s0_2)])) (H' := ⟨0, []⟩) [] [] rfl hK ⟨⟨_, rfl, .rfl⟩, trivial⟩ trivial rfl ?_
 exact ae aa (rs := [.tmp 4]) rfl rfl rfl
 replace hd := (of_decide_eq_false hd)
 replace h := h.2 hd
 refine gR 9 rfl ?_
 subst h
 refine ab (F' := (mkF 15 0 [(4, .str [])])) (H' := ⟨0, []⟩) [] [] rfl hK ⟨⟨_, rfl, .rfl⟩, trivial⟩ trivial rfl ?_
 exact ae aa (rs := [.tmp 4]) rfl rfl rfl
end Go.Proofs.YteglbnopdedadaaGreat
namespace Go.Proofs.YteglbnopdedadaaGreat
open Go.RowKit Lx Sx
set_option maxRecDepth 100000
set_option maxHeartbeats 4000000
def bI (r0 : Bool) : Prop := aV Tryz.prog 22 [] (.bool r0)
def iE (p0 : (List GVariable)) (p1 : (List GVariable)) (r0 : Bool) : Prop := aV Tryz.prog 24 [.row 3 (List.map GVariable.w p0), .row 3 (List.map GVariable.w p1)] (.bool r0)
def cS (p0 : (List Int)) (r0 : (List Tree)) : Prop := aV Tryz.prog 23 [.row 1 (List.map (V.int .i64) p0)] (.row 4 (kidsV r0))
def gh (p0 : (List Int)) (r0 : Bool) : Prop := aV Tryz.prog 7 [.row 1 (List.map (V.int .i64) p0)] (.bool r0)
def fa (m : Nat) (p0 : (List GVariable)) (p1 : (List GVariable)) (i1v1 : Nat) (r0 : Bool) : Prop := ∀ (K : Ctx) (j1 : Nat), av K [] → m ≤ j1 → Go Tryz.prog K (bodyPost Tryz.prog Tryz.f24 (SP K (fun u _ => u = .bool r0))) (.code (cL (cK (cB (cA (cB (cB (ac Tryz.f24)))))))) [.loop (cL (cK (cB (cA (cB (cB (ac Tryz.f24))))))) j1, .blk 0, .seq (cB (cB (cB (ac Tryz.f24))))] 56 (mkF 56 0 [(0, .row 3 (List.map GVariable.w p0)), (1, .row 3 (List.map GVariable.w p1)), (5, .int .i64 ((i1v1 : Nat) : Int))]) ⟨0, []⟩
theorem ot (m : Nat) (p0 : (List GVariable)) (p1 : (List GVariable)) (r0 : Bool) (h : ((p0.length ≠ p1.length) → false = r0) ∧ ((p0.length = p1.length) → fa m p0 p1 0 r0)) : iE p0 p1 r0 := by
 refine ⟨rfl, rfl, ?_⟩
 refine al 56 [] Tryz.func24 rfl rfl rfl (aH rfl) fun K hK => ?_
 refine gR 10 rfl ?_
 refine gV 7 (.int .i64 ((p0.length : Nat) : Int)) rfl (aW (aq GVariable.w _)) rfl ?_
 refine gLB 6 rfl (aq GVariable.w _) fun hl11 => ?_
 refine gR 2 rfl ?_
 refine gV 9 (.int .i64 ((p1.length : Nat) : Int)) rfl (aW (aq GVariable.w _)) rfl ?_
 refine gLB 8 rfl (aq GVariable.w _) fun hl12 => ?_
 refine gR 3 rfl ?_
 refine gB 10 rfl rfl rfl (fun hd => ?_) (fun hd => ?_)
 replace hd := (xS hd)
 replace h := h.1 hd
 refine gR 8 rfl ?_
 subst h
 refine ab (F' := (mkF 56 0 [(4, .bool false)])) (H' := ⟨0, []⟩) [] [] rfl hK ⟨⟨_, rfl, .rfl⟩, trivial⟩ trivial rfl ?_
 exact ae aa (rs := [.tmp 4]) rfl rfl rfl
 replace hd := (xw hd)
 replace h := h.2 hd
 refine gR 10 rfl ?_
 refine go_loop m ?_
 exact gJ (h K _ hK (by omega)) [] [] rfl hK ⟨⟨_, rfl, .rfl⟩, ⟨_, rfl, .rfl⟩, ⟨_, rfl, .rfl⟩, trivial⟩ trivial rfl
theorem kt (m : Nat) (p0 : (List GVariable)) (p1 : (List GVariable)) (i1v1 : Nat) (r0 : Bool) (h : ((i1v1 < p0.length) → ∃ (x1_1 : GVariable), p0[i1v1]? = some x1_1 ∧ ∃ (x1_2 : GVariable), p1[i1v1]? = some x1_2 ∧ ((x1_1.Free ≠ x1_2.Free) → false = r0) ∧ ((x1_1.Free = x1_2.Free) → ∃ (x1_3 : GVariable), p0[i1v1]? = some x1_3 ∧ ∃ (x1_4 : GVariable), p1[i1v1]? = some x1_4 ∧ ∃ (b1_5 : Bool), bW x1_3.Path x1_4.Path b1_5 ∧ ((b1_5 = false) → false = r0) ∧ ((b1_5 = true) → ∃ (x1_6 : GVariable), p0[i1v1]? = some x1_6 ∧ ∃ (x1_7 : GVariable), p1[i1v1]? = some x1_7 ∧ ∃ (b1_8 : Bool), bW x1_6.Binder x1_7.Binder b1_8 ∧ ((b1_8 = false) → false = r0) ∧ ((b1_8 = true) → fa m p0 p1 (i1v1 + 1) r0)))) ∧ ((¬ i1v1 < p0.length) → true = r0)) : fa (m + 1) p0 p1 i1v1 r0 := by
 intro K j1 hK hj1
 obtain ⟨j1, rfl⟩ : ∃ j, j1 = j + 1 := ⟨j1 - 1, by omega⟩
 refine gR 6 rfl ?_
 refine gV 13 (.int .i64 ((p0.length : Nat) : Int)) rfl (aW (aq GVariable.w _)) rfl ?_
 refine gLB 12 rfl (aq GVariable.w _) fun hl13 => ?_
 refine gR 3 rfl ?_
 refine gB 14 rfl rfl rfl (fun hd => ?_) (fun hd => ?_)
 replace hd := (cx hd)
 replace h := h.1 hd
 refine gR 6 rfl ?_
 refine gDs [] 39 39 rfl (by kernel_rfl) (by kernel_rfl) ?_
 refine gDr [(0, 2), (1, 2)] (by kernel_rfl) rfl rfl ?_
 obtain ⟨x1_1, hxx1_1, h⟩ := h
 refine gYd 2 rfl (by kernel_rfl) (az (mapget (f := GVariable.w) hxx1_1) aa rfl rfl rfl rfl) rfl rfl ?_
 refine gDr [(3, 2), (4, 2), (5, 2), (6, 0)] (by kernel_rfl) rfl rfl ?_
 obtain ⟨x1_2, hxx1_2, h⟩ := h
 refine dh 7 rfl (by kernel_rfl) (az (mapget (f := GVariable.w) hxx1_2) aa rfl rfl rfl rfl) rfl rfl ?_
 refine gDr [(8, 0), (9, 0), (10, 0), (11, 0)] (by kernel_rfl) rfl rfl ?_
 refine gB 28 rfl rfl rfl (fun hd => ?_) (fun hd => ?_)
 refine gT 27 rfl hd rfl ?_
 replace hd := (gU hd)
 replace h := h.1 hd
 refine gDr [(12, 2), (13, 2), (14, 2), (15, 2), (16, 2), (17, 2), (18, 0), (19, 0), (20, 0), (21, 0), (22, 0), (23, 0), (24, 0), (25, 0), (26, 2), (27, 2), (28, 2), (29, 2), (30, 2), (31, 2), (32, 0), (33, 0), (34, 0), (35, 0), (36, 0), (37, 0), (38, 0)] (by kernel_rfl) rfl rfl ?_
 refine gDe (by kernel_rfl) ?_
 refine gR 2 rfl ?_
 refine ab (F' := (mkF 56 0 [])) (H' := ⟨0, []⟩) [] [] rfl hK trivial trivial rfl ?_
 refine gR 8 rfl ?_
 refine aK ?_
 refine gR 2 rfl ?_
 subst h
 refine ab (F' := (mkF 56 0 [(4, .bool false)])) (H' := ⟨0, []⟩) [] [] rfl hK ⟨⟨_, rfl, .rfl⟩, trivial⟩ trivial rfl ?_
 exact ae aa (rs := [.tmp 4]) rfl rfl rfl
 refine gF 27 rfl hd rfl ?_
 replace hd := (eO hd)
 replace h := h.2 hd
 refine gDr [(12, 2), (13, 2)] (by kernel_rfl) rfl rfl ?_
 obtain ⟨x1_3, hxx1_3, h⟩ := h
 refine gYd 14 rfl (by kernel_rfl) (az (mapget (f := GVariable.w) hxx1_3) aa rfl rfl rfl rfl) rfl rfl ?_
 refine gDr [(15, 2), (16, 2), (17, 2), (18, 0)] (by kernel_rfl) rfl rfl ?_
 obtain ⟨x1_4, hxx1_4, h⟩ := h
 refine dh 19 rfl (by kernel_rfl) (az (mapget (f := GVariable.w) hxx1_4) aa rfl rfl rfl rfl) rfl rfl ?_
 refine gDr [(20, 0), (21, 0)] (by kernel_rfl) rfl rfl ?_
 obtain ⟨b1_5, hs14, h⟩ := h
 refine br 22 hs14 (by kernel_rfl) rfl (by kernel_rfl) rfl rfl .rfl rfl rfl ?_
 refine gDr [(23, 0), (24, 0), (25, 0)] (by kernel_rfl) rfl rfl ?_
 refine gB 42 rfl rfl rfl (fun hd => ?_) (fun hd => ?_)
 refine gT 41 rfl hd rfl ?_
 replace hd := (bZ hd)
 replace h := h.1 hd
 refine gDr [(26, 2), (27, 2), (28, 2), (29, 2), (30, 2), (31, 2), (32, 0), (33, 0), (34, 0), (35, 0), (36, 0), (37, 0), (38, 0)] (by kernel_rfl) rfl rfl ?_
 refine gDe (by kernel_rfl) ?_
 refine gR 2 rfl ?_
 refine ab (F' := (mkF 56 0 [])) (H' := ⟨0, []⟩) [] [] rfl hK trivial trivial rfl ?_
 refine gR 8 rfl ?_
 refine aK ?_
 refine gR 2 rfl ?_
 subst h
 refine ab (F' := (mkF 56 0 [(4, .bool false)])) (H' := ⟨0, []⟩) [] [] rfl hK ⟨⟨_, rfl, .rfl⟩, trivial⟩ trivial rfl ?_
 exact ae aa (rs := [.tmp 4]) rfl rfl rfl
 refine gF 41 rfl hd rfl ?_
 replace hd := (bY hd)
 replace h := h.2 hd
 refine gDr [(26, 2), (27, 2)] (by kernel_rfl) rfl rfl ?_
 obtain ⟨x1_6, hxx1_6, h⟩ := h
 refine gYd 28 rfl (by kernel_rfl) (az (mapget (f := GVariable.w) hxx1_6) aa rfl rfl rfl rfl) rfl rfl ?_
 refine gDr [(29, 2), (30, 2), (31, 2), (32, 0)] (by kernel_rfl) rfl rfl ?_
 obtain ⟨x1_7, hxx1_7, h⟩ := h
 refine dh 33 rfl (by kernel_rfl) (az (mapget (f := GVariable.w) hxx1_7) aa rfl rfl rfl rfl) rfl rfl ?_
 refine gDr [(34, 0), (35, 0)] (by kernel_rfl) rfl rfl ?_
 obtain ⟨b1_8, hs15, h⟩ := h
 refine br 36 hs15 (by kernel_rfl) rfl (by kernel_rfl) rfl rfl .rfl rfl rfl ?_
 refine gDr [(37, 0), (38, 0)] (by kernel_rfl) rfl rfl ?_
 refine gDe (by kernel_rfl) ?_
 refine gR 1 rfl ?_
 refine gB 55 rfl rfl rfl (fun hd => ?_) (fun hd => ?_)
 replace hd := (bZ hd)
 replace h := h.1 hd
 refine gR 1 rfl ?_
 refine ab (F' := (mkF 56 0 [])) (H' := ⟨0, []⟩) [] [] rfl hK trivial trivial rfl ?_
 refine gR 8 rfl ?_
 refine aK ?_
 refine gR 2 rfl ?_
 subst h
 refine ab (F' := (mkF 56 0 [(4, .bool false)])) (H' := ⟨0, []⟩) [] [] rfl hK ⟨⟨_, rfl, .rfl⟩, trivial⟩ trivial rfl ?_
 exact ae aa (rs := [.tmp 4]) rfl rfl rfl
 replace hd := (bY hd)
 replace h := h.2 hd
 refine gR 7 rfl ?_
 refine gV 16 (.int .i64 ((i1v1 + 1 : Nat) : Int)) rfl (an (by have := hl13; omega) (by omega)) rfl ?_
 refine gR 2 rfl ?_
 refine ao ?_
 exact gJ (h K _ hK (by omega)) [] [] rfl hK ⟨⟨_, rfl, .rfl⟩, ⟨_, rfl, .rfl⟩, ⟨_, rfl, .rfl⟩, trivial⟩ trivial rfl
 replace hd := (cy hd)
 replace h := h.2 hd
 refine gR 3 rfl ?_
 refine ay ?_
 refine gR 8 rfl ?_
 subst h
 refine ab (F' := (mkF 56 0 [(4, .bool true)])) (H' := ⟨0, []⟩) [] [] rfl hK ⟨⟨_, rfl, .rfl⟩, trivial⟩ trivial rfl ?_
 exact ae aa (rs := [.tmp 4]) rfl rfl rfl
def cG (m : Nat) (r0_1 : (List Tree)) (i1v1 : Nat) (l1v2 : (List Tree)) (r0 : (List Tree)) : Prop := ∀ (K : Ctx) (j1 : Nat), av K [] → m ≤ j1 → Go Tryz.prog K (bodyPost Tryz.prog Tryz.f23 (SP K (fun u _ => u = .row 4 (kidsV r0)))) (.code (cL (cK (cB (cA (cB (cB (cB (ac Tryz.f23))))))))) [.loop (cL (cK (cB (cA (cB (cB (cB (ac Tryz.f23)))))))) j1, .blk 0, .seq (cB (cB (cB (cB (ac Tryz.f23)))))] 47 (mkF 47 0 [(3, .sl 0), (4, .row 4 (kidsV r0_1)), (5, .int .i64 ((i1v1 : Nat) : Int))]) ⟨1, [(0, .row 32 4 (kidsV l1v2))]⟩
def cb (m : Nat) (r0_1 : (List Tree)) (l2v1 : (List Tree)) (i2v2 : Nat) (i2v3 : Nat) (r0 : (List Tree)) : Prop := ∀ (K : Ctx) (j1 : Nat) (j2 : Nat), av K [] → m ≤ j1 → m ≤ j2 → Go Tryz.prog K (bodyPost Tryz.prog Tryz.f23 (SP K (fun u _ => u = .row 4 (kidsV r0)))) (.code (cL (cK (cB (cK (cA (cB (cL (cK (cB (cA (cB (cB (cB (ac Tryz.f23))))))))))))))) [.loop (cL (cK (cB (cK (cA (cB (cL (cK (cB (cA (cB (cB (cB (ac Tryz.f23)))))))))))))) j1, .blk 2, .blk 1, .seq (cB (cB (cL (cK (cB (cA (cB (cB (cB (ac Tryz.f23)))))))))), .loop (cL (cK (cB (cA (cB (cB (cB (ac Tryz.f23)))))))) j2, .blk 0, .seq (cB (cB (cB (cB (ac Tryz.f23)))))] 47 (mkF 47 0 [(3, .sl 0), (4, .row 4 (kidsV r0_1)), (5, .int .i64 ((i2v3 : Nat) : Int)), (6, .int .i64 ((i2v2 : Nat) : Int))]) ⟨1, [(0, .row 32 4 (kidsV l2v1))]⟩
theorem lY (m : Nat) (p0 : (List Int)) (r0 : (List Tree)) (h : ∃ (r0_1 : (List Tree)), gP p0 r0_1 ∧ cG m r0_1 0 ([] : List Tree) r0) : cS p0 r0 := by
 refine ⟨rfl, rfl, ?_⟩
 refine al 47 [] Tryz.func23 rfl rfl rfl (aH rfl) fun K hK => ?_
 refine gR 13 rfl ?_
 obtain ⟨r0_1, hs10, h⟩ := h
 refine gC0 hs10 (by kernel_rfl) rfl rfl .rfl rfl ?_
 refine gR 10 rfl ?_
 refine go_loop m ?_
 refine gNS 3 32 4 rfl rfl rfl rfl ?_
 exact gJ (h K _ hK (by omega)) [0] [] rfl hK ⟨⟨_, rfl, .rfl⟩, ⟨_, rfl, .rfl⟩, ⟨_, rfl, .rfl⟩, trivial⟩ ⟨⟨_, rfl, ⟨rfl, rfl, rfl⟩⟩, trivial⟩ rfl
theorem ij (m : Nat) (r0_1 : (List Tree)) (i1v1 : Nat) (l1v2 : (List Tree)) (r0 : (List Tree)) (h : ((i1v1 < r0_1.length) → cb m r0_1 l1v2 0 i1v1 r0) ∧ ((¬ i1v1 < r0_1.length) → l1v2 = r0)) : cG (m + 1) r0_1 i1v1 l1v2 r0 := by
 intro K j1 hK hj1
 obtain ⟨j1, rfl⟩ : ∃ j, j1 = j + 1 := ⟨j1 - 1, by omega⟩
 refine gR 6 rfl ?_
 refine gV 11 (.int .i64 ((r0_1.length : Nat) : Int)) rfl (aW (aX _)) rfl ?_
 refine gLB 10 rfl (aX _) fun hl11 => ?_
 refine gR 3 rfl ?_
 refine gB 12 rfl rfl rfl (fun hd => ?_) (fun hd => ?_)
 replace hd := (cx hd)
 replace h := h.1 hd
 refine gR 11 rfl ?_
 refine go_loop m ?_
 exact gJ (h K _ _ hK (by omega) (by omega)) [0] [] rfl hK ⟨⟨_, rfl, .rfl⟩, ⟨_, rfl, .rfl⟩, ⟨_, rfl, .rfl⟩, ⟨_, rfl, .rfl⟩, trivial⟩ ⟨⟨_, rfl, ⟨rfl, rfl, (ek _ l1v2).symm⟩⟩, trivial⟩ rfl
 replace hd := (cy hd)
 replace h := h.2 hd
 refine gR 3 rfl ?_
 refine ay ?_
 refine gR 9 rfl ?_
 refine gFR 0 rfl (de _) rfl rfl ?_
 subst h
 refine ab (F' := (mkF 47 0 [(2, .row 4 (kidsV l1v2))])) (H' := ⟨0, []⟩) [] [] rfl hK ⟨⟨_, rfl, .rfl⟩, trivial⟩ trivial rfl ?_
 exact ae aa (rs := [.tmp 2]) rfl rfl rfl
theorem eG (m : Nat) (r0_1 : (List Tree)) (l2v1 : (List Tree)) (i2v2 : Nat) (i2v3 : Nat) (r0 : (List Tree)) (h : ∃ (t2_1 : Tree), r0_1[i2v3]? = some t2_1 ∧ ((i2v2 < t2_1.kids.length) → ∃ (t2_2 : Tree), r0_1[i2v3]? = some t2_2 ∧ ∃ (t2_3 : Tree), t2_2.kids[i2v2]? = some t2_3 ∧ ((t2_3.kind = 2) → ∃ (t2_4 : Tree), r0_1[i2v3]? = some t2_4 ∧ ∃ (t2_5 : Tree), t2_4.kids[i2v2]? = some t2_5 ∧ (l2v1 ++ [t2_5]).length ≤ 1000000000 ∧ cb m r0_1 (l2v1 ++ [t2_5]) (i2v2 + 1) i2v3 r0) ∧ ((t2_3.kind ≠ 2) → cb m r0_1 l2v1 (i2v2 + 1) i2v3 r0)) ∧ ((¬ i2v2 < t2_1.kids.length) → i2v3 + 1 ≤ 9223372036854775807 ∧ cG m r0_1 (i2v3 + 1) l2v1 r0)) : cb (m + 1) r0_1 l2v1 i2v2 i2v3 r0 := by
 intro K j1 j2 hK hj1 hj2
 obtain ⟨j1, rfl⟩ : ∃ j, j1 = j + 1 := ⟨j1 - 1, by omega⟩
 obtain ⟨j2, rfl⟩ : ∃ j, j2 = j + 1 := ⟨j2 - 1, by omega⟩
 refine gR 6 rfl ?_
 obtain ⟨t2_1, hxt2_1, h⟩ := h
 refine gY (az (ar hxt2_1) aa rfl rfl rfl rfl) rfl rfl ?_
 refine gR 3 rfl ?_
 refine gV 21 (.int .i64 ((t2_1.kids.length : Nat) : Int)) rfl (aW (aX _)) rfl ?_
 refine gLB 20 rfl (aX _) fun hl12 => ?_
 refine gR 3 rfl ?_
 refine gB 22 rfl rfl rfl (fun hd => ?_) (fun hd => ?_)
 replace hd := (cx hd)
 replace h := h.1 hd
 refine gR 9 rfl ?_
 obtain ⟨t2_2, hxt2_2, h⟩ := h
 refine gY (az (ar hxt2_2) aa rfl rfl rfl rfl) rfl rfl ?_
 refine gR 3 rfl ?_
 obtain ⟨t2_3, hxt2_3, h⟩ := h
 refine gY (az (ar hxt2_3) aa rfl rfl rfl rfl) rfl rfl ?_
 refine gR 5 rfl ?_
 refine gB 34 rfl rfl rfl (fun hd => ?_) (fun hd => ?_)
 replace hd := (eq_of_beq hd)
 replace h := h.1 hd
 refine gR 5 rfl ?_
 obtain ⟨t2_4, hxt2_4, h⟩ := h
 refine gY (az (ar hxt2_4) aa rfl rfl rfl rfl) rfl rfl ?_
 refine gR 3 rfl ?_
 obtain ⟨t2_5, hxt2_5, h⟩ := h
 refine gY (az (ar hxt2_5) aa rfl rfl rfl rfl) rfl rfl ?_
 refine gR 2 rfl ?_
 refine gHR 1 (kidsV [t2_5]) rfl (kP t2_5) rfl ?_
 obtain ⟨hb, h⟩ := h
 refine gDo (.repl 0 (.row 32 4 (kidsV (l2v1 ++ [t2_5])))) (bf aa rfl rfl rfl rfl rfl (fQ l2v1 [t2_5]).symm (by rw [aX]; exact hb)) (okR rfl) rfl rfl rfl ?_
 refine gR 7 rfl ?_
 refine gV 24 (.int .i64 ((i2v2 + 1 : Nat) : Int)) rfl (an (by have := hl12; omega) (by omega)) rfl ?_
 refine gR 2 rfl ?_
 refine ao ?_
 exact gJ (h K _ _ hK (by omega) (by omega)) [2] [] rfl hK ⟨⟨_, rfl, .rfl⟩, ⟨_, rfl, .rfl⟩, ⟨_, rfl, .rfl⟩, ⟨_, rfl, .rfl⟩, trivial⟩ ⟨⟨_, rfl, ⟨rfl, rfl, (ek _ (l2v1 ++ [t2_5])).symm⟩⟩, trivial⟩ rfl
 replace hd := (ne_of_beq_false hd)
 replace h := h.2 hd
 refine gR 7 rfl ?_
 refine gV 24 (.int .i64 ((i2v2 + 1 : Nat) : Int)) rfl (an (by have := hl12; omega) (by omega)) rfl ?_
 refine gR 2 rfl ?_
 refine ao ?_
 exact gJ (h K _ _ hK (by omega) (by omega)) [0] [] rfl hK ⟨⟨_, rfl, .rfl⟩, ⟨_, rfl, .rfl⟩, ⟨_, rfl, .rfl⟩, ⟨_, rfl, .rfl⟩, trivial⟩ ⟨⟨_, rfl, ⟨rfl, rfl, (ek _ l2v1).symm⟩⟩, trivial⟩ rfl
 replace hd := (cy hd)
 replace h := h.2 hd
 refine gR 3 rfl ?_
 refine ay ?_
 refine gR 5 rfl ?_
 obtain ⟨hb, h⟩ := h
 refine gR 1 rfl ?_
 refine gV 14 (.int .i64 ((i2v3 + 1 : Nat) : Int)) rfl (an (by omega) (by omega)) rfl ?_
 refine gR 2 rfl ?_
 refine ao ?_
 exact gJ (h K _ hK (by omega)) [0] [] rfl hK ⟨⟨_, rfl, .rfl⟩, ⟨_, rfl, .rfl⟩, ⟨_, rfl, .rfl⟩, trivial⟩ ⟨⟨_, rfl, ⟨rfl, rfl, (ek _ l2v1).symm⟩⟩, trivial⟩ rfl
def ca (m : Nat) (r0_3 : (List Tree)) (i1v1 : Nat) (r0 : Bool) : Prop := ∀ (K : Ctx) (j1 : Nat), av K [] → m ≤ j1 → Go Tryz.prog K (bodyPost Tryz.prog Tryz.f7 (SP K (fun u _ => u = .bool r0))) (.code (cL (cK (cB (cA (cB (cB (cB (ac Tryz.f7))))))))) [.loop (cL (cK (cB (cA (cB (cB (cB (ac Tryz.f7)))))))) j1, .blk 0, .seq (cB (cB (cB (cB (ac Tryz.f7)))))] 30 (mkF 30 0 [(3, .row 4 (kidsV r0_3)), (4, .int .i64 ((i1v1 : Nat) : Int))]) ⟨0, []⟩
theorem f4 (m : Nat) (p0 : (List Int)) (r0 : Bool) (h : ∃ (b0_1 : Bool), d7 p0 b0_1 ∧ ((b0_1 = false) → ∃ (b0_2 : Bool), bI b0_2 ∧ b0_2 = r0) ∧ ((b0_1 = true) → ∃ (r0_3 : (List Tree)), cS p0 r0_3 ∧ ca m r0_3 0 r0)) : gh p0 r0 := by
 refine ⟨rfl, rfl, ?_⟩
 refine al 30 [] Tryz.func7 rfl rfl rfl (aH rfl) fun K hK => ?_
 refine gR 9 rfl ?_
 obtain ⟨b0_1, hs17, h⟩ := h
 refine gC0 hs17 (by kernel_rfl) rfl rfl .rfl rfl ?_
 refine gR 3 rfl ?_
 refine gB 7 rfl rfl rfl (fun hd => ?_) (fun hd => ?_)
 replace hd := (bZ hd)
 replace h := h.1 hd
 refine gR 3 rfl ?_
 obtain ⟨b0_2, hs18, h⟩ := h
 refine gC0 hs18 (by kernel_rfl) rfl rfl .rfl rfl ?_
 refine gR 5 rfl ?_
 subst h
 refine ab (F' := (mkF 30 0 [(2, .bool b0_2)])) (H' := ⟨0, []⟩) [] [] rfl hK ⟨⟨_, rfl, .rfl⟩, trivial⟩ trivial rfl ?_
 exact ae aa (rs := [.tmp 2]) rfl rfl rfl
 replace hd := (bY hd)
 replace h := h.2 hd
 refine gR 6 rfl ?_
 obtain ⟨r0_3, hs19, h⟩ := h
 refine gC0 hs19 (by kernel_rfl) rfl rfl .rfl rfl ?_
 refine gR 10 rfl ?_
 refine go_loop m ?_
 exact gJ (h K _ hK (by omega)) [] [] rfl hK ⟨⟨_, rfl, .rfl⟩, ⟨_, rfl, .rfl⟩, trivial⟩ trivial rfl
theorem fL (m : Nat) (r0_3 : (List Tree)) (i1v1 : Nat) (r0 : Bool) (h : ((i1v1 < r0_3.length) → ∃ (t1_1 : Tree), r0_3[i1v1]? = some t1_1 ∧ ∃ (t1_2 : Tree), r0_3[i1v1]? = some t1_2 ∧ ∃ (r1_3 : (List GVariable)), eu t1_1 r1_3 ∧ ∃ (r1_4 : (List GVariable)), fu t1_2 r1_4 ∧ ∃ (b1_5 : Bool), iE r1_3 r1_4 b1_5 ∧ ((b1_5 = false) → false = r0) ∧ ((b1_5 = true) → ca m r0_3 (i1v1 + 1) r0)) ∧ ((¬ i1v1 < r0_3.length) → ∃ (b1_6 : Bool), bI b1_6 ∧ b1_6 = r0)) : ca (m + 1) r0_3 i1v1 r0 := by
 intro K j1 hK hj1
 obtain ⟨j1, rfl⟩ : ∃ j, j1 = j + 1 := ⟨j1 - 1, by omega⟩
 refine gR 6 rfl ?_
 refine gV 13 (.int .i64 ((r0_3.length : Nat) : Int)) rfl (aW (aX _)) rfl ?_
 refine gLB 12 rfl (aX _) fun hl20 => ?_
 refine gR 3 rfl ?_
 refine gB 14 rfl rfl rfl (fun hd => ?_) (fun hd => ?_)
 replace hd := (cx hd)
 replace h := h.1 hd
 refine gR 6 rfl ?_
 refine gDs [] 12 12 rfl (by kernel_rfl) (by kernel_rfl) ?_
 refine gDr [(0, 2), (1, 2)] (by kernel_rfl) rfl rfl ?_
 obtain ⟨t1_1, hxt1_1, h⟩ := h
 refine gYd 2 rfl (by kernel_rfl) (az (ar hxt1_1) aa rfl rfl rfl rfl) rfl rfl ?_
 refine gDr [(3, 2), (5, 2), (6, 2)] (by kernel_rfl) rfl rfl ?_
 obtain ⟨t1_2, hxt1_2, h⟩ := h
 refine gYd 7 rfl (by kernel_rfl) (az (ar hxt1_2) aa rfl rfl rfl rfl) rfl rfl ?_
 refine gDr [(8, 2)] (by kernel_rfl) rfl rfl ?_
 obtain ⟨r1_3, hs21, h⟩ := h
 refine br 4 hs21 (by kernel_rfl) rfl (by kernel_rfl) rfl rfl .rfl rfl rfl ?_
 obtain ⟨r1_4, hs22, h⟩ := h
 refine br 9 hs22 (by kernel_rfl) rfl (by kernel_rfl) rfl rfl .rfl rfl rfl ?_
 obtain ⟨b1_5, hs23, h⟩ := h
 refine br 10 hs23 (by kernel_rfl) rfl (by kernel_rfl) rfl rfl .rfl rfl rfl ?_
 refine gDr [(11, 0)] (by kernel_rfl) rfl rfl ?_
 refine gDe (by kernel_rfl) ?_
 refine gR 1 rfl ?_
 refine gB 28 rfl rfl rfl (fun hd => ?_) (fun hd => ?_)
 replace hd := (bZ hd)
 replace h := h.1 hd
 refine gR 9 rfl ?_
 refine aK ?_
 refine gR 2 rfl ?_
 subst h
 refine ab (F' := (mkF 30 0 [(2, .bool false)])) (H' := ⟨0, []⟩) [] [] rfl hK ⟨⟨_, rfl, .rfl⟩, trivial⟩ trivial rfl ?_
 exact ae aa (rs := [.tmp 2]) rfl rfl rfl
 replace hd := (bY hd)
 replace h := h.2 hd
 refine gR 7 rfl ?_
 refine gV 16 (.int .i64 ((i1v1 + 1 : Nat) : Int)) rfl (an (by have := hl20; omega) (by omega)) rfl ?_
 refine gR 2 rfl ?_
 refine ao ?_
 exact gJ (h K _ hK (by omega)) [] [] rfl hK ⟨⟨_, rfl, .rfl⟩, ⟨_, rfl, .rfl⟩, trivial⟩ trivial rfl
 replace hd := (cy hd)
 replace h := h.2 hd
 refine gR 3 rfl ?_
 refine ay ?_
 refine gR 4 rfl ?_
 obtain ⟨b1_6, hs24, h⟩ := h
 refine gC0 hs24 (by kernel_rfl) rfl rfl .rfl rfl ?_
 refine gR 4 rfl ?_
 subst h
 refine ab (F' := (mkF 30 0 [(2, .bool b1_6)])) (H' := ⟨0, []⟩) [] [] rfl hK ⟨⟨_, rfl, .rfl⟩, trivial⟩ trivial rfl ?_
 exact ae aa (rs := [.tmp 2]) rfl rfl rfl
end Go.Proofs.YteglbnopdedadaaGreat
namespace Go.Proofs.YteglbnopdedadaaGreat
open Go.RowKit Lx Sx
set_option maxHeartbeats 1000000
def Dc (L : List Int) (a : Int) : Prop := 0 ≤ a ∧ a ≤ L.length ∧ L.length ≤ 1000000000
theorem AU {a n : Int} (hn : 0 < n) (hn2 : n ≤ 1000000000) : ∃ r, jG a n r ∧ 0 ≤ r ∧ r < n := by
  have h1 := Int.lt_tmod_of_pos a hn
  have h2 := Int.tmod_lt_of_pos a hn
  by_cases h : Int.tmod a n < 0
  · exact ⟨_, lA 0 _ _ _ ⟨by omega, fun _ => ⟨by omega, rfl⟩, fun h' => absurd h h'⟩, by omega, by omega⟩
  · exact ⟨_, lA 0 _ _ _ ⟨by omega, fun h' => absurd h' h, fun _ => rfl⟩, by omega, by omega⟩
theorem d4 {L : List Int} {a n : Int} (hd : Dc L a) (hn : 0 < n) (hn2 : n ≤ 1000000000) : ∃ r a', aG L a n r L a' ∧ (0 ≤ r ∧ r < n) ∧ Dc L a' := by
  obtain ⟨h0, h1, h2⟩ := hd
  by_cases h : (L.length : Int) ≤ a
  · exact ⟨0, a, iW 0 _ _ _ _ _ _ ⟨fun _ => ⟨rfl, rfl, rfl⟩, fun h' => absurd h h'⟩, by omega, h0, h1, h2⟩
  · obtain ⟨x, hx, _⟩ | h' := aE L a.toNat
    · obtain ⟨r, hr, hr1⟩ := AU (a := x) hn hn2
      exact ⟨r, a + 1, iW 0 _ _ _ _ _ _ ⟨fun h' => absurd h' h, fun _ => ⟨by omega, by omega, a.toNat, by omega, x, hx, r, hr, rfl, rfl, rfl⟩⟩, hr1, by omega, by omega, h2⟩
    · omega
theorem go {L : List Int} {a : Int} (hd : Dc L a) (l : List (List UInt8)) (hl : 0 < l.length) (hl2 : l.length ≤ 1000000000) : ∃ s a', bd L a l s L a' ∧ s ∈ l ∧ Dc L a' := by
  obtain ⟨r, a', h1, h2, h3⟩ := d4 hd (n := (l.length : Int)) (by omega) (by omega)
  obtain ⟨x, hx, _⟩ | h' := aE l r.toNat
  · exact ⟨x, a', oO 0 _ _ _ _ _ _ ⟨_, _, _, h1, r.toNat, by omega, x, hx, rfl, rfl, rfl⟩, List.mem_of_getElem? hx, h3⟩
  · omega
def Gt (L : List Int) (C : Tree → Int → Prop) (B : Nat) : Prop := ∃ t a', C t a' ∧ Dc L a' ∧ tbulk t ≤ B
theorem Gt.map {L : List Int} {C C' : Tree → Int → Prop} {B B' : Nat} (h : Gt L C B) (hb : B ≤ B') (k : ∀ t a', C t a' → C' t a') : Gt L C' B' := by
  obtain ⟨t, a', h1, h2, h3⟩ := h; exact ⟨t, a', k t a' h1, h2, by omega⟩
theorem fG {l : List (List UInt8)} {s : List UInt8} (h : s ∈ l) (hl : l.all (fun x => decide (x.length ≤ 5)) = true) : s.length ≤ 5 := by
  have := List.all_eq_true.1 hl s h; simpa using this
theorem tb0 (k : Int) (s : List UInt8) : tbulk (.node k s [] []) = s.length + 1 := by simp [tbulk, lsum, kbulk]
theorem tb1 (k : Int) (s : List UInt8) (t : Tree) : tbulk (.node k s [] [t]) = s.length + tbulk t + 1 := by simp [tbulk, lsum, kbulk]
theorem tb2 (k : Int) (s : List UInt8) (t u : Tree) : tbulk (.node k s [] [t, u]) = s.length + tbulk t + tbulk u + 1 := by simp [tbulk, lsum, kbulk]; omega
theorem tb3 (k : Int) (s : List UInt8) (t u v : Tree) : tbulk (.node k s [] [t, u, v]) = s.length + tbulk t + tbulk u + tbulk v + 1 := by simp [tbulk, lsum, kbulk]; omega
theorem tbK (k : Int) (s : List UInt8) (l : List Tree) : tbulk (.node k s [] l) = s.length + kbulk l + 1 := by simp [tbulk, lsum]
theorem vv {L : List Int} : ∀ (d : Nat) {a : Int}, Dc L a → d ≤ 100 → Gt L (fun t a' => cj L a d t L a') (6 + d) := fun d => by
  induction d with
  | zero =>
    intro a hd _
    obtain ⟨r, a1, h1, h2, h3⟩ := d4 hd (n := 7) (by omega) (by omega)
    have top : ∀ {t a'}, ep 1 0 r L a1 false t L a' → r ≠ 0 → r ≠ 1 → cj L a 0 t L a' := fun h n0 n1 => f5 1 _ _ _ _ _ _ ⟨_, _, _, h1, fun e => absurd e n0, fun _ => by rw [show (r == 1) = false by simpa using n1]; exact h⟩
    by_cases e0 : r = 0 ∨ r = 1
    · refine ⟨_, a1, f5 1 _ _ _ _ _ _ ⟨_, _, _, h1, fun e => bm 0 _ _ _ _ _ _ _ _ ⟨fun _ => ⟨rfl, rfl, rfl⟩, fun h => nomatch h⟩, fun e => bm 0 _ _ _ _ _ _ _ _ ⟨fun _ => ⟨rfl, rfl, rfl⟩, fun h => ?_⟩⟩, h3, by rw [tb0]; simp only [List.length_nil]; omega⟩
      rcases e0 with e0 | e0
      · exact absurd e0 e
      · rw [e0] at h; cases h
    · by_cases e2 : r = 2
      · exact ⟨_, a1, top (bm 0 _ _ _ _ _ _ _ _ ⟨fun h => (nomatch h), fun _ => ⟨fun _ => ⟨rfl, rfl, rfl⟩, fun h => absurd e2 h⟩⟩) (by omega) (by omega), h3, by rw [tb0]; simp only [List.length_nil]; omega⟩
      · by_cases e3 : r = 3
        · exact ⟨_, a1, top (bm 0 _ _ _ _ _ _ _ _ ⟨fun h => (nomatch h), fun _ => ⟨fun h => absurd h e2, fun _ => ⟨fun _ => ⟨rfl, rfl, rfl⟩, fun h => absurd e3 h⟩⟩⟩) (by omega) (by omega), h3, by rw [tb0]; simp only [List.length_nil]; omega⟩
        · by_cases e4 : r = 4
          · obtain ⟨s, a2, g1, g2, g3⟩ := go h3 [[84], [85], [65, 46, 84], [66, 46, 85]] (by decide) (by decide)
            have := fG g2 (by decide)
            exact ⟨_, a2, top (bm 0 _ _ _ _ _ _ _ _ ⟨fun h => (nomatch h), fun _ => ⟨fun h => absurd h e2, fun _ => ⟨fun h => absurd h e3, fun _ => ⟨fun _ => ⟨_, _, _, g1, rfl, rfl, rfl⟩, fun h => absurd e4 h⟩⟩⟩⟩) (by omega) (by omega), g3, by rw [tb0]; omega⟩
          · exact ⟨_, a1, top (bm 0 _ _ _ _ _ _ _ _ ⟨fun h => (nomatch h), fun _ => ⟨fun h => absurd h e2, fun _ => ⟨fun h => absurd h e3, fun _ => ⟨fun h => absurd h e4, fun _ => ⟨fun _ => ⟨rfl, rfl, rfl⟩, fun h => by omega⟩⟩⟩⟩⟩) (by omega) (by omega), h3, by rw [tb0]; simp only [List.length_nil]; omega⟩
  | succ d ih =>
    intro a hd hd100
    obtain ⟨r, a1, h1, h2, h3⟩ := d4 hd (n := 7) (by omega) (by omega)
    have top : ∀ {t a'}, ep 1 ((d + 1 : Nat) : Int) r L a1 false t L a' → r ≠ 0 → r ≠ 1 → cj L a ((d + 1 : Nat) : Int) t L a' := fun h n0 n1 => f5 1 _ _ _ _ _ _ ⟨_, _, _, h1, fun e => absurd e n0, fun _ => by rw [show (r == 1) = false by simpa using n1]; exact h⟩
    by_cases e0 : r = 0 ∨ r = 1
    · refine ⟨_, a1, f5 1 _ _ _ _ _ _ ⟨_, _, _, h1, fun e => bm 0 _ _ _ _ _ _ _ _ ⟨fun _ => ⟨rfl, rfl, rfl⟩, fun h => nomatch h⟩, fun e => bm 0 _ _ _ _ _ _ _ _ ⟨fun _ => ⟨rfl, rfl, rfl⟩, fun h => ?_⟩⟩, h3, by rw [tb0]; simp only [List.length_nil]; omega⟩
      rcases e0 with e0 | e0
      · exact absurd e0 e
      · rw [e0] at h; cases h
    · by_cases e2 : r = 2
      · exact ⟨_, a1, top (bm 0 _ _ _ _ _ _ _ _ ⟨fun h => (nomatch h), fun _ => ⟨fun _ => ⟨rfl, rfl, rfl⟩, fun h => absurd e2 h⟩⟩) (by omega) (by omega), h3, by rw [tb0]; simp only [List.length_nil]; omega⟩
      · by_cases e3 : r = 3
        · exact ⟨_, a1, top (bm 0 _ _ _ _ _ _ _ _ ⟨fun h => (nomatch h), fun _ => ⟨fun h => absurd h e2, fun _ => ⟨fun _ => ⟨rfl, rfl, rfl⟩, fun h => absurd e3 h⟩⟩⟩) (by omega) (by omega), h3, by rw [tb0]; simp only [List.length_nil]; omega⟩
        · by_cases e4 : r = 4
          · obtain ⟨s, a2, g1, g2, g3⟩ := go h3 [[84], [85], [65, 46, 84], [66, 46, 85]] (by decide) (by decide)
            have := fG g2 (by decide)
            exact ⟨_, a2, top (bm 0 _ _ _ _ _ _ _ _ ⟨fun h => (nomatch h), fun _ => ⟨fun h => absurd h e2, fun _ => ⟨fun h => absurd h e3, fun _ => ⟨fun _ => ⟨_, _, _, g1, rfl, rfl, rfl⟩, fun h => absurd e4 h⟩⟩⟩⟩) (by omega) (by omega), g3, by rw [tb0]; omega⟩
          · obtain ⟨t, a2, g1, g2, g3⟩ := ih h3 (by omega)
            have g1' : cj L a1 (((d + 1 : Nat) : Int) - 1) t L a2 := by rw [show ((d + 1 : Nat) : Int) - 1 = (d : Int) by omega]; exact g1
            exact ⟨_, a2, top (bm 0 _ _ _ _ _ _ _ _ ⟨fun h => (nomatch h), fun _ => ⟨fun h => absurd h e2, fun _ => ⟨fun h => absurd h e3, fun _ => ⟨fun h => absurd h e4, fun _ => ⟨fun h => by omega, fun _ => ⟨by omega, _, _, _, g1', rfl, rfl, rfl⟩⟩⟩⟩⟩⟩) (by omega) (by omega), g2, by rw [tb1]; simp only [List.length_nil]; omega⟩
def eB : Nat → Nat
  | 0 => 6
  | d + 1 => 3 * eB d + 20
section
variable {L : List Int} {d a z : Int} {t : Tree} {a' : Int} {m : Nat}
theorem up2 (h0 : z ≠ 0) (h1 : z ≠ 1) (h : fR m d L a z t L a') : cg (m + 2) d L a z t L a' :=
  rL0_semvcsmake_Expr (m + 1) _ _ _ _ _ _ _ ⟨fun e => absurd e h0, fun _ => hJ m _ _ _ _ _ _ _ _ ⟨fun e => absurd (eq_of_beq e) h1, fun _ => h⟩⟩
theorem up6 (h2 : z ≠ 2) (h3 : z ≠ 3) (h4 : z ≠ 4) (h5 : z ≠ 5) (h : fT m d L a z t L a') : fR (m + 4) d L a z t L a' :=
  rL2_semvcsmake_Expr (m + 3) _ _ _ _ _ _ _ ⟨fun e => absurd e h2, fun _ => dQ (m + 2) _ _ _ _ _ _ _ ⟨fun e => absurd e h3, fun _ => fo (m + 1) _ _ _ _ _ _ _ ⟨fun e => absurd e h4, fun _ => ie m _ _ _ _ _ _ _ ⟨fun e => absurd e h5, fun _ => h⟩⟩⟩⟩
theorem up9 (h6 : z ≠ 6) (h7 : z ≠ 7) (h : d2 m d L a z t L a') : fT (m + 2) d L a z t L a' :=
  rL6_semvcsmake_Expr (m + 1) _ _ _ _ _ _ _ ⟨fun e => absurd e h6, fun _ => hU m _ _ _ _ _ _ _ _ ⟨fun e => absurd (eq_of_beq e) h7, fun _ => h⟩⟩
theorem zF (h8 : z ≠ 8) (h : fc m d L a z t L a') : d2 (m + 1) d L a z t L a' := kJ m _ _ _ _ _ _ _ ⟨fun e => absurd e h8, fun _ => h⟩
theorem BO (h9 : z ≠ 9) (h : dR m d L a z t L a') : fc (m + 1) d L a z t L a' := kn m _ _ _ _ _ _ _ ⟨fun e => absurd e h9, fun _ => h⟩
theorem Bu (h10 : z ≠ 10) (h11 : z ≠ 11) (h : fb m d L a z t L a') : dR (m + 2) d L a z t L a' :=
  rL14_semvcsmake_Expr (m + 1) _ _ _ _ _ _ _ ⟨fun e => absurd e h10, fun _ => gN m _ _ _ _ _ _ _ _ ⟨fun e => absurd (eq_of_beq e) h11, fun _ => h⟩⟩
end
theorem qt {L : List Int} {d a z : Int} (M : Nat) (hd : Dc L a) (h0 : 0 ≤ z) (h5 : z ≤ 5) : Gt L (fun t a' => cg (M + 8) d L a z t L a') 6 := by
  by_cases e0 : z = 0 ∨ z = 1
  · obtain ⟨s, a2, g1, g2, g3⟩ := go hd [[120], [121], [122]] (by decide) (by decide)
    have := fG g2 (by decide)
    refine ⟨_, a2, rL0_semvcsmake_Expr (M + 7) _ _ _ _ _ _ _ ⟨fun e => hJ (M + 6) _ _ _ _ _ _ _ _ ⟨fun _ => ⟨_, _, _, g1, rfl, rfl, rfl⟩, fun h => nomatch h⟩, fun e => hJ (M + 6) _ _ _ _ _ _ _ _ ⟨fun _ => ⟨_, _, _, g1, rfl, rfl, rfl⟩, fun h => ?_⟩⟩, g3, by rw [tb0]; omega⟩
    rcases e0 with e0 | e0
    · exact absurd e0 e
    · rw [e0] at h; exact absurd h (by decide)
  have n0 : z ≠ 0 := by omega
  have n1 : z ≠ 1 := by omega
  by_cases e2 : z = 2
  · obtain ⟨s, a2, g1, g2, g3⟩ := go hd [[48], [49], [50], [49, 48]] (by decide) (by decide)
    have := fG g2 (by decide)
    exact ⟨_, a2, up2 n0 n1 (rL2_semvcsmake_Expr (M + 5) _ _ _ _ _ _ _ ⟨fun _ => ⟨_, _, _, g1, rfl, rfl, rfl⟩, fun h => absurd e2 h⟩), g3, by rw [tb0]; omega⟩
  by_cases e3 : z = 3
  · obtain ⟨s, a2, g1, g2, g3⟩ := go hd [[34, 34], [34, 97, 34], [34, 35, 32, 98, 34]] (by decide) (by decide)
    have := fG g2 (by decide)
    exact ⟨_, a2, up2 n0 n1 (rL2_semvcsmake_Expr (M + 5) _ _ _ _ _ _ _ ⟨fun h => absurd h e2, fun _ => dQ (M + 4) _ _ _ _ _ _ _ ⟨fun _ => ⟨_, _, _, g1, rfl, rfl, rfl⟩, fun h => absurd e3 h⟩⟩), g3, by rw [tb0]; omega⟩
  by_cases e4 : z = 4
  · obtain ⟨r, a2, g1, g2, g3⟩ := d4 hd (n := 2) (by omega) (by omega)
    exact ⟨_, a2, up2 n0 n1 (rL2_semvcsmake_Expr (M + 5) _ _ _ _ _ _ _ ⟨fun h => absurd h e2, fun _ => dQ (M + 4) _ _ _ _ _ _ _ ⟨fun h => absurd h e3, fun _ => fo (M + 3) _ _ _ _ _ _ _ ⟨fun _ => ⟨_, _, _, g1, by omega, rfl, rfl, rfl⟩, fun h => absurd e4 h⟩⟩⟩), g3, by rw [tb0]; simp only [List.length_nil]; omega⟩
  have e5 : z = 5 := by omega
  obtain ⟨r, a2, g1, g2, g3⟩ := d4 hd (n := 3) (by omega) (by omega)
  by_cases er : r = 0
  · exact ⟨_, a2, up2 n0 n1 (rL2_semvcsmake_Expr (M + 5) _ _ _ _ _ _ _ ⟨fun h => absurd h e2, fun _ => dQ (M + 4) _ _ _ _ _ _ _ ⟨fun h => absurd h e3, fun _ => fo (M + 3) _ _ _ _ _ _ _ ⟨fun h => absurd h e4, fun _ => ie (M + 2) _ _ _ _ _ _ _ ⟨fun _ => ⟨_, _, _, g1, fun _ => ⟨rfl, rfl, rfl⟩, fun h => absurd er h⟩, fun h => absurd e5 h⟩⟩⟩⟩), g3, by rw [tb0]; simp only [List.length_nil]; omega⟩
  · exact ⟨_, a2, up2 n0 n1 (rL2_semvcsmake_Expr (M + 5) _ _ _ _ _ _ _ ⟨fun h => absurd h e2, fun _ => dQ (M + 4) _ _ _ _ _ _ _ ⟨fun h => absurd h e3, fun _ => fo (M + 3) _ _ _ _ _ _ _ ⟨fun h => absurd h e4, fun _ => ie (M + 2) _ _ _ _ _ _ _ ⟨fun _ => ⟨_, _, _, g1, fun h => absurd h er, fun _ => ⟨rfl, rfl, rfl⟩⟩, fun h => absurd e5 h⟩⟩⟩⟩), g3, by rw [tb0]; simp⟩
theorem t5 {L : List Int} {a : Int} (hd : Dc L a) : Gt L (fun t a' => aP L a 0 t L a') 6 := by
  obtain ⟨r, a1, h1, h2, h3⟩ := d4 hd (n := 14) (by omega) (by omega)
  by_cases e1 : 5 < r
  · by_cases e2 : 5 < r - 6
    · exact (qt 0 (d := 0) h3 (z := 0) (by omega) (by omega)).map (Nat.le_refl _) fun t a' h => fI 8 _ _ _ _ _ _ ⟨_, _, _, h1, fun _ => ⟨fun _ => ⟨by omega, fun _ => h, fun h' => absurd e2 h'⟩, fun h' => absurd e1 h'⟩, fun h' => by omega⟩
    · exact (qt 0 (d := 0) h3 (z := r - 6) (by omega) (by omega)).map (Nat.le_refl _) fun t a' h => fI 8 _ _ _ _ _ _ ⟨_, _, _, h1, fun _ => ⟨fun _ => ⟨by omega, fun h' => absurd h' e2, fun _ => h⟩, fun h' => absurd e1 h'⟩, fun h' => by omega⟩
  · exact (qt 0 (d := 0) h3 (z := r) (by omega) (by omega)).map (Nat.le_refl _) fun t a' h => fI 8 _ _ _ _ _ _ ⟨_, _, _, h1, fun _ => ⟨fun h' => absurd h' e1, fun _ => h⟩, fun h' => by omega⟩
theorem qy {L : List Int} {k : Int} {B : Nat} {a : Int} (h : Gt L (fun t a' => aP L a k t L a') B) : Gt L (fun t a' => dI L a k t L a') (B + 1) := by
  obtain ⟨t, a2, g1, g2, g3⟩ := h
  cases hu : o7 t.kind with
  | true => exact ⟨t, a2, lh 0 _ _ _ _ _ _ ⟨_, _, _, g1, _, oL _, fun h => absurd (hu.symm.trans h) (by decide), fun _ => ⟨rfl, rfl, rfl⟩⟩, g2, by omega⟩
  | false => exact ⟨_, a2, lh 0 _ _ _ _ _ _ ⟨_, _, _, g1, _, oL _, fun _ => ⟨rfl, rfl, rfl⟩, fun h => absurd (hu.symm.trans h) (by decide)⟩, g2, by rw [tb1]; simp only [List.length_nil]; omega⟩
theorem wM : ∀ d, 6 ≤ eB d
  | 0 => Nat.le_refl _
  | d + 1 => by have := wM d; simp only [eB]; omega
theorem AP {L : List Int} : ∀ (d : Nat) {a : Int}, Dc L a → d ≤ 5 → Gt L (fun t a' => aP L a d t L a') (eB d) := fun d => by
  induction d with
  | zero => intro a hd _; exact t5 hd
  | succ d ih =>
    intro a hd hd5
    obtain ⟨z, a1, h1, h2, h3⟩ := d4 hd (n := 14) (by omega) (by omega)
    have top : ∀ {M t a'}, cg M ((d + 1 : Nat) : Int) L a1 z t L a' → aP L a ((d + 1 : Nat) : Int) t L a' := fun {M} {t} {a'} h => fI M _ _ _ _ _ _ ⟨_, _, _, h1, fun h' => by omega, fun _ => h⟩
    have sub : ∀ {a}, Dc L a → Gt L (fun t a' => aP L a (((d + 1 : Nat) : Int) - 1) t L a') (eB d) := fun {a} h => by rw [show ((d + 1 : Nat) : Int) - 1 = (d : Int) by omega]; exact ih h (by omega)
    have hB : eB (d + 1) = 3 * eB d + 20 := rfl
    have hp := wM d
    by_cases c5 : z ≤ 5
    · exact (qt 0 (d := ((d + 1 : Nat) : Int)) h3 (by omega) c5).map (by omega) fun t a' h => top h
    have n0 : z ≠ 0 := by omega
    have n1 : z ≠ 1 := by omega
    have n2 : z ≠ 2 := by omega
    have n3 : z ≠ 3 := by omega
    have n4 : z ≠ 4 := by omega
    have n5 : z ≠ 5 := by omega
    by_cases c7 : z ≤ 7
    · -- a call
      obtain ⟨s, a2, g1, g2, g3⟩ := go h3 [[102], [103], [104], [65, 46, 102], [66, 46, 103], [65, 46, 104]] (by decide) (by decide)
      have hs := fG g2 (by decide)
      obtain ⟨n, a3, g4, g5, g6⟩ := d4 g3 (n := 4) (by omega) (by omega)
      have loop : ∀ (k : Nat) (a : Int) (l : List Tree), Dc L a → l.length + k ≤ 100 → Gt L (fun t a' => ff (k + 1) ((d + 1 : Nat) : Int) s L a l (k : Int) t L a') (s.length + 1 + kbulk l + k * (eB d + 1)) := fun k => by
        induction k with
        | zero => intro a l hd hl; exact ⟨_, a, km 0 _ _ _ _ _ _ _ _ _ ⟨fun h => by omega, fun _ => ⟨rfl, rfl, rfl⟩⟩, hd, by rw [tbK]; omega⟩
        | succ k ihk =>
          intro a l hd hl
          obtain ⟨t, b, q1, q2, q3⟩ := sub hd
          refine (ihk b (l ++ [.node 17 [] [] [t]]) q2 (by simp; omega)).map ?_ fun t' a' h => km (k + 1) _ _ _ _ _ _ _ _ _ ⟨fun _ => ⟨by omega, _, _, _, q1, by simp; omega, by omega, by rw [show ((k + 1 : Nat) : Int) - 1 = (k : Int) by omega]; exact h⟩, fun h => by omega⟩
          rw [d1, Nat.succ_mul]; simp only [kbulk, tb1, List.length_nil]
          omega
      refine (loop n.toNat a3 [] g6 (by simp; omega)).map (by
        have : n.toNat * (eB d + 1) ≤ 3 * (eB d + 1) := Nat.mul_le_mul_right _ (by omega)
        simp only [kbulk]; omega) fun t a' h => ?_
      have h8 : iN (n.toNat + 2) ((d + 1 : Nat) : Int) L a1 t L a' := oo (n.toNat + 1) _ _ _ _ _ _ ⟨_, _, _, g1, _, _, _, g4, by rw [show n = ((n.toNat : Nat) : Int) by omega]; exact h⟩
      refine top (up2 n0 n1 (up6 n2 n3 n4 n5 (rL6_semvcsmake_Expr (n.toNat + 3) _ _ _ _ _ _ _ ⟨fun _ => hU (n.toNat + 2) _ _ _ _ _ _ _ _ ⟨fun _ => h8, fun h => nomatch h⟩, fun h => hU (n.toNat + 2) _ _ _ _ _ _ _ _ ⟨fun _ => h8, fun h' => ?_⟩⟩)))
      have : z ≠ 7 := by simpa using h'
      omega
    have n6 : z ≠ 6 := by omega
    have n7 : z ≠ 7 := by omega
    have t9 : ∀ {M t a'}, d2 M ((d + 1 : Nat) : Int) L a1 z t L a' → aP L a ((d + 1 : Nat) : Int) t L a' := fun h => top (up2 n0 n1 (up6 n2 n3 n4 n5 (up9 n6 n7 h)))
    by_cases c8 : z = 8
    · -- a list
      obtain ⟨n, a3, g4, g5, g6⟩ := d4 h3 (n := 3) (by omega) (by omega)
      have loop : ∀ (k : Nat) (a : Int) (l : List Tree), Dc L a → l.length + k ≤ 100 → Gt L (fun t a' => fi (k + 1) ((d + 1 : Nat) : Int) L a l (k : Int) t L a') (1 + kbulk l + k * (eB d)) := fun k => by
        induction k with
        | zero => intro a l hd hl; exact ⟨_, a, ky 0 _ _ _ _ _ _ _ _ ⟨fun h => by omega, fun _ => ⟨rfl, rfl, rfl⟩⟩, hd, by rw [tbK]; simp only [List.length_nil]; omega⟩
        | succ k ihk =>
          intro a l hd hl
          obtain ⟨t, b, q1, q2, q3⟩ := sub hd
          refine (ihk b (l ++ [t]) q2 (by simp; omega)).map ?_ fun t' a' h => ky (k + 1) _ _ _ _ _ _ _ _ ⟨fun _ => ⟨by omega, _, _, _, q1, by simp; omega, by omega, by rw [show ((k + 1 : Nat) : Int) - 1 = (k : Int) by omega]; exact h⟩, fun h => by omega⟩
          rw [d1, Nat.succ_mul]; simp only [kbulk]
          omega
      exact (loop (1 + n).toNat a3 [] g6 (by simp; omega)).map (by
        have : (1 + n).toNat * eB d ≤ 3 * eB d := Nat.mul_le_mul_right _ (by omega)
        simp only [kbulk]; omega) fun t a' h => t9 (kJ ((1 + n).toNat + 1) _ _ _ _ _ _ _ ⟨fun _ => ⟨_, _, _, g4, by omega, by rw [show (((1 + n).toNat : Nat) : Int) = 1 + n by omega] at h; exact h⟩, fun h' => absurd c8 h'⟩)
    by_cases c9 : z = 9
    · obtain ⟨t1, b1, q1, r1, s1⟩ := sub h3
      obtain ⟨t2, b2, q2, r2, s2⟩ := sub r1
      obtain ⟨t3, b3, q3, r3, s3⟩ := sub r2
      exact ⟨_, b3, t9 (zF c8 (kn 1 _ _ _ _ _ _ _ ⟨fun _ => nO 0 _ _ _ _ _ _ ⟨by omega, _, _, _, q1, by omega, _, _, _, q2, by omega, _, _, _, q3, rfl, rfl, rfl⟩, fun h => absurd c9 h⟩)), r3, by rw [tb3]; simp only [List.length_nil]; omega⟩
    have t14 : ∀ {M t a'}, dR M ((d + 1 : Nat) : Int) L a1 z t L a' → aP L a ((d + 1 : Nat) : Int) t L a' := fun h => t9 (zF c8 (BO c9 h))
    by_cases c11 : z ≤ 11
    · obtain ⟨s, b0, g1, g2, g3⟩ := go h3 [[120], [121], [122]] (by decide) (by decide)
      have hs := fG g2 (by decide)
      obtain ⟨t1, b1, q1, r1, s1⟩ := sub g3
      obtain ⟨t2, b2, q2, r2, s2⟩ := sub r1
      refine ⟨.node 20 s [] [t1, t2], b2, ?_, r2, by rw [tb2]; omega⟩
      have h16 : hZ 1 ((d + 1 : Nat) : Int) L a1 (.node 20 s [] [t1, t2]) L b2 := nX 0 _ _ _ _ _ _ ⟨_, _, _, g1, by omega, _, _, _, q1, by omega, _, _, _, q2, rfl, rfl, rfl⟩
      refine t14 (rL14_semvcsmake_Expr 2 _ _ _ _ _ _ _ ⟨fun _ => gN 1 _ _ _ _ _ _ _ _ ⟨fun _ => h16, fun h => nomatch h⟩, fun h => gN 1 _ _ _ _ _ _ _ _ ⟨fun _ => h16, fun h' => ?_⟩⟩)
      have : z ≠ 11 := by simpa using h'
      omega
    have t17 : ∀ {M t a'}, fb M ((d + 1 : Nat) : Int) L a1 z t L a' → aP L a ((d + 1 : Nat) : Int) t L a' := fun h => t14 (Bu (by omega) (by omega) h)
    by_cases c12 : z = 12
    · obtain ⟨s, b0, g1, g2, g3⟩ := go h3 [[43], [45], [42], [60], [61, 61]] (by decide) (by decide)
      have hs := fG g2 (by decide)
      obtain ⟨t1, b1, q1, r1, s1⟩ := qy (sub g3)
      obtain ⟨n, b2, q2, q3, q4⟩ := d4 r1 (n := 3) (by omega) (by omega)
      by_cases hn : n = 0
      · obtain ⟨s', b3, g4, g5, g6⟩ := go q4 [[43], [42]] (by decide) (by decide)
        have hs' := fG g5 (by decide)
        obtain ⟨t2, b4, q5, r5, s5⟩ := qy (t5 g6)
        obtain ⟨t3, b5, q6, r6, s6⟩ := qy (sub r5)
        exact ⟨_, b5, t17 (gM 1 _ _ _ _ _ _ _ ⟨fun _ => kA 0 _ _ _ _ _ _ ⟨_, _, _, g1, by omega, _, _, _, q1, _, _, _, q2, fun _ => ⟨_, _, _, g4, _, _, _, q5, by omega, _, _, _, q6, rfl, rfl, rfl⟩, fun h => absurd hn h⟩, fun h => absurd c12 h⟩), r6, by rw [tb2, tb2]; omega⟩
      · obtain ⟨t3, b5, q6, r6, s6⟩ := qy (sub q4)
        exact ⟨_, b5, t17 (gM 1 _ _ _ _ _ _ _ ⟨fun _ => kA 0 _ _ _ _ _ _ ⟨_, _, _, g1, by omega, _, _, _, q1, _, _, _, q2, fun h => absurd h hn, fun _ => ⟨by omega, _, _, _, q6, rfl, rfl, rfl⟩⟩, fun h => absurd c12 h⟩), r6, by rw [tb2]; omega⟩
    · obtain ⟨t1, b1, q1, r1, s1⟩ := sub h3
      exact ⟨_, b1, t17 (gM 1 _ _ _ _ _ _ _ ⟨fun h => absurd h c12, fun _ => ⟨by omega, _, _, _, q1, rfl, rfl, rfl⟩⟩), r1, by rw [tb1]; simp only [List.length_nil]; omega⟩
end Go.Proofs.YteglbnopdedadaaGreat
namespace Go.Proofs.YteglbnopdedadaaGreat
open Go.RowKit Lx
set_option maxRecDepth 100000
def gD : Bool → List UInt8 → Bool
  | c, [] => c
  | c, x :: r => gD (if x.toNat = 10 then false else if x.toNat = 35 then true else c) r
theorem kf : ∀ (b : Bool) (l : List UInt8) (n m : Nat), aO b l (n + m) = ((aO b l n).1 + m, (aO b l n).2.map (· + m))
  | b, [], n, m => by cases b <;> simp [aO]
  | false, c :: r, n, m => by
    have h1 := kf false r (n + 1) m
    have h2 := kf true r (n + 1) m
    unfold aO
    split
    · rw [← h1]; congr 1; omega
    · split
      · rw [← h2]; congr 1; omega
      · simp
  | true, c :: r, n, m => by
    have h1 := kf false r (n + 1) m
    have h2 := kf true r (n + 1) m
    unfold aO
    split
    · rw [← h1]; congr 1; omega
    · split
      · simp
      · rw [← h2]; congr 1; omega
def hG (c : Bool) (l : List UInt8) : Bool := (aO c l 0).2.isNone && (aO c l 0).1 == l.length
theorem lc {c d : Bool} {x : UInt8} {r : List UInt8} (h : aO c (x :: r) 0 = aO d r 1) : hG c (x :: r) = hG d r := by
  unfold hG
  rw [h, show (1 : Nat) = 0 + 1 from rfl, kf]
  simp
theorem qn : ∀ (l : List UInt8) (c fin : Bool), fB c l fin = (hG c l && (!gD c l || fin))
  | [], c, fin => by cases c <;> cases fin <;> rfl
  | x :: r, c, fin => by
    have ih := qn r
    unfold fB gD
    cases c with
    | true =>
      by_cases ha : aU x = false
      · have h10 : ¬ x.toNat = 10 := fun h => by simp [aU, bK, h] at ha
        have : hG true (x :: r) = false := by simp [hG, aO, h10, ha]
        rw [if_pos ha, this]; rfl
      · have ha' : aU x = true := by simpa using ha
        rw [if_neg ha, if_pos rfl, ih]
        by_cases h10 : x.toNat = 10
        · rw [lc (d := false) (by simp [aO, h10])]; simp [h10]
        · have hb : (x.toNat == 10) = false := by simpa using h10
          rw [lc (d := true) (by simp [aO, h10, ha']), hb]; simp [h10]
    | false =>
      by_cases ha : aU x = false
      · have hw : bK x = false := by cases h : bK x <;> simp_all [aU]
        have h35 : ¬ x.toNat = 35 := fun h => by simp [aU, dl, h] at ha
        have : hG false (x :: r) = false := by simp [hG, aO, hw, h35]
        rw [if_pos ha, this]; rfl
      · rw [if_neg ha, if_neg (by simp)]
        by_cases h35 : x.toNat = 35
        · have hw : bK x = false := by simp [bK, h35]
          rw [if_pos h35, ih, lc (d := true) (by simp [aO, h35, hw])]; simp [h35]
        · rw [if_neg h35]
          by_cases hw : bK x = false
          · have : hG false (x :: r) = false := by simp [hG, aO, hw, h35]
            rw [if_pos hw, this]; rfl
          · have hw' : bK x = true := by simpa using hw
            rw [if_neg hw, ih, lc (d := false) (by simp [aO, hw'])]
            by_cases h10 : x.toNat = 10 <;> simp [h10, h35]
theorem rI {l : List UInt8} {k : Nat} {x : UInt8} {c : Bool} (h : k < l.length) (hc : l[k] = x) : gD c (l.drop k) = gD (if x.toNat = 10 then false else if x.toNat = 35 then true else c) (l.drop (k + 1)) := by
  rw [List.drop_eq_getElem_cons h, hc]; rfl
theorem sv {l : List UInt8} {k : Nat} {c : Bool} (h : l.length ≤ k) : gD c (l.drop k) = c := by
  rw [List.drop_of_length_le h]; rfl
end Go.Proofs.YteglbnopdedadaaGreat
namespace Go.Proofs.YteglbnopdedadaaGreat
open Go.RowKit Lx
set_option maxRecDepth 100000
set_option maxHeartbeats 1000000 in
theorem yX (l : List UInt8) (fin : Bool) (w : World) (hl : l.length ≤ 281474976710656) : Calls Tryz.prog 123 #[.string ⟨l.toArray⟩, .bool fin] w fun e w' => e = .returned (.bool (fB false l fin)) ∧ w = w' := by
  obtain ⟨n, b, hLd⟩ : ∃ n b, aO false l 0 = (n, b) := ⟨_, _, rfl⟩
  have hnl : n ≤ l.length := by have h := kX false l 0; rw [hLd] at h; simpa using h
  have HLd := Lib.hid hLd
  have HW := Lib.hid (show hG false l = (b.isNone && n == l.length) from by rw [hG, hLd])
  have HT := Lib.hid (qn l false fin)
  clear hLd
  go_enter Tryz.func123, Tryz.ntmps123
  go_wp2_with fail
  refine (yw l 0 0 rfl _ (Nat.zero_le _) hl).mono ?_
  rintro e w' ⟨rfl, rfl⟩
  rw [List.drop_zero, HLd.out]
  cases b with
  | some q =>
    have hq2 : pX 0 (some q) = ((0 + q : Nat) : Int) := rfl
    rw [hq2, Nat.zero_add]
    have hq : (0 : Int) ≤ (q : Int) := by omega
    have HF := Lib.hid (show fB false l fin = false from by rw [HT.out, HW.out]; rfl)
    go_wp2
    go_ret
    exact ⟨bu HF.out.symm, rfl⟩
  | none =>
    have hq2 : pX 0 none = -1 := rfl
    rw [hq2]
    clear hq2
    by_cases hn : n < l.length
    · have HF := Lib.hid (show fB      false l fin = false from by rw [HT.out, HW.out]; have : (n == l.length) = false := by simp; omega
                                                                   rw [this]; rfl)
      go_wp2
      go_ret
      exact ⟨bu HF.out.symm, rfl⟩
    · have hnb : decide (n < l.length) = false := by simpa using hn
      have HF := Lib.hid (show fB false l fin = (!gD false l || fin) from by
        rw [HT.out, HW.out]; have : (n == l.length) = true := by simp; omega
        rw [this]; rfl)
      cases fin with
      | true =>
        go_wp2
        go_ret
        exact ⟨bu (by rw [HF.out]; simp), rfl⟩
      | false =>
        obtain ⟨r, hr⟩ : ∃ r, gD false l = r := ⟨_, rfl⟩
        have HR := Lib.hid hr; clear hr
        go_wp2
        go_loopg [7, 8] l.length (fun g s7 s8 wx => ∃ (i : Nat) (c : Bool), g = l.length - i ∧ wx = w ∧ i ≤ l.length ∧ s7 = .bool c ∧ s8 = .int .i64 i ∧ Hid (gD c (l.drop i) = r))
        case atStart => exact ⟨0, false, rfl, rfl, Nat.zero_le _, rfl, rfl, Lib.hid (by simpa using HR.out)⟩
        case round =>
          obtain ⟨i, c, rfl, rfl, hil, rfl, rfl, HC⟩ := hrel
          by_cases hit : i < l.length
          rotate_left
          · have HF2 := Lib.hid (show c = r from by rw [← HC.out, sv (by omega)])
            go_wp2_with fail
            go_ret
            exact ⟨bu (by rw [HF.out, HR.out, HF2.out]; simp), rfl⟩
          obtain ⟨x, hx⟩ : ∃ c, ({ data := l.toArray } : ByteArray)[i]'hit = c := ⟨_, rfl⟩
          have HXi := Lib.hid (show l[i] = x from hx)
          have HS := Lib.hid (HC.out.symm.trans (rI hit HXi.out))
          clear HC
          cases h35 : ((x.toNat : Int) == 35) <;> cases h10 : ((x.toNat : Int) == 10)
          · go_wp2
            go_roundg (l.length - (i + 1))
            case measure => omega
            case rel => exact ⟨i + 1, c, rfl, rfl, by omega, rfl, by go_num, Lib.hid (by rw [HS.out, if_neg (bO (m := 10) h10), if_neg (bO (m := 35) h35)])⟩
          · go_wp2
            go_roundg (l.length - (i + 1))
            case measure => omega
            case rel => exact ⟨i + 1, false, rfl, rfl, by omega, rfl, by go_num, Lib.hid (by rw [HS.out, if_pos (cX (m := 10) h10)])⟩
          · go_wp2
            go_roundg (l.length - (i + 1))
            case measure => omega
            case rel => exact ⟨i + 1, true, rfl, rfl, by omega, rfl, by go_num, Lib.hid (by rw [HS.out, if_neg (bO (m := 10) h10), if_pos (cX (m := 35) h35)])⟩
          · have h1 := cX (m := 10) h10
            have h2 := cX (m := 35) h35
            omega
end Go.Proofs.YteglbnopdedadaaGreat
namespace Go.Proofs.YteglbnopdedadaaGreat
open Go.RowKit Lx
set_option maxRecDepth 100000
theorem xo (a b : List UInt8) : (ByteArray.mk a.toArray) ++ (ByteArray.mk b.toArray) = ⟨(a ++ b).toArray⟩ := by
  apply ByteArray.ext; simp
theorem rp {a b : List UInt8} (h : bL a = 0 ∨ bL b = 0) : fusesT a b = false := by simp [fusesT, h]
theorem l8 {a b : List UInt8} (h : ¬ (bL a = 0 ∨ bL b = 0)) (h2 : ¬ ((scan (a ++ b)).err = 0 ∧ (scan (a ++ b)).toks.length = 2 ∧ (scan (a ++ b)).tail = [])) : fusesT a b = true := by
  unfold fusesT; rw [if_neg h]; simp only; rw [if_neg h2]
theorem vt {a b : List UInt8} {t0 t1 : Tok} (h : ¬ (bL a = 0 ∨ bL b = 0)) (h1 : (scan (a ++ b)).err = 0) (h2 : (scan (a ++ b)).toks = [t0, t1]) (h3 : (scan (a ++ b)).tail = []) :
    fusesT a b = !(t0.lead == [] && t0.text == a && t1.lead == [] && t1.text == b) := by
  unfold fusesT; rw [if_neg h]; simp only; rw [h1, h2, h3]; simp
theorem vI {l : List UInt8} {b : Bool} (h : (l == []) = b) : l.isEmpty = b := by rw [← h]; cases l <;> rfl
theorem sg {l : List Tok} (h : l.length = 2) : ∃ t0 t1, l = [t0, t1] := by
  match l, h with
  | [a, b], _ => exact ⟨a, b, rfl⟩
set_option maxHeartbeats 2000000 in
theorem AL (a b : List UInt8) (w : World) (ha : a.length ≤ 140737488355328) (hb : b.length ≤ 140737488355328) : Calls Tryz.prog 96 #[.string ⟨a.toArray⟩, .string ⟨b.toArray⟩] w fun e w' => e = .returned (.bool (fusesT a b)) ∧ Ext w w' := by
  have hx := xo
  obtain ⟨ka, hka⟩ : ∃ k, bL a = k := ⟨_, rfl⟩
  obtain ⟨kb, hkb⟩ : ∃ k, bL b = k := ⟨_, rfl⟩
  have HKa := Lib.hid hka
  have HKb := Lib.hid hkb
  clear hka hkb
  go_enter Tryz.func96, Tryz.ntmps96
  go_wp2_with fail
  refine (sK _ _ (by omega)).mono ?_
  rintro e1 w1 ⟨rfl, hx1⟩
  rw [HKa.out]
  have HX1 := Lib.hid hx1; clear hx1
  by_cases h1 : ka = 0
  · subst h1
    go_wp2_with fail
    go_ret
    exact ⟨bu (rp (.inl HKa.out)).symm, HX1.out⟩
  have h1b : ((ka : Int) == 0) = false := by simp; omega
  go_wp2_with fail
  refine (sK _ _ (by omega)).mono ?_
  rintro e2 w2 ⟨rfl, hx2⟩
  rw [HKb.out]
  have HX2 := Lib.hid (HX1.out.trans hx2); clear hx2
  by_cases h2 : kb = 0
  · subst h2
    go_wp2_with fail
    go_ret
    exact ⟨bu (rp (.inr HKb.out)).symm, HX2.out⟩
  have h2b : ((kb : Int) == 0) = false := by simp; omega
  have HN := Lib.hid (show ¬ (bL a = 0 ∨ bL b = 0) from by rw [HKa.out, HKb.out]; omega)
  obtain ⟨Rs, hRs⟩ : ∃ Rs, scan (a ++ b) = Rs := ⟨_, rfl⟩
  have HRs := Lib.hid hRs
  clear hRs
  go_wp2_with fail
  refine (Bf _ _ (by simp; omega)).mono ?_
  rintro e3 w3 ⟨v, rfl, htr, hx3⟩
  rw [HRs.out] at htr ⊢
  obtain ⟨A, c, rfl, hc1, hc2, hrow⟩ := htr
  unfold maxLen at hc2
  have HX3 := Lib.hid (HX2.out.trans hx3); clear hx3
  have HRow := Lib.hid hrow; clear hrow
  obtain ⟨toks, tail, place, er⟩ := Rs
  simp only at HRow hc1 hc2 ⊢
  by_cases h3 : er = 0
  rotate_left
  · have h3b : ((er : Int) != 0) = true := by simp; omega
    have HF := Lib.hid (l8 HN.out (fun h => h3 (by rw [HRs.out] at h; exact h.1)))
    go_wp2_with fail
    go_ret
    exact ⟨bu HF.out.symm, HX3.out⟩
  subst h3
  by_cases h4 : toks.length = 2
  rotate_left
  · have h4b : ((toks.length : Int) != 2) = true := by simp; omega
    have HF := Lib.hid (l8 HN.out (fun h => h4 (by rw [HRs.out] at h; exact h.2.1)))
    go_wp2_with fail
    go_ret
    exact ⟨bu HF.out.symm, HX3.out⟩
  by_cases h5 : tail = []
  rotate_left
  · have h5b : (tail == []) = false := by simpa using h5
    have h5c : tail.isEmpty = false := by simpa using h5
    obtain ⟨t0, t1, rfl⟩ := sg h4
    have HF := Lib.hid (l8 HN.out (fun h => h5 (by rw [HRs.out] at h; exact h.2.2)))
    clear h5 h4
    go_wp2_with fail
    go_ret
    exact ⟨bu HF.out.symm, HX3.out⟩
  subst h5
  obtain ⟨t0, t1, rfl⟩ := sg h4
  clear h4
  obtain ⟨b0, off, rfl, hb0, p0, p1, p2⟩ := rF HRow.out (k := 0) (by simp)
  obtain ⟨b0', off', heq, _, q0, q1, q2⟩ := rF HRow.out (k := 1) (by simp)
  obtain ⟨rfl, rfl⟩ : b0 = b0' ∧ off = off' := by simpa using heq
  clear heq
  have HF := Lib.hid (vt HN.out (by rw [HRs.out]) (by rw [HRs.out]) (by rw [HRs.out]))
  simp only [Nat.zero_mul, Nat.one_mul, Nat.add_zero, List.getElem_cons_zero, List.getElem_cons_succ] at p0 p1 p2 q0 q1 q2
  cases g1 : (t0.text == a)
  · skip
    go_wp2_with fail
    go_ret
    exact ⟨bu (by rw [HF.out, g1]; simp), HX3.out⟩
  cases g0 : (t0.lead == [])
  · skip
    have g0' : t0.lead.isEmpty = false := by simpa using g0
    go_wp2_with fail
    go_ret
    exact ⟨bu (by rw [HF.out, g1, g0]; simp), HX3.out⟩
  have g0' : t0.lead.isEmpty = true := by simpa using g0
  cases g3 : (t1.text == b)
  · skip
    go_wp2_with fail
    go_ret
    exact ⟨bu (by rw [HF.out, g1, g0, g3]; simp), HX3.out⟩
  cases g2 : (t1.lead == [])
  all_goals
    have g2' := vI g2
    go_wp2_with fail
    go_ret
    exact ⟨bu (by rw [HF.out, g1, g0, g3, g2]; simp), HX3.out⟩
end Go.Proofs.YteglbnopdedadaaGreat
namespace Go.Proofs.YteglbnopdedadaaGreat
open Go.RowKit Lx Sx
set_option maxHeartbeats 1000000
theorem xQ (a b : List UInt8) (ha : a.length ≤ 140737488355328) (hb : b.length ≤ 140737488355328) : kG a b (fusesT a b) := sum0_calls rfl rfl fun S w ρ xs hx => by
  simp only [LRel] at hx
  obtain ⟨x, ys, rfl, h1, y, zs, rfl, h2, rfl⟩ := hx
  simp only [VRel] at h1 h2; subst h1 h2
  exact (AL a b w ha hb).mono fun e w' ⟨h1, h2⟩ => ⟨_, h1, by simp only [VRel], ua h2⟩
theorem qZ (a : List UInt8) (f : Bool) (ha : a.length ≤ 140737488351232) : gH a f (fB false a f) := sum0_calls rfl rfl fun S w ρ xs hx => by
  simp only [LRel] at hx
  obtain ⟨x, ys, rfl, h1, y, zs, rfl, h2, rfl⟩ := hx
  simp only [VRel] at h1 h2; subst h1 h2
  exact (yX a f w (by omega)).mono fun e w' ⟨h1, h2⟩ => ⟨_, h1, by simp only [VRel], h2 ▸ Chg.refl _ _⟩
abbrev Pce := GSemvcsref02Piece
def Qp (l : List Pce) : Prop := ∀ x ∈ l, x.Lead.length ≤ 1000000 ∧ x.Text.length ≤ 1000010
theorem bU {a b : List Pce} : Qp (a ++ b) ↔ Qp a ∧ Qp b := ⟨fun h => ⟨fun x hx => h x (by simp [hx]), fun x hx => h x (by simp [hx])⟩, fun h x hx => by rcases List.mem_append.1 hx with h1 | h1; exact h.1 x h1; exact h.2 x h1⟩
theorem bx {x : Pce} {a : List Pce} : Qp (x :: a) ↔ (x.Lead.length ≤ 1000000 ∧ x.Text.length ≤ 1000010) ∧ Qp a := ⟨fun h => ⟨h x (by simp), fun y hy => h y (by simp [hy])⟩, fun h y hy => by rcases List.mem_cons.1 hy with h1 | h1; subst h1; exact h.1; exact h.2 y h1⟩
theorem bJ : Qp [] := fun x hx => by cases hx
theorem bi {t : Tree} (k : Nat) (ht : tbulk t ≤ 1000000) : ∃ s, aj t (k : Int) s ∧ s.length ≤ 1000000 := by
  by_cases h : (k : Int) < (t.leads.length : Nat)
  · obtain ⟨s, hs, _⟩ | h' := aE t.leads k
    · have := pK hs
      have := bA t
      exact ⟨s, kI 0 _ _ _ ⟨fun _ => ⟨k, rfl, s, hs, rfl⟩, fun h' => absurd h h'⟩, by omega⟩
    · omega
  · exact ⟨[], kI 0 _ _ _ ⟨fun h' => absurd h' h, fun _ => rfl⟩, by simp⟩
def Pok (t : Tree) : Prop := ∀ l, l.length + 8 * tbulk t ≤ 900000000 → ∃ r, aA l t r ∧ r.length + 1 ≤ l.length + 8 * tbulk t ∧ (Qp l → Qp r)
theorem pw {k n : Int} : ∀ {l : List Tree} {i : Nat}, shapeKs k n i l = true → ∀ j u, l[j]? = some u → gO k n ((i + j : Nat) : Int) u.kind = true ∧ shapeK u = true
  | [], _, _, j, u, h => by simp at h
  | t :: r, i, hs, 0, u, h => by
    simp only [shapeKs, Bool.and_eq_true] at hs
    simp at h; subst h
    exact ⟨hs.1.1, hs.1.2⟩
  | t :: r, i, hs, j + 1, u, h => by
    simp only [shapeKs, Bool.and_eq_true] at hs
    have := pw hs.2 j u (by simpa using h)
    rw [show i + 1 + j = i + (j + 1) by omega] at this
    exact this
theorem ru {t u : Tree} {i : Nat} (hs : shapeK t = true) (hu : t.kids[i]? = some u) : shapeK u = true ∧ gO t.kind t.kids.length i u.kind = true := by
  rw [eS] at hs
  simp only [Bool.and_eq_true] at hs
  have := pw hs.2 i u hu
  rw [Nat.zero_add] at this
  exact ⟨this.2, this.1⟩
theorem oD {t : Tree} (hs : shapeK t = true) : 0 ≤ di t.kind t.kids.length := by
  rw [eS] at hs
  simp only [Bool.and_eq_true, decide_eq_true_eq] at hs
  exact hs.1.1
theorem eE {t : Tree} (hs : shapeK t = true) : (t.kind = 2 → 2 ≤ t.kids.length) ∧ (t.kind = 18 → 1 ≤ t.kids.length) ∧ (t.kind = 3 ∨ t.kind = 4 ∨ t.kind = 8 ∨ t.kind = 17 ∨ t.kind = 22 → t.kids.length = 1) ∧ (t.kind = 19 → t.kids.length = 3) ∧ (t.kind = 20 ∨ t.kind = 21 → t.kids.length = 2) := by
  have h := oD hs
  refine ⟨fun hk => ?_, fun hk => ?_, fun hk => ?_, fun hk => ?_, fun hk => ?_⟩
  · rw [hk] at h; simp only [di, f0] at h; simp at h; omega
  · rw [hk] at h; simp only [di, f0] at h; simp at h; omega
  · rcases hk with hk | hk | hk | hk | hk <;> (rw [hk] at h; simp only [di, f0] at h; simp at h; omega)
  · rw [hk] at h; simp only [di, f0] at h; simp at h; omega
  · rcases hk with hk | hk <;> (rw [hk] at h; simp only [di, f0] at h; simp at h; omega)
theorem p_5 {t : Tree} (hk : t.kind = 5) (ht : tbulk t ≤ 1000000) : Pok t := fun l hl => by
  obtain ⟨s1, g1, b1⟩ := bi 0 ht
  have htp := bn t
  have M := 0
  refine ⟨l ++ [⟨s1, [73, 110, 116]⟩], ?_, by simp; omega, fun hq => by simp only [bU, bx]; exact ⟨hq, ⟨b1, by decide⟩, bJ⟩⟩
  exact aC (M + 5) _ _ _ ⟨fun h => absurd (hk.symm.trans h) (by decide), fun _ => aD (M + 4) _ _ _ ⟨fun h => absurd (hk.symm.trans h) (by decide), fun _ => aF (M + 3) _ _ _ ⟨fun h => absurd (hk.symm.trans h) (by decide), fun _ => aJ (M + 2) _ _ _ ⟨fun h => absurd (hk.symm.trans h) (by decide), fun _ => aN (M + 1) _ _ _ ⟨fun _ => ⟨_, g1, by simp; omega, rfl⟩, fun h => absurd hk h⟩⟩⟩⟩⟩
theorem p_6 {t : Tree} (hk : t.kind = 6) (ht : tbulk t ≤ 1000000) : Pok t := fun l hl => by
  obtain ⟨s1, g1, b1⟩ := bi 0 ht
  have htp := bn t
  have M := 0
  refine ⟨l ++ [⟨s1, [84, 101, 120, 116]⟩], ?_, by simp; omega, fun hq => by simp only [bU, bx]; exact ⟨hq, ⟨b1, by decide⟩, bJ⟩⟩
  exact aC (M + 6) _ _ _ ⟨fun h => absurd (hk.symm.trans h) (by decide), fun _ => aD (M + 5) _ _ _ ⟨fun h => absurd (hk.symm.trans h) (by decide), fun _ => aF (M + 4) _ _ _ ⟨fun h => absurd (hk.symm.trans h) (by decide), fun _ => aJ (M + 3) _ _ _ ⟨fun h => absurd (hk.symm.trans h) (by decide), fun _ => aN (M + 2) _ _ _ ⟨fun h => absurd (hk.symm.trans h) (by decide), fun _ => aR (M + 1) _ _ _ ⟨fun _ => ⟨_, g1, by simp; omega, rfl⟩, fun h => absurd hk h⟩⟩⟩⟩⟩⟩
theorem p_7 {t : Tree} (hk : t.kind = 7) (ht : tbulk t ≤ 1000000) : Pok t := fun l hl => by
  obtain ⟨s1, g1, b1⟩ := bi 0 ht
  have htp := bn t
  have M := 0
  refine ⟨l ++ [⟨s1, [66, 111, 111, 108]⟩], ?_, by simp; omega, fun hq => by simp only [bU, bx]; exact ⟨hq, ⟨b1, by decide⟩, bJ⟩⟩
  exact aC (M + 7) _ _ _ ⟨fun h => absurd (hk.symm.trans h) (by decide), fun _ => aD (M + 6) _ _ _ ⟨fun h => absurd (hk.symm.trans h) (by decide), fun _ => aF (M + 5) _ _ _ ⟨fun h => absurd (hk.symm.trans h) (by decide), fun _ => aJ (M + 4) _ _ _ ⟨fun h => absurd (hk.symm.trans h) (by decide), fun _ => aN (M + 3) _ _ _ ⟨fun h => absurd (hk.symm.trans h) (by decide), fun _ => aR (M + 2) _ _ _ ⟨fun h => absurd (hk.symm.trans h) (by decide), fun _ => aS (M + 1) _ _ _ ⟨fun _ => ⟨_, g1, by simp; omega, rfl⟩, fun h => absurd hk h⟩⟩⟩⟩⟩⟩⟩
theorem BF {t : Tree} (hk : t.kind = 13) (ht : tbulk t ≤ 1000000) : Pok t := fun l hl => by
  obtain ⟨s1, g1, b1⟩ := bi 0 ht
  have htp := bn t
  have M := 0
  refine ⟨l ++ [⟨s1, [116, 114, 117, 101]⟩], ?_, by simp; omega, fun hq => by simp only [bU, bx]; exact ⟨hq, ⟨b1, by decide⟩, bJ⟩⟩
  exact aC (M + 8) _ _ _ ⟨fun h => absurd (hk.symm.trans h) (by decide), fun _ => aD (M + 7) _ _ _ ⟨fun h => absurd (hk.symm.trans h) (by decide), fun _ => aF (M + 6) _ _ _ ⟨fun h => absurd (hk.symm.trans h) (by decide), fun _ => aJ (M + 5) _ _ _ ⟨fun h => absurd (hk.symm.trans h) (by decide), fun _ => aN (M + 4) _ _ _ ⟨fun h => absurd (hk.symm.trans h) (by decide), fun _ => aR (M + 3) _ _ _ ⟨fun h => absurd (hk.symm.trans h) (by decide), fun _ => aS (M + 2) _ _ _ ⟨fun h => absurd (hk.symm.trans h) (by decide), fun _ => aT (M + 1) _ _ _ ⟨fun _ => ⟨_, g1, by simp; omega, rfl⟩, fun h => absurd hk h⟩⟩⟩⟩⟩⟩⟩⟩
theorem BP {t : Tree} (hk : t.kind = 14) (ht : tbulk t ≤ 1000000) : Pok t := fun l hl => by
  obtain ⟨s1, g1, b1⟩ := bi 0 ht
  have htp := bn t
  have M := 0
  refine ⟨l ++ [⟨s1, [102, 97, 108, 115, 101]⟩], ?_, by simp; omega, fun hq => by simp only [bU, bx]; exact ⟨hq, ⟨b1, by decide⟩, bJ⟩⟩
  exact aC (M + 9) _ _ _ ⟨fun h => absurd (hk.symm.trans h) (by decide), fun _ => aD (M + 8) _ _ _ ⟨fun h => absurd (hk.symm.trans h) (by decide), fun _ => aF (M + 7) _ _ _ ⟨fun h => absurd (hk.symm.trans h) (by decide), fun _ => aJ (M + 6) _ _ _ ⟨fun h => absurd (hk.symm.trans h) (by decide), fun _ => aN (M + 5) _ _ _ ⟨fun h => absurd (hk.symm.trans h) (by decide), fun _ => aR (M + 4) _ _ _ ⟨fun h => absurd (hk.symm.trans h) (by decide), fun _ => aS (M + 3) _ _ _ ⟨fun h => absurd (hk.symm.trans h) (by decide), fun _ => aT (M + 2) _ _ _ ⟨fun h => absurd (hk.symm.trans h) (by decide), fun _ => aY (M + 1) _ _ _ ⟨fun _ => ⟨_, g1, by simp; omega, rfl⟩, fun h => absurd hk h⟩⟩⟩⟩⟩⟩⟩⟩⟩
theorem BK {t : Tree} (hk : t.kind = 15) (ht : tbulk t ≤ 1000000) : Pok t := fun l hl => by
  obtain ⟨s1, g1, b1⟩ := bi 0 ht
  have htp := bn t
  have M := 0
  refine ⟨l ++ [⟨s1, [63]⟩], ?_, by simp; omega, fun hq => by simp only [bU, bx]; exact ⟨hq, ⟨b1, by decide⟩, bJ⟩⟩
  exact aC (M + 10) _ _ _ ⟨fun h => absurd (hk.symm.trans h) (by decide), fun _ => aD (M + 9) _ _ _ ⟨fun h => absurd (hk.symm.trans h) (by decide), fun _ => aF (M + 8) _ _ _ ⟨fun h => absurd (hk.symm.trans h) (by decide), fun _ => aJ (M + 7) _ _ _ ⟨fun h => absurd (hk.symm.trans h) (by decide), fun _ => aN (M + 6) _ _ _ ⟨fun h => absurd (hk.symm.trans h) (by decide), fun _ => aR (M + 5) _ _ _ ⟨fun h => absurd (hk.symm.trans h) (by decide), fun _ => aS (M + 4) _ _ _ ⟨fun h => absurd (hk.symm.trans h) (by decide), fun _ => aT (M + 3) _ _ _ ⟨fun h => absurd (hk.symm.trans h) (by decide), fun _ => aY (M + 2) _ _ _ ⟨fun h => absurd (hk.symm.trans h) (by decide), fun _ => be (M + 1) _ _ _ ⟨fun _ => ⟨_, g1, by simp; omega, rfl⟩, fun h => absurd hk h⟩⟩⟩⟩⟩⟩⟩⟩⟩⟩
theorem nl {l : List Tree} {u : Tree} (h0 : l[0]? = some u) : tbulk u ≤ kbulk l := jU h0
theorem qX {l : List Tree} {u v : Tree} (h0 : l[0]? = some u) (h1 : l[1]? = some v) : tbulk u + tbulk v ≤ kbulk l := by
  match l, h0, h1 with
  | a :: r, h0, h1 => simp at h0; subst h0; have := jU (ks := r) (i := 0) (by simpa using h1); simp only [kbulk]; omega
theorem zd {l : List Tree} {u v x : Tree} (h0 : l[0]? = some u) (h1 : l[1]? = some v) (h2 : l[2]? = some x) : tbulk u + tbulk v + tbulk x ≤ kbulk l := by
  match l, h0, h1, h2 with
  | a :: r, h0, h1, h2 => simp at h0; subst h0; have := qX (l := r) (by simpa using h1) (by simpa using h2); simp only [kbulk]; omega
theorem p_3 {t : Tree} (hk : t.kind = 3) (hs : shapeK t = true) (ht : tbulk t ≤ 1000000) (ih : ∀ (i : Nat) (u : Tree), t.kids[i]? = some u → Pok u) : Pok t := fun l hl => by
  have htp := bn t
  have htx := cW t
  have hn := eE hs
  have M := 0
  have hkn : t.kids.length = 1 := hn.2.2.1 (by simp [hk])
  obtain ⟨u0, hu0, _⟩ | h' := aE t.kids 0
  rotate_left
  · omega
  have hsum : tbulk u0 + 1 ≤ tbulk t := by
    have hb := bA t
    have hx := nl hu0
    omega
  obtain ⟨s1, g1, b1⟩ := bi 0 ht
  obtain ⟨s2, g2, b2⟩ := bi 1 ht
  obtain ⟨s3, g3, b3⟩ := bi 2 ht
  have q1 : Qp l → Qp (l ++ [⟨s1, [116, 121, 112, 101]⟩, ⟨s2, t.text⟩, ⟨s3, [61]⟩]) := fun hq => by simp only [bU, bx]; exact ⟨hq, ⟨b1, by decide⟩, ⟨b2, by omega⟩, ⟨b3, by decide⟩, bJ⟩
  obtain ⟨r0, e0, z0, y0⟩ := ih 0 u0 hu0 (l ++ [⟨s1, [116, 121, 112, 101]⟩, ⟨s2, t.text⟩, ⟨s3, [61]⟩]) (by first | omega | (simp only [List.length_append, List.length_cons, List.length_nil]; omega))
  try simp only [List.length_append, List.length_cons, List.length_nil] at z0
  refine ⟨r0, ?_, by first | omega | (simp only [List.length_append, List.length_cons, List.length_nil]; omega), fun hq => (y0 (q1 hq))⟩
  exact aC (M + 3) _ _ _ ⟨fun h => absurd (hk.symm.trans h) (by decide), fun _ => aD (M + 2) _ _ _ ⟨fun h => absurd (hk.symm.trans h) (by decide), fun _ => aF (M + 1) _ _ _ ⟨fun _ => mN (M) _ _ _ ⟨_, g1, _, g2, _, g3, by simp; omega, u0, hu0, _, e0, rfl⟩, fun h => absurd hk h⟩⟩⟩
theorem p_4 {t : Tree} (hk : t.kind = 4) (hs : shapeK t = true) (ht : tbulk t ≤ 1000000) (ih : ∀ (i : Nat) (u : Tree), t.kids[i]? = some u → Pok u) : Pok t := fun l hl => by
  have htp := bn t
  have htx := cW t
  have hn := eE hs
  have M := 0
  have hkn : t.kids.length = 1 := hn.2.2.1 (by simp [hk])
  obtain ⟨u0, hu0, _⟩ | h' := aE t.kids 0
  rotate_left
  · omega
  have hsum : tbulk u0 + 1 ≤ tbulk t := by
    have hb := bA t
    have hx := nl hu0
    omega
  obtain ⟨s1, g1, b1⟩ := bi 0 ht
  obtain ⟨s2, g2, b2⟩ := bi 1 ht
  have q1 : Qp l → Qp (l ++ [⟨s1, t.text⟩, ⟨s2, [58]⟩]) := fun hq => by simp only [bU, bx]; exact ⟨hq, ⟨b1, by omega⟩, ⟨b2, by decide⟩, bJ⟩
  obtain ⟨r0, e0, z0, y0⟩ := ih 0 u0 hu0 (l ++ [⟨s1, t.text⟩, ⟨s2, [58]⟩]) (by first | omega | (simp only [List.length_append, List.length_cons, List.length_nil]; omega))
  try simp only [List.length_append, List.length_cons, List.length_nil] at z0
  refine ⟨r0, ?_, by first | omega | (simp only [List.length_append, List.length_cons, List.length_nil]; omega), fun hq => (y0 (q1 hq))⟩
  exact aC (M + 4) _ _ _ ⟨fun h => absurd (hk.symm.trans h) (by decide), fun _ => aD (M + 3) _ _ _ ⟨fun h => absurd (hk.symm.trans h) (by decide), fun _ => aF (M + 2) _ _ _ ⟨fun h => absurd (hk.symm.trans h) (by decide), fun _ => aJ (M + 1) _ _ _ ⟨fun _ => mS (M) _ _ _ ⟨_, g1, _, g2, by simp; omega, u0, hu0, _, e0, rfl⟩, fun h => absurd hk h⟩⟩⟩⟩
theorem p_8 {t : Tree} (hk : t.kind = 8) (hs : shapeK t = true) (ht : tbulk t ≤ 1000000) (ih : ∀ (i : Nat) (u : Tree), t.kids[i]? = some u → Pok u) : Pok t := fun l hl => by
  have htp := bn t
  have htx := cW t
  have hn := eE hs
  have M := 0
  have hkn : t.kids.length = 1 := hn.2.2.1 (by simp [hk])
  obtain ⟨u0, hu0, _⟩ | h' := aE t.kids 0
  rotate_left
  · omega
  have hsum : tbulk u0 + 1 ≤ tbulk t := by
    have hb := bA t
    have hx := nl hu0
    omega
  obtain ⟨s1, g1, b1⟩ := bi 0 ht
  have q1 : Qp l → Qp (l ++ [⟨s1, [91]⟩]) := fun hq => by simp only [bU, bx]; exact ⟨hq, ⟨b1, by decide⟩, bJ⟩
  obtain ⟨r0, e0, z0, y0⟩ := ih 0 u0 hu0 (l ++ [⟨s1, [91]⟩]) (by first | omega | (simp only [List.length_append, List.length_cons, List.length_nil]; omega))
  try simp only [List.length_append, List.length_cons, List.length_nil] at z0
  obtain ⟨s2, g2, b2⟩ := bi 1 ht
  have q3 : Qp r0 → Qp (r0 ++ [⟨s2, [93]⟩]) := fun hq => by simp only [bU, bx]; exact ⟨hq, ⟨b2, by decide⟩, bJ⟩
  refine ⟨(r0 ++ [⟨s2, [93]⟩]), ?_, by first | omega | (simp only [List.length_append, List.length_cons, List.length_nil]; omega), fun hq => (q3 (y0 (q1 hq)))⟩
  exact aC (M + 11) _ _ _ ⟨fun h => absurd (hk.symm.trans h) (by decide), fun _ => aD (M + 10) _ _ _ ⟨fun h => absurd (hk.symm.trans h) (by decide), fun _ => aF (M + 9) _ _ _ ⟨fun h => absurd (hk.symm.trans h) (by decide), fun _ => aJ (M + 8) _ _ _ ⟨fun h => absurd (hk.symm.trans h) (by decide), fun _ => aN (M + 7) _ _ _ ⟨fun h => absurd (hk.symm.trans h) (by decide), fun _ => aR (M + 6) _ _ _ ⟨fun h => absurd (hk.symm.trans h) (by decide), fun _ => aS (M + 5) _ _ _ ⟨fun h => absurd (hk.symm.trans h) (by decide), fun _ => aT (M + 4) _ _ _ ⟨fun h => absurd (hk.symm.trans h) (by decide), fun _ => aY (M + 3) _ _ _ ⟨fun h => absurd (hk.symm.trans h) (by decide), fun _ => be (M + 2) _ _ _ ⟨fun h => absurd (hk.symm.trans h) (by decide), fun _ => bo (M + 1) _ _ _ ⟨fun _ => ml (M) _ _ _ ⟨_, g1, by simp; omega, u0, hu0, _, e0, _, g2, by simp; omega, rfl⟩, fun h => absurd hk h⟩⟩⟩⟩⟩⟩⟩⟩⟩⟩⟩
theorem BA {t : Tree} (hk : t.kind = 17) (hs : shapeK t = true) (ht : tbulk t ≤ 1000000) (ih : ∀ (i : Nat) (u : Tree), t.kids[i]? = some u → Pok u) : Pok t := fun l hl => by
  have htp := bn t
  have htx := cW t
  have hn := eE hs
  have M := 0
  have hkn : t.kids.length = 1 := hn.2.2.1 (by simp [hk])
  obtain ⟨u0, hu0, _⟩ | h' := aE t.kids 0
  rotate_left
  · omega
  have hsum : tbulk u0 + 1 ≤ tbulk t := by
    have hb := bA t
    have hx := nl hu0
    omega
  obtain ⟨r0, e0, z0, y0⟩ := ih 0 u0 hu0 l (by first | omega | (simp only [List.length_append, List.length_cons, List.length_nil]; omega))
  try simp only [List.length_append, List.length_cons, List.length_nil] at z0
  refine ⟨r0, ?_, by first | omega | (simp only [List.length_append, List.length_cons, List.length_nil]; omega), fun hq => (y0 hq)⟩
  exact aC (M + 13) _ _ _ ⟨fun h => absurd (hk.symm.trans h) (by decide), fun _ => aD (M + 12) _ _ _ ⟨fun h => absurd (hk.symm.trans h) (by decide), fun _ => aF (M + 11) _ _ _ ⟨fun h => absurd (hk.symm.trans h) (by decide), fun _ => aJ (M + 10) _ _ _ ⟨fun h => absurd (hk.symm.trans h) (by decide), fun _ => aN (M + 9) _ _ _ ⟨fun h => absurd (hk.symm.trans h) (by decide), fun _ => aR (M + 8) _ _ _ ⟨fun h => absurd (hk.symm.trans h) (by decide), fun _ => aS (M + 7) _ _ _ ⟨fun h => absurd (hk.symm.trans h) (by decide), fun _ => aT (M + 6) _ _ _ ⟨fun h => absurd (hk.symm.trans h) (by decide), fun _ => aY (M + 5) _ _ _ ⟨fun h => absurd (hk.symm.trans h) (by decide), fun _ => be (M + 4) _ _ _ ⟨fun h => absurd (hk.symm.trans h) (by decide), fun _ => bo (M + 3) _ _ _ ⟨fun h => absurd (hk.symm.trans h) (by decide), fun _ => bD (M + 2) _ _ _ ⟨fun h => absurd (hk.symm.trans h) (by decide), fun _ => bN (M + 1) _ _ _ ⟨fun _ => ⟨u0, hu0, _, e0, rfl⟩, fun h => absurd hk h⟩⟩⟩⟩⟩⟩⟩⟩⟩⟩⟩⟩⟩
theorem BC {t : Tree} (hk : t.kind = 19) (hs : shapeK t = true) (ht : tbulk t ≤ 1000000) (ih : ∀ (i : Nat) (u : Tree), t.kids[i]? = some u → Pok u) : Pok t := fun l hl => by
  have htp := bn t
  have htx := cW t
  have hn := eE hs
  have M := 0
  have hkn : t.kids.length = 3 := hn.2.2.2.1 hk
  obtain ⟨u0, hu0, _⟩ | h' := aE t.kids 0
  rotate_left
  · omega
  obtain ⟨u1, hu1, _⟩ | h' := aE t.kids 1
  rotate_left
  · omega
  obtain ⟨u2, hu2, _⟩ | h' := aE t.kids 2
  rotate_left
  · omega
  have hsum : tbulk u0 + tbulk u1 + tbulk u2 + 1 ≤ tbulk t := by
    have hb := bA t
    have hx := zd hu0 hu1 hu2
    omega
  obtain ⟨s1, g1, b1⟩ := bi 0 ht
  have q1 : Qp l → Qp (l ++ [⟨s1, [105, 102]⟩]) := fun hq => by simp only [bU, bx]; exact ⟨hq, ⟨b1, by decide⟩, bJ⟩
  obtain ⟨r0, e0, z0, y0⟩ := ih 0 u0 hu0 (l ++ [⟨s1, [105, 102]⟩]) (by first | omega | (simp only [List.length_append, List.length_cons, List.length_nil]; omega))
  try simp only [List.length_append, List.length_cons, List.length_nil] at z0
  obtain ⟨s2, g2, b2⟩ := bi 1 ht
  have q3 : Qp r0 → Qp (r0 ++ [⟨s2, [116, 104, 101, 110]⟩]) := fun hq => by simp only [bU, bx]; exact ⟨hq, ⟨b2, by decide⟩, bJ⟩
  obtain ⟨r1, e1, z1, y1⟩ := ih 1 u1 hu1 (r0 ++ [⟨s2, [116, 104, 101, 110]⟩]) (by first | omega | (simp only [List.length_append, List.length_cons, List.length_nil]; omega))
  try simp only [List.length_append, List.length_cons, List.length_nil] at z1
  obtain ⟨s3, g3, b3⟩ := bi 2 ht
  have q5 : Qp r1 → Qp (r1 ++ [⟨s3, [101, 108, 115, 101]⟩]) := fun hq => by simp only [bU, bx]; exact ⟨hq, ⟨b3, by decide⟩, bJ⟩
  obtain ⟨r2, e2, z2, y2⟩ := ih 2 u2 hu2 (r1 ++ [⟨s3, [101, 108, 115, 101]⟩]) (by first | omega | (simp only [List.length_append, List.length_cons, List.length_nil]; omega))
  try simp only [List.length_append, List.length_cons, List.length_nil] at z2
  refine ⟨r2, ?_, by first | omega | (simp only [List.length_append, List.length_cons, List.length_nil]; omega), fun hq => (y2 (q5 (y1 (q3 (y0 (q1 hq))))))⟩
  exact aC (M + 15) _ _ _ ⟨fun h => absurd (hk.symm.trans h) (by decide), fun _ => aD (M + 14) _ _ _ ⟨fun h => absurd (hk.symm.trans h) (by decide), fun _ => aF (M + 13) _ _ _ ⟨fun h => absurd (hk.symm.trans h) (by decide), fun _ => aJ (M + 12) _ _ _ ⟨fun h => absurd (hk.symm.trans h) (by decide), fun _ => aN (M + 11) _ _ _ ⟨fun h => absurd (hk.symm.trans h) (by decide), fun _ => aR (M + 10) _ _ _ ⟨fun h => absurd (hk.symm.trans h) (by decide), fun _ => aS (M + 9) _ _ _ ⟨fun h => absurd (hk.symm.trans h) (by decide), fun _ => aT (M + 8) _ _ _ ⟨fun h => absurd (hk.symm.trans h) (by decide), fun _ => aY (M + 7) _ _ _ ⟨fun h => absurd (hk.symm.trans h) (by decide), fun _ => be (M + 6) _ _ _ ⟨fun h => absurd (hk.symm.trans h) (by decide), fun _ => bo (M + 5) _ _ _ ⟨fun h => absurd (hk.symm.trans h) (by decide), fun _ => bD (M + 4) _ _ _ ⟨fun h => absurd (hk.symm.trans h) (by decide), fun _ => bN (M + 3) _ _ _ ⟨fun h => absurd (hk.symm.trans h) (by decide), fun _ => ch (M + 2) _ _ _ ⟨fun h => absurd (hk.symm.trans h) (by decide), fun _ => cR (M + 1) _ _ _ ⟨fun _ => mj (M) _ _ _ ⟨u0, hu0, _, g1, by simp; omega, _, e0, u1, hu1, _, g2, by simp; omega, _, e1, u2, hu2, _, g3, by simp; omega, _, e2, rfl⟩, fun h => absurd hk h⟩⟩⟩⟩⟩⟩⟩⟩⟩⟩⟩⟩⟩⟩⟩
theorem BB {t : Tree} (hk : t.kind = 20) (hs : shapeK t = true) (ht : tbulk t ≤ 1000000) (ih : ∀ (i : Nat) (u : Tree), t.kids[i]? = some u → Pok u) : Pok t := fun l hl => by
  have htp := bn t
  have htx := cW t
  have hn := eE hs
  have M := 0
  have hkn : t.kids.length = 2 := hn.2.2.2.2 (by simp [hk])
  obtain ⟨u0, hu0, _⟩ | h' := aE t.kids 0
  rotate_left
  · omega
  obtain ⟨u1, hu1, _⟩ | h' := aE t.kids 1
  rotate_left
  · omega
  have hsum : tbulk u0 + tbulk u1 + 1 ≤ tbulk t := by
    have hb := bA t
    have hx := qX hu0 hu1
    omega
  obtain ⟨s1, g1, b1⟩ := bi 0 ht
  obtain ⟨s2, g2, b2⟩ := bi 1 ht
  obtain ⟨s3, g3, b3⟩ := bi 2 ht
  have q1 : Qp l → Qp (l ++ [⟨s1, [108, 101, 116]⟩, ⟨s2, t.text⟩, ⟨s3, [61]⟩]) := fun hq => by simp only [bU, bx]; exact ⟨hq, ⟨b1, by decide⟩, ⟨b2, by omega⟩, ⟨b3, by decide⟩, bJ⟩
  obtain ⟨r0, e0, z0, y0⟩ := ih 0 u0 hu0 (l ++ [⟨s1, [108, 101, 116]⟩, ⟨s2, t.text⟩, ⟨s3, [61]⟩]) (by first | omega | (simp only [List.length_append, List.length_cons, List.length_nil]; omega))
  try simp only [List.length_append, List.length_cons, List.length_nil] at z0
  obtain ⟨s4, g4, b4⟩ := bi 3 ht
  have q3 : Qp r0 → Qp (r0 ++ [⟨s4, [105, 110]⟩]) := fun hq => by simp only [bU, bx]; exact ⟨hq, ⟨b4, by decide⟩, bJ⟩
  obtain ⟨r1, e1, z1, y1⟩ := ih 1 u1 hu1 (r0 ++ [⟨s4, [105, 110]⟩]) (by first | omega | (simp only [List.length_append, List.length_cons, List.length_nil]; omega))
  try simp only [List.length_append, List.length_cons, List.length_nil] at z1
  refine ⟨r1, ?_, by first | omega | (simp only [List.length_append, List.length_cons, List.length_nil]; omega), fun hq => (y1 (q3 (y0 (q1 hq))))⟩
  exact aC (M + 16) _ _ _ ⟨fun h => absurd (hk.symm.trans h) (by decide), fun _ => aD (M + 15) _ _ _ ⟨fun h => absurd (hk.symm.trans h) (by decide), fun _ => aF (M + 14) _ _ _ ⟨fun h => absurd (hk.symm.trans h) (by decide), fun _ => aJ (M + 13) _ _ _ ⟨fun h => absurd (hk.symm.trans h) (by decide), fun _ => aN (M + 12) _ _ _ ⟨fun h => absurd (hk.symm.trans h) (by decide), fun _ => aR (M + 11) _ _ _ ⟨fun h => absurd (hk.symm.trans h) (by decide), fun _ => aS (M + 10) _ _ _ ⟨fun h => absurd (hk.symm.trans h) (by decide), fun _ => aT (M + 9) _ _ _ ⟨fun h => absurd (hk.symm.trans h) (by decide), fun _ => aY (M + 8) _ _ _ ⟨fun h => absurd (hk.symm.trans h) (by decide), fun _ => be (M + 7) _ _ _ ⟨fun h => absurd (hk.symm.trans h) (by decide), fun _ => bo (M + 6) _ _ _ ⟨fun h => absurd (hk.symm.trans h) (by decide), fun _ => bD (M + 5) _ _ _ ⟨fun h => absurd (hk.symm.trans h) (by decide), fun _ => bN (M + 4) _ _ _ ⟨fun h => absurd (hk.symm.trans h) (by decide), fun _ => ch (M + 3) _ _ _ ⟨fun h => absurd (hk.symm.trans h) (by decide), fun _ => cR (M + 2) _ _ _ ⟨fun h => absurd (hk.symm.trans h) (by decide), fun _ => dP (M + 1) _ _ _ ⟨fun _ => mg (M) _ _ _ ⟨_, g1, _, g2, _, g3, by simp; omega, u0, hu0, _, e0, _, g4, by simp; omega, u1, hu1, _, e1, rfl⟩, fun h => absurd hk h⟩⟩⟩⟩⟩⟩⟩⟩⟩⟩⟩⟩⟩⟩⟩⟩
theorem BQ {t : Tree} (hk : t.kind = 21) (hs : shapeK t = true) (ht : tbulk t ≤ 1000000) (ih : ∀ (i : Nat) (u : Tree), t.kids[i]? = some u → Pok u) : Pok t := fun l hl => by
  have htp := bn t
  have htx := cW t
  have hn := eE hs
  have M := 0
  have hkn : t.kids.length = 2 := hn.2.2.2.2 (by simp [hk])
  obtain ⟨u0, hu0, _⟩ | h' := aE t.kids 0
  rotate_left
  · omega
  obtain ⟨u1, hu1, _⟩ | h' := aE t.kids 1
  rotate_left
  · omega
  have hsum : tbulk u0 + tbulk u1 + 1 ≤ tbulk t := by
    have hb := bA t
    have hx := qX hu0 hu1
    omega
  obtain ⟨r0, e0, z0, y0⟩ := ih 0 u0 hu0 l (by first | omega | (simp only [List.length_append, List.length_cons, List.length_nil]; omega))
  try simp only [List.length_append, List.length_cons, List.length_nil] at z0
  obtain ⟨s1, g1, b1⟩ := bi 0 ht
  have q2 : Qp r0 → Qp (r0 ++ [⟨s1, t.text⟩]) := fun hq => by simp only [bU, bx]; exact ⟨hq, ⟨b1, by omega⟩, bJ⟩
  obtain ⟨r1, e1, z1, y1⟩ := ih 1 u1 hu1 (r0 ++ [⟨s1, t.text⟩]) (by first | omega | (simp only [List.length_append, List.length_cons, List.length_nil]; omega))
  try simp only [List.length_append, List.length_cons, List.length_nil] at z1
  refine ⟨r1, ?_, by first | omega | (simp only [List.length_append, List.length_cons, List.length_nil]; omega), fun hq => (y1 (q2 (y0 hq)))⟩
  exact aC (M + 17) _ _ _ ⟨fun h => absurd (hk.symm.trans h) (by decide), fun _ => aD (M + 16) _ _ _ ⟨fun h => absurd (hk.symm.trans h) (by decide), fun _ => aF (M + 15) _ _ _ ⟨fun h => absurd (hk.symm.trans h) (by decide), fun _ => aJ (M + 14) _ _ _ ⟨fun h => absurd (hk.symm.trans h) (by decide), fun _ => aN (M + 13) _ _ _ ⟨fun h => absurd (hk.symm.trans h) (by decide), fun _ => aR (M + 12) _ _ _ ⟨fun h => absurd (hk.symm.trans h) (by decide), fun _ => aS (M + 11) _ _ _ ⟨fun h => absurd (hk.symm.trans h) (by decide), fun _ => aT (M + 10) _ _ _ ⟨fun h => absurd (hk.symm.trans h) (by decide), fun _ => aY (M + 9) _ _ _ ⟨fun h => absurd (hk.symm.trans h) (by decide), fun _ => be (M + 8) _ _ _ ⟨fun h => absurd (hk.symm.trans h) (by decide), fun _ => bo (M + 7) _ _ _ ⟨fun h => absurd (hk.symm.trans h) (by decide), fun _ => bD (M + 6) _ _ _ ⟨fun h => absurd (hk.symm.trans h) (by decide), fun _ => bN (M + 5) _ _ _ ⟨fun h => absurd (hk.symm.trans h) (by decide), fun _ => ch (M + 4) _ _ _ ⟨fun h => absurd (hk.symm.trans h) (by decide), fun _ => cR (M + 3) _ _ _ ⟨fun h => absurd (hk.symm.trans h) (by decide), fun _ => dP (M + 2) _ _ _ ⟨fun h => absurd (hk.symm.trans h) (by decide), fun _ => fv (M + 1) _ _ _ ⟨fun _ => mc (M) _ _ _ ⟨u0, hu0, _, e0, _, g1, by simp; omega, u1, hu1, _, e1, rfl⟩, fun h => absurd hk h⟩⟩⟩⟩⟩⟩⟩⟩⟩⟩⟩⟩⟩⟩⟩⟩⟩
theorem BM {t : Tree} (hk : t.kind = 22) (hs : shapeK t = true) (ht : tbulk t ≤ 1000000) (ih : ∀ (i : Nat) (u : Tree), t.kids[i]? = some u → Pok u) : Pok t := fun l hl => by
  have htp := bn t
  have htx := cW t
  have hn := eE hs
  have M := 0
  have hkn : t.kids.length = 1 := hn.2.2.1 (by simp [hk])
  obtain ⟨u0, hu0, _⟩ | h' := aE t.kids 0
  rotate_left
  · omega
  have hsum : tbulk u0 + 1 ≤ tbulk t := by
    have hb := bA t
    have hx := nl hu0
    omega
  obtain ⟨s1, g1, b1⟩ := bi 0 ht
  have q1 : Qp l → Qp (l ++ [⟨s1, [40]⟩]) := fun hq => by simp only [bU, bx]; exact ⟨hq, ⟨b1, by decide⟩, bJ⟩
  obtain ⟨r0, e0, z0, y0⟩ := ih 0 u0 hu0 (l ++ [⟨s1, [40]⟩]) (by first | omega | (simp only [List.length_append, List.length_cons, List.length_nil]; omega))
  try simp only [List.length_append, List.length_cons, List.length_nil] at z0
  obtain ⟨s2, g2, b2⟩ := bi 1 ht
  have q3 : Qp r0 → Qp (r0 ++ [⟨s2, [41]⟩]) := fun hq => by simp only [bU, bx]; exact ⟨hq, ⟨b2, by decide⟩, bJ⟩
  refine ⟨(r0 ++ [⟨s2, [41]⟩]), ?_, by first | omega | (simp only [List.length_append, List.length_cons, List.length_nil]; omega), fun hq => (q3 (y0 (q1 hq)))⟩
  exact aC (M + 18) _ _ _ ⟨fun h => absurd (hk.symm.trans h) (by decide), fun _ => aD (M + 17) _ _ _ ⟨fun h => absurd (hk.symm.trans h) (by decide), fun _ => aF (M + 16) _ _ _ ⟨fun h => absurd (hk.symm.trans h) (by decide), fun _ => aJ (M + 15) _ _ _ ⟨fun h => absurd (hk.symm.trans h) (by decide), fun _ => aN (M + 14) _ _ _ ⟨fun h => absurd (hk.symm.trans h) (by decide), fun _ => aR (M + 13) _ _ _ ⟨fun h => absurd (hk.symm.trans h) (by decide), fun _ => aS (M + 12) _ _ _ ⟨fun h => absurd (hk.symm.trans h) (by decide), fun _ => aT (M + 11) _ _ _ ⟨fun h => absurd (hk.symm.trans h) (by decide), fun _ => aY (M + 10) _ _ _ ⟨fun h => absurd (hk.symm.trans h) (by decide), fun _ => be (M + 9) _ _ _ ⟨fun h => absurd (hk.symm.trans h) (by decide), fun _ => bo (M + 8) _ _ _ ⟨fun h => absurd (hk.symm.trans h) (by decide), fun _ => bD (M + 7) _ _ _ ⟨fun h => absurd (hk.symm.trans h) (by decide), fun _ => bN (M + 6) _ _ _ ⟨fun h => absurd (hk.symm.trans h) (by decide), fun _ => ch (M + 5) _ _ _ ⟨fun h => absurd (hk.symm.trans h) (by decide), fun _ => cR (M + 4) _ _ _ ⟨fun h => absurd (hk.symm.trans h) (by decide), fun _ => dP (M + 3) _ _ _ ⟨fun h => absurd (hk.symm.trans h) (by decide), fun _ => fv (M + 2) _ _ _ ⟨fun h => absurd (hk.symm.trans h) (by decide), fun _ => iV (M + 1) _ _ _ ⟨fun _ => ma (M) _ _ _ ⟨_, g1, by simp; omega, u0, hu0, _, e0, _, g2, by simp; omega, rfl⟩, fun h => absurd hk h⟩⟩⟩⟩⟩⟩⟩⟩⟩⟩⟩⟩⟩⟩⟩⟩⟩⟩
theorem AI {t : Tree} (hn : ∀ c : Int, c ∈ [(1 : Int), 2, 3, 4, 5, 6, 7, 13, 14, 15, 8, 16, 17, 18, 19, 20, 21, 22] → t.kind ≠ c) (ht : tbulk t ≤ 1000000) : Pok t := fun l hl => by
  obtain ⟨s1, g1, b1⟩ := bi 0 ht
  have htp := bn t
  have htx := cW t
  have M := 0
  refine ⟨l ++ [⟨s1, t.text⟩], ?_, by simp; omega, fun hq => by simp only [bU, bx]; exact ⟨hq, ⟨b1, by omega⟩, bJ⟩⟩
  exact aC (M + 18) _ _ _ ⟨fun h => absurd h (hn 1 (by decide)), fun _ => aD (M + 17) _ _ _ ⟨fun h => absurd h (hn 2 (by decide)), fun _ => aF (M + 16) _ _ _ ⟨fun h => absurd h (hn 3 (by decide)), fun _ => aJ (M + 15) _ _ _ ⟨fun h => absurd h (hn 4 (by decide)), fun _ => aN (M + 14) _ _ _ ⟨fun h => absurd h (hn 5 (by decide)), fun _ => aR (M + 13) _ _ _ ⟨fun h => absurd h (hn 6 (by decide)), fun _ => aS (M + 12) _ _ _ ⟨fun h => absurd h (hn 7 (by decide)), fun _ => aT (M + 11) _ _ _ ⟨fun h => absurd h (hn 13 (by decide)), fun _ => aY (M + 10) _ _ _ ⟨fun h => absurd h (hn 14 (by decide)), fun _ => be (M + 9) _ _ _ ⟨fun h => absurd h (hn 15 (by decide)), fun _ => bo (M + 8) _ _ _ ⟨fun h => absurd h (hn 8 (by decide)), fun _ => bD (M + 7) _ _ _ ⟨fun h => absurd h (hn 16 (by decide)), fun _ => bN (M + 6) _ _ _ ⟨fun h => absurd h (hn 17 (by decide)), fun _ => ch (M + 5) _ _ _ ⟨fun h => absurd h (hn 18 (by decide)), fun _ => cR (M + 4) _ _ _ ⟨fun h => absurd h (hn 19 (by decide)), fun _ => dP (M + 3) _ _ _ ⟨fun h => absurd h (hn 20 (by decide)), fun _ => fv (M + 2) _ _ _ ⟨fun h => absurd h (hn 21 (by decide)), fun _ => iV (M + 1) _ _ _ ⟨fun h => absurd h (hn 22 (by decide)), fun _ => ⟨_, g1, by simp; omega, rfl⟩⟩⟩⟩⟩⟩⟩⟩⟩⟩⟩⟩⟩⟩⟩⟩⟩⟩⟩
theorem vh {t : Tree} (ht : tbulk t ≤ 1000000) (ih : ∀ (i : Nat) (u : Tree), t.kids[i]? = some u → Pok u) (n comma : Nat) (hn : n ≤ t.kids.length) (hc : comma ≤ 10) : ∀ l, l.length + 8 * kbulk (t.kids.take n) ≤ 899999999 → ∃ r, dH l t 0 (n : Int) (comma : Int) r ∧ r.length ≤ l.length + 8 * kbulk (t.kids.take n) ∧ (Qp l → Qp r) := by
  have hk := cv t
  have loop : ∀ k i l, n - i ≤ k → i ≤ n → l.length + 8 * kbulk ((t.kids.take n).drop i) ≤ 899999999 → ∃ r, d6 (k + 1) t 0 (n : Int) (comma : Int) l (i : Int) r ∧ r.length ≤ l.length + 8 * kbulk ((t.kids.take n).drop i) ∧ (Qp l → Qp r) := fun k => by
    induction k with
    | zero =>
      intro i l hi hle hl
      exact ⟨l, fe 0 _ _ _ _ _ _ _ ⟨fun h => by omega, fun _ => rfl⟩, by omega, fun h => h⟩
    | succ k ihk =>
      intro i l hi hle hl
      by_cases hin : i < n
      · obtain ⟨u, hu, hul⟩ | h' := aE t.kids i
        · have hu' : (t.kids.take n)[i]? = some u := by rw [List.getElem?_take, if_pos hin]; exact hu
          have hd := ci hu'
          rw [hd, kbulk] at hl ⊢
          have hup := bn u
          by_cases h0 : 0 < i
          · obtain ⟨s, g, b⟩ := bi (t := t) (comma + i - 1) ht
            have g' : aj t ((((comma : Int) + (i : Int)) - 0) - 1) s := by rw [show (((comma : Int) + (i : Int)) - 0) - 1 = ((comma + i - 1 : Nat) : Int) by omega]; exact g
            obtain ⟨r, e, z, y⟩ := ih i u hu (l ++ [⟨s, [44]⟩]) (by simp; omega)
            simp only [List.length_append, List.length_cons, List.length_nil] at z
            obtain ⟨r2, e2, z2, y2⟩ := ihk (i + 1) r (by omega) (by omega) (by omega)
            refine ⟨r2, fe (k + 1) _ _ _ _ _ _ _ ⟨fun _ => ⟨fun _ => ⟨by omega, by omega, by omega, s, g', by simp; omega, i, rfl, u, hu, r, e, by omega, ?_⟩, fun h => by omega⟩, fun h => by omega⟩, by omega, fun hq => y2 (y (by simp only [bU, bx]; exact ⟨hq, ⟨b, by decide⟩, bJ⟩))⟩
            exact e2
          · obtain ⟨r, e, z, y⟩ := ih i u hu l (by omega)
            obtain ⟨r2, e2, z2, y2⟩ := ihk (i + 1) r (by omega) (by omega) (by omega)
            refine ⟨r2, fe (k + 1) _ _ _ _ _ _ _ ⟨fun _ => ⟨fun h => by omega, fun _ => ⟨i, rfl, u, hu, r, e, by omega, e2⟩⟩, fun h => by omega⟩, by omega, fun hq => y2 (y hq)⟩
        · omega
      · exact ⟨l, fe (k + 1) _ _ _ _ _ _ _ ⟨fun h => by omega, fun _ => rfl⟩, by omega, fun h => h⟩
  intro l hl
  have h1 : kbulk (t.kids.take n) ≤ kbulk t.kids := by
    have : ∀ (l : List Tree) n, kbulk (l.take n) ≤ kbulk l := fun l => by
      induction l with
      | nil => intro n; simp
      | cons a r ih => intro n; cases n with
        | zero => simp [kbulk]
        | succ n => have := ih n; simp only [List.take_succ_cons, kbulk]; omega
    exact this _ _
  have h2 := bA t
  obtain ⟨r, e, z, y⟩ := loop n 0 l (by omega) (by omega) (by simpa using hl)
  exact ⟨r, oK (n + 1) _ _ _ _ _ _ e, by simpa using z, y⟩
theorem pq (l : List Tree) (n : Nat) : kbulk (l.take n) + kbulk (l.drop n) = kbulk l := by rw [← d1, List.take_append_drop]
theorem BN {t : Tree} (hk : t.kind = 16) (hs : shapeK t = true) (ht : tbulk t ≤ 1000000) (ih : ∀ (i : Nat) (u : Tree), t.kids[i]? = some u → Pok u) : Pok t := fun l hl => by
  have hb := bA t
  have htx := cW t
  have M := 0
  obtain ⟨s1, g1, b1⟩ := bi 0 ht
  obtain ⟨s2, g2, b2⟩ := bi 1 ht
  obtain ⟨r, e, z, y⟩ := vh ht ih t.kids.length 3 (Nat.le_refl _) (by decide) (l ++ [⟨s1, t.text⟩, ⟨s2, [40]⟩]) (by simp only [List.length_append, List.length_cons, List.length_nil, List.take_length]; omega)
  simp only [List.length_append, List.length_cons, List.length_nil, List.take_length] at z
  obtain ⟨s9, g9, b9⟩ := bi 2 ht
  refine ⟨r ++ [⟨s9, [41]⟩], ?_, by simp only [List.length_append, List.length_cons, List.length_nil]; omega, fun hq => by
    have := y (by simp only [bU, bx]; exact ⟨hq, ⟨b1, by omega⟩, ⟨b2, by decide⟩, bJ⟩)
    simp only [bU, bx]; exact ⟨this, ⟨b9, by decide⟩, bJ⟩⟩
  exact aC (M + 12) _ _ _ ⟨fun h => absurd (hk.symm.trans h) (by decide), fun _ => aD (M + 11) _ _ _ ⟨fun h => absurd (hk.symm.trans h) (by decide), fun _ => aF (M + 10) _ _ _ ⟨fun h => absurd (hk.symm.trans h) (by decide), fun _ => aJ (M + 9) _ _ _ ⟨fun h => absurd (hk.symm.trans h) (by decide), fun _ => aN (M + 8) _ _ _ ⟨fun h => absurd (hk.symm.trans h) (by decide), fun _ => aR (M + 7) _ _ _ ⟨fun h => absurd (hk.symm.trans h) (by decide), fun _ => aS (M + 6) _ _ _ ⟨fun h => absurd (hk.symm.trans h) (by decide), fun _ => aT (M + 5) _ _ _ ⟨fun h => absurd (hk.symm.trans h) (by decide), fun _ => aY (M + 4) _ _ _ ⟨fun h => absurd (hk.symm.trans h) (by decide), fun _ => be (M + 3) _ _ _ ⟨fun h => absurd (hk.symm.trans h) (by decide), fun _ => bo (M + 2) _ _ _ ⟨fun h => absurd (hk.symm.trans h) (by decide), fun _ => bD (M + 1) _ _ _ ⟨fun _ => mi (M) _ _ _ ⟨_, g1, _, g2, by simp only [List.length_append, List.length_cons, List.length_nil]; omega, _, e, _, g9, by simp only [List.length_append, List.length_cons, List.length_nil]; omega, rfl⟩, fun h => absurd hk h⟩⟩⟩⟩⟩⟩⟩⟩⟩⟩⟩⟩
theorem BG {t : Tree} (hk : t.kind = 18) (hs : shapeK t = true) (ht : tbulk t ≤ 1000000) (ih : ∀ (i : Nat) (u : Tree), t.kids[i]? = some u → Pok u) : Pok t := fun l hl => by
  have hb := bA t
  have htx := cW t
  have M := 0
  obtain ⟨s1, g1, b1⟩ := bi 0 ht
  obtain ⟨r, e, z, y⟩ := vh ht ih t.kids.length 2 (Nat.le_refl _) (by decide) (l ++ [⟨s1, [91]⟩]) (by simp only [List.length_append, List.length_cons, List.length_nil, List.take_length]; omega)
  simp only [List.length_append, List.length_cons, List.length_nil, List.take_length] at z
  obtain ⟨s9, g9, b9⟩ := bi 1 ht
  refine ⟨r ++ [⟨s9, [93]⟩], ?_, by simp only [List.length_append, List.length_cons, List.length_nil]; omega, fun hq => by
    have := y (by simp only [bU, bx]; exact ⟨hq, ⟨b1, by decide⟩, bJ⟩)
    simp only [bU, bx]; exact ⟨this, ⟨b9, by decide⟩, bJ⟩⟩
  exact aC (M + 14) _ _ _ ⟨fun h => absurd (hk.symm.trans h) (by decide), fun _ => aD (M + 13) _ _ _ ⟨fun h => absurd (hk.symm.trans h) (by decide), fun _ => aF (M + 12) _ _ _ ⟨fun h => absurd (hk.symm.trans h) (by decide), fun _ => aJ (M + 11) _ _ _ ⟨fun h => absurd (hk.symm.trans h) (by decide), fun _ => aN (M + 10) _ _ _ ⟨fun h => absurd (hk.symm.trans h) (by decide), fun _ => aR (M + 9) _ _ _ ⟨fun h => absurd (hk.symm.trans h) (by decide), fun _ => aS (M + 8) _ _ _ ⟨fun h => absurd (hk.symm.trans h) (by decide), fun _ => aT (M + 7) _ _ _ ⟨fun h => absurd (hk.symm.trans h) (by decide), fun _ => aY (M + 6) _ _ _ ⟨fun h => absurd (hk.symm.trans h) (by decide), fun _ => be (M + 5) _ _ _ ⟨fun h => absurd (hk.symm.trans h) (by decide), fun _ => bo (M + 4) _ _ _ ⟨fun h => absurd (hk.symm.trans h) (by decide), fun _ => bD (M + 3) _ _ _ ⟨fun h => absurd (hk.symm.trans h) (by decide), fun _ => bN (M + 2) _ _ _ ⟨fun h => absurd (hk.symm.trans h) (by decide), fun _ => ch (M + 1) _ _ _ ⟨fun _ => mh (M) _ _ _ ⟨_, g1, by simp only [List.length_append, List.length_cons, List.length_nil]; omega, _, e, _, g9, by simp only [List.length_append, List.length_cons, List.length_nil]; omega, rfl⟩, fun h => absurd hk h⟩⟩⟩⟩⟩⟩⟩⟩⟩⟩⟩⟩⟩⟩
theorem p_2 {t : Tree} (hk : t.kind = 2) (hs : shapeK t = true) (ht : tbulk t ≤ 1000000) (ih : ∀ (i : Nat) (u : Tree), t.kids[i]? = some u → Pok u) : Pok t := fun l hl => by
  have hb := bA t
  have htx := cW t
  have hn := (eE hs).1 hk
  have hkl := cv t
  have M := 0
  obtain ⟨s1, g1, b1⟩ := bi 0 ht
  obtain ⟨s2, g2, b2⟩ := bi 1 ht
  obtain ⟨s3, g3, b3⟩ := bi 2 ht
  obtain ⟨s4, g4, b4⟩ := bi 3 ht
  obtain ⟨s5, g5, b5⟩ := bi 4 ht
  obtain ⟨s6, g6, b6⟩ := bi 5 ht
  obtain ⟨r, e, z, y⟩ := vh ht ih (t.kids.length - 2) 6 (by omega) (by decide) (l ++ [⟨s1, [100, 101, 102]⟩, ⟨s2, t.text⟩, ⟨s3, [40]⟩]) (by have := pq t.kids (t.kids.length - 2); simp only [List.length_append, List.length_cons, List.length_nil]; omega)
  simp only [List.length_append, List.length_cons, List.length_nil] at z
  obtain ⟨u, hu, _⟩ | h' := aE t.kids (t.kids.length - 2)
  rotate_left
  · omega
  obtain ⟨v, hv, _⟩ | h' := aE t.kids (t.kids.length - 1)
  rotate_left
  · omega
  have hsp := pq t.kids (t.kids.length - 2)
  have hd1 := ci hu
  have hd2 : t.kids.drop (t.kids.length - 2 + 1) = v :: t.kids.drop (t.kids.length - 1 + 1) := by rw [show t.kids.length - 2 + 1 = t.kids.length - 1 by omega]; exact ci hv
  rw [hd1, kbulk, hd2, kbulk] at hsp
  have hup := bn u
  have hvp := bn v
  have e' : dH (l ++ [⟨s1, [100, 101, 102]⟩, ⟨s2, t.text⟩, ⟨s3, [40]⟩]) t 0 (((t.kids.length : Nat) : Int) - 2) 6 r := by rw [show ((t.kids.length : Nat) : Int) - 2 = ((t.kids.length - 2 : Nat) : Int) by omega]; exact e
  obtain ⟨r1, e1, z1, y1⟩ := ih _ u hu (r ++ [⟨s4, [41]⟩, ⟨s5, [58]⟩]) (by simp only [List.length_append, List.length_cons, List.length_nil]; omega)
  simp only [List.length_append, List.length_cons, List.length_nil] at z1
  obtain ⟨r2, e2, z2, y2⟩ := ih _ v hv (r1 ++ [⟨s6, [61]⟩]) (by simp only [List.length_append, List.length_cons, List.length_nil]; omega)
  simp only [List.length_append, List.length_cons, List.length_nil] at z2
  refine ⟨r2, ?_, by omega, fun hq => ?_⟩
  · exact aC (M + 2) _ _ _ ⟨fun h => absurd (hk.symm.trans h) (by decide), fun _ => aD (M + 1) _ _ _ ⟨fun _ => mJ (M) _ _ _ ⟨_, g1, _, g2, _, g3, by simp only [List.length_append, List.length_cons, List.length_nil]; omega, by omega, r, e', _, g4, _, g5, by simp only [List.length_append, List.length_cons, List.length_nil]; omega, by omega, t.kids.length - 2, by omega, u, hu, r1, e1, _, g6, by simp only [List.length_append, List.length_cons, List.length_nil]; omega, by omega, t.kids.length - 1, by omega, v, hv, r2, e2, rfl⟩, fun h => absurd hk h⟩⟩
  · have q1 := y (by simp only [bU, bx]; exact ⟨hq, ⟨b1, by decide⟩, ⟨b2, by omega⟩, ⟨b3, by decide⟩, bJ⟩)
    have q2 := y1 (by simp only [bU, bx]; exact ⟨q1, ⟨b4, by decide⟩, ⟨b5, by decide⟩, bJ⟩)
    exact y2 (by simp only [bU, bx]; exact ⟨q2, ⟨b6, by decide⟩, bJ⟩)
theorem p_1 {t : Tree} (hk : t.kind = 1) (hs : shapeK t = true) (ht : tbulk t ≤ 1000000) (ih : ∀ (i : Nat) (u : Tree), t.kids[i]? = some u → Pok u) : Pok t := fun l hl => by
  have hb := bA t
  have htx := cW t
  have hkl := cv t
  obtain ⟨s1, g1, b1⟩ := bi 0 ht
  obtain ⟨s2, g2, b2⟩ := bi 1 ht
  obtain ⟨s3, g3, b3⟩ := bi 2 ht
  have loop : ∀ k i l, t.kids.length - i ≤ k → l.length + 8 * kbulk (t.kids.drop i) ≤ 899999996 → ∃ r, ds (k + 1) t l i r ∧ r.length ≤ l.length + 8 * kbulk (t.kids.drop i) + 1 ∧ (Qp l → Qp r) := fun k => by
    have last : ∀ k i l, ¬ i < t.kids.length → l.length ≤ 899999996 → ∃ r, ds (k + 1) t l i r ∧ r.length ≤ l.length + 8 * kbulk (t.kids.drop i) + 1 ∧ (Qp l → Qp r) := fun k i l hi hl => by
      refine ⟨l ++ [⟨s3, []⟩], ju k _ _ _ _ ⟨fun h => absurd h hi, fun _ => ⟨s3, g3, by simp only [List.length_append, List.length_cons, List.length_nil]; omega, rfl⟩⟩, by simp only [List.length_append, List.length_cons, List.length_nil]; omega, fun hq => by simp only [bU, bx]; exact ⟨hq, ⟨b3, by decide⟩, bJ⟩⟩
    induction k with
    | zero => intro i l hi hl; exact last 0 i l (by omega) (by omega)
    | succ k ihk =>
      intro i l hi hl
      obtain ⟨u, hu, hul⟩ | h' := aE t.kids i
      · have hd := ci hu
        rw [hd, kbulk] at hl ⊢
        obtain ⟨r, e, z, y⟩ := ih i u hu l (by omega)
        obtain ⟨r2, e2, z2, y2⟩ := ihk (i + 1) r (by omega) (by omega)
        exact ⟨r2, ju (k + 1) _ _ _ _ ⟨fun _ => ⟨u, hu, r, e, by omega, e2⟩, fun h => absurd hul h⟩, by omega, fun hq => y2 (y hq)⟩
      · exact last (k + 1) i l h' (by omega)
  obtain ⟨r, e, z, y⟩ := loop t.kids.length 0 (l ++ [⟨s1, [109, 111, 100, 117, 108, 101]⟩, ⟨s2, t.text⟩]) (by omega) (by simp only [List.length_append, List.length_cons, List.length_nil, List.drop_zero]; omega)
  simp only [List.length_append, List.length_cons, List.length_nil, List.drop_zero] at z
  refine ⟨r, aC (t.kids.length + 2) _ _ _ ⟨fun _ => mQ (t.kids.length + 1) _ _ _ ⟨_, g1, _, g2, by simp only [List.length_append, List.length_cons, List.length_nil]; omega, e⟩, fun h => absurd hk h⟩, by omega, fun hq => y (by simp only [bU, bx]; exact ⟨hq, ⟨b1, by decide⟩, ⟨b2, by omega⟩, bJ⟩)⟩
theorem yi : ∀ t : Tree, tbulk t ≤ 1000000 → shapeK t = true → Pok t := ei fun t ih ht hs => by
  have ih' : ∀ (i : Nat) (u : Tree), t.kids[i]? = some u → Pok u := fun i u hu => ih i u hu (by have := dJ hu; omega) (ru hs hu).1
  by_cases h : ∃ c ∈ [(1 : Int), 2, 3, 4, 5, 6, 7, 13, 14, 15, 8, 16, 17, 18, 19, 20, 21, 22], t.kind = c
  · obtain ⟨c, hc, e⟩ := h
    simp only [List.mem_cons, List.not_mem_nil, or_false] at hc
    rcases hc with rfl | rfl | rfl | rfl | rfl | rfl | rfl | rfl | rfl | rfl | rfl | rfl | rfl | rfl | rfl | rfl | rfl | rfl
    · exact p_1 e hs ht ih'
    · exact p_2 e hs ht ih'
    · exact p_3 e hs ht ih'
    · exact p_4 e hs ht ih'
    · exact p_5 e ht
    · exact p_6 e ht
    · exact p_7 e ht
    · exact BF e ht
    · exact BP e ht
    · exact BK e ht
    · exact p_8 e hs ht ih'
    · exact BN e hs ht ih'
    · exact BA e hs ht ih'
    · exact BG e hs ht ih'
    · exact BC e hs ht ih'
    · exact BB e hs ht ih'
    · exact BQ e hs ht ih'
    · exact BM e hs ht ih'
  · exact AI (fun c hc e => h ⟨c, hc, e⟩) ht
theorem xA : ∀ t : Tree, tbulk t ≤ 1000000 → ∃ b, fk t b := ei fun t ih ht => by
  have hk := cv t
  have hl := rB t
  have kids : ∀ k i, t.kids.length - i ≤ k → ∃ b, eC (k + 1) t i b := fun k => by
    induction k with
    | zero => intro i hi; exact ⟨_, eb 0 _ _ _ ⟨fun h => by omega, fun _ => rfl⟩⟩
    | succ k ihk =>
      intro i hi
      obtain ⟨u, hu, hul⟩ | h' := aE t.kids i
      · have := dJ hu
        obtain ⟨b, hb⟩ := ih i u hu (by omega)
        cases b with
        | false => exact ⟨false, eb (k + 1) _ _ _ ⟨fun _ => ⟨u, hu, _, hb, fun _ => rfl, fun h => (by cases h)⟩, fun h => absurd hul h⟩⟩
        | true =>
          obtain ⟨b2, hb2⟩ := ihk (i + 1) (by omega)
          exact ⟨b2, eb (k + 1) _ _ _ ⟨fun _ => ⟨u, hu, _, hb, fun h => (by cases h), fun _ => hb2⟩, fun h => absurd hul h⟩⟩
      · exact ⟨true, eb (k + 1) _ _ _ ⟨fun h => absurd h h', fun _ => rfl⟩⟩
  have lead : ∀ k i, t.leads.length - i ≤ k → ∃ b M, cO M t i b := fun k => by
    have last : ∀ i, ¬ i < t.leads.length → ∃ b M, cO M t i b := fun i hi => by
      obtain ⟨b, hb⟩ := kids t.kids.length 0 (by omega)
      exact ⟨b, _, dt _ _ _ _ ⟨fun h => absurd h hi, fun _ => hb⟩⟩
    induction k with
    | zero => intro i hi; exact last i (by omega)
    | succ k ihk =>
      intro i hi
      obtain ⟨s, hs, hsl⟩ | h' := aE t.leads i
      · have := pK hs
        have := bA t
        obtain ⟨b2, M, hb2⟩ := ihk (i + 1) (by omega)
        by_cases h1 : t.kind = 1
        · have ht1 := qZ s (((i : Nat) : Int) == 2) (by omega)
          cases hb : fB false s (((i : Nat) : Int) == 2) with
          | false => rw [hb] at ht1; exact ⟨false, 1, dt 0 _ _ _ ⟨fun _ => ⟨s, hs, fun _ => ⟨_, ht1, fun _ => rfl, fun h => (by cases h)⟩, fun h => absurd h1 h⟩, fun h => absurd hsl h⟩⟩
          | true => rw [hb] at ht1; exact ⟨b2, M + 1, dt M _ _ _ ⟨fun _ => ⟨s, hs, fun _ => ⟨_, ht1, fun h => (by cases h), fun _ => hb2⟩, fun h => absurd h1 h⟩, fun h => absurd hsl h⟩⟩
        · have ht1 := qZ s false (by omega)
          cases hb : fB false s false with
          | false => rw [hb] at ht1; exact ⟨false, 1, dt 0 _ _ _ ⟨fun _ => ⟨s, hs, fun h => absurd h h1, fun _ => ⟨_, ht1, fun _ => rfl, fun h => (by cases h)⟩⟩, fun h => absurd hsl h⟩⟩
          | true => rw [hb] at ht1; exact ⟨b2, M + 1, dt M _ _ _ ⟨fun _ => ⟨s, hs, fun h => absurd h h1, fun _ => ⟨_, ht1, fun h => (by cases h), fun _ => hb2⟩⟩, fun h => absurd hsl h⟩⟩
      · exact last i h'
  by_cases h : ((t.leads.length : Nat) : Int) = di t.kind t.kids.length
  · obtain ⟨b, M, hb⟩ := lead t.leads.length 0 (by omega)
    exact ⟨b, j8 M _ _ ⟨_, nS (by omega) (by omega), fun h' => absurd h h', fun _ => hb⟩⟩
  · exact ⟨false, j8 0 _ _ ⟨_, nS (by omega) (by omega), fun _ => rfl, fun h' => absurd h' h⟩⟩
theorem wO : ∀ t : Tree, tbulk t ≤ 1000000 → ∃ b, eK t b := ei fun t ih ht => by
  have hk := cv t
  have kids : ∀ k i, t.kids.length - i ≤ k → ∃ b, aB (k + 1) t i b := fun k => by
    induction k with
    | zero => intro i hi; exact ⟨_, d0 0 _ _ _ ⟨fun h => by omega, fun _ => rfl⟩⟩
    | succ k ihk =>
      intro i hi
      obtain ⟨u, hu, hul⟩ | h' := aE t.kids i
      · have := dJ hu
        obtain ⟨b, hb⟩ := ih i u hu (by omega)
        cases b with
        | false => exact ⟨false, d0 (k + 1) _ _ _ ⟨fun _ => ⟨u, hu, _, hb, fun _ => rfl, fun h => (by cases h)⟩, fun h => absurd hul h⟩⟩
        | true =>
          obtain ⟨b2, hb2⟩ := ihk (i + 1) (by omega)
          exact ⟨b2, d0 (k + 1) _ _ _ ⟨fun _ => ⟨u, hu, _, hb, fun h => (by cases h), fun _ => ⟨by omega, hb2⟩⟩, fun h => absurd hul h⟩⟩
      · exact ⟨true, d0 (k + 1) _ _ _ ⟨fun h => absurd h h', fun _ => rfl⟩⟩
  obtain ⟨b, hb⟩ := kids t.kids.length 0 (by omega)
  by_cases hall : (t.kind = 1 ∧ (40 : Int) < t.kids.length) ∨ (t.kind = 2 ∧ (10 : Int) < t.kids.length) ∨ (t.kind = 16 ∧ (8 : Int) < t.kids.length) ∨ (t.kind = 18 ∧ (16 : Int) < t.kids.length)
  · refine ⟨false, jP (t.kids.length + 1) _ _ ?_⟩
    repeat' (refine And.intro (fun _ => ?_) (fun _ => ?_))
    all_goals first | rfl | (exfalso; omega)
  · refine ⟨b, jP (t.kids.length + 1) _ _ ?_⟩
    repeat' (refine And.intro (fun _ => ?_) (fun _ => ?_))
    all_goals first | exact hb | (exfalso; omega)
theorem xX : ∀ t : Tree, tbulk t ≤ 1000000 → ∃ n, fg t n ∧ 0 ≤ n ∧ n ≤ tbulk t := ei fun t ih ht => by
  have hk := cv t
  have kids : ∀ k i (z : Int), t.kids.length - i ≤ k → 0 ≤ z → z < tbulk t → ∃ n, ey (k + 1) t z i n ∧ 0 ≤ n ∧ n ≤ tbulk t := fun k => by
    induction k with
    | zero => intro i z hi h0 hz; exact ⟨_, gu 0 _ _ _ _ ⟨fun h => by omega, fun _ => ⟨by omega, rfl⟩⟩, by omega, by omega⟩
    | succ k ihk =>
      intro i z hi h0 hz
      obtain ⟨u, hu, hul⟩ | h' := aE t.kids i
      · have := dJ hu
        obtain ⟨n, hn, n0, n1⟩ := ih i u hu (by omega)
        obtain ⟨r, hr, r0, r1⟩ := ihk (i + 1) (max z n) (by omega) (by omega) (by omega)
        exact ⟨r, gu (k + 1) _ _ _ _ ⟨fun _ => ⟨u, hu, _, hn, hr⟩, fun h => absurd hul h⟩, r0, r1⟩
      · exact ⟨_, gu (k + 1) _ _ _ _ ⟨fun h => absurd h h', fun _ => ⟨by omega, rfl⟩⟩, by omega, by omega⟩
  obtain ⟨n, hn, n0, n1⟩ := kids t.kids.length 0 0 (by omega) (by omega) (by have := bn t; omega)
  exact ⟨n, nu _ _ _ hn, n0, n1⟩
theorem ox (t : Tree) (ht : tbulk t ≤ 1000000) : ∃ b, dN t b ∧ (b = true → shapeK t = true) := by
  have h1 := oy t (by omega)
  cases hs : shapeK t with
  | false => rw [hs] at h1; exact ⟨false, iH 0 _ _ ⟨_, h1, fun h => by (cases h), fun _ => rfl⟩, fun h => (by cases h)⟩
  | true =>
    rw [hs] at h1
    obtain ⟨b, hb⟩ := xA t ht
    exact ⟨b, iH 0 _ _ ⟨_, h1, fun _ => ⟨_, hb, rfl⟩, fun h => (by cases h)⟩, fun _ => rfl⟩
theorem xB (t : Tree) (ht : tbulk t ≤ 1000000) : ∃ s, ic t s := by
  obtain ⟨b, hb, hs⟩ := ox t ht
  cases b with
  | false => exact ⟨[], kw 0 _ _ ⟨_, hb, fun _ => rfl, fun h => (by cases h)⟩⟩
  | true =>
    obtain ⟨l, e, z, q⟩ := yi t ht (hs rfl) [] (by simp; omega)
    have hq := q bJ
    simp only [List.length_nil] at z
    have loop : ∀ k i (s : List UInt8), l.length - i ≤ k → s.length ≤ i * 2000020 → i ≤ l.length → ∃ r, bR (k + 1) l s i r := fun k => by
      induction k with
      | zero => intro i s hi hsl hil; exact ⟨_, cC 0 _ _ _ _ ⟨fun h => by omega, fun _ => rfl⟩⟩
      | succ k ihk =>
        intro i s hi hsl hil
        obtain ⟨x, hx, hxl⟩ | h' := aE l i
        · obtain ⟨hx1, hx2⟩ := hq x (List.mem_of_getElem? hx)
          have hmul : (i + 1) * 2000020 = i * 2000020 + 2000020 := Nat.succ_mul _ _
          obtain ⟨r1, hr1⟩ := ihk (i + 1) (((s ++ [32]) ++ x.Lead) ++ x.Text) (by omega) (by simp only [List.length_append, List.length_cons, List.length_nil]; omega) (by omega)
          obtain ⟨r2, hr2⟩ := ihk (i + 1) ((s ++ x.Lead) ++ x.Text) (by omega) (by simp only [List.length_append]; omega) (by omega)
          have plain : s.length + x.Lead.length ≤ 9223372036854775807 ∧ ∃ y : Pce, l[i]? = some y ∧ (s ++ x.Lead).length + y.Text.length ≤ 9223372036854775807 ∧ bR (k + 1) l ((s ++ x.Lead) ++ y.Text) (i + 1) r2 := ⟨by omega, x, hx, by simp only [List.length_append]; omega, hr2⟩
          by_cases h0 : (0 : Int) < ((i : Nat) : Int)
          · by_cases hle : x.Lead = []
            · obtain ⟨y, hy, hyl⟩ | h' := aE l (i - 1)
              rotate_left
              · omega
              obtain ⟨hy1, hy2⟩ := hq y (List.mem_of_getElem? hy)
              have hf := xQ y.Text x.Text (by omega) (by omega)
              cases hb2 : fusesT y.Text x.Text with
              | true =>
                rw [hb2] at hf
                exact ⟨r1, cC (k + 1) _ _ _ _ ⟨fun _ => ⟨fun _ => ⟨x, hx, fun _ => ⟨by omega, i - 1, by omega, y, hy, x, hx, _, hf, fun _ => ⟨by simp only [List.length_cons, List.length_nil]; omega, x, hx, by simp only [List.length_append, List.length_cons, List.length_nil]; omega, x, hx, by simp only [List.length_append, List.length_cons, List.length_nil]; omega, hr1⟩, fun h => by (cases h)⟩, fun h => absurd hle h⟩, fun h => absurd h0 h⟩, fun h => absurd hxl h⟩⟩
              | false =>
                rw [hb2] at hf
                exact ⟨r2, cC (k + 1) _ _ _ _ ⟨fun _ => ⟨fun _ => ⟨x, hx, fun _ => ⟨by omega, i - 1, by omega, y, hy, x, hx, _, hf, fun h => by (cases h), fun _ => ⟨x, hx, plain⟩⟩, fun h => absurd hle h⟩, fun h => absurd h0 h⟩, fun h => absurd hxl h⟩⟩
            · exact ⟨r2, cC (k + 1) _ _ _ _ ⟨fun _ => ⟨fun _ => ⟨x, hx, fun h => absurd h hle, fun _ => ⟨x, hx, plain⟩⟩, fun h => absurd h0 h⟩, fun h => absurd hxl h⟩⟩
          · exact ⟨r2, cC (k + 1) _ _ _ _ ⟨fun _ => ⟨fun h => absurd h h0, fun _ => ⟨x, hx, plain⟩⟩, fun h => absurd hxl h⟩⟩
        · exact ⟨s, cC (k + 1) _ _ _ _ ⟨fun h => absurd h h', fun _ => rfl⟩⟩
    obtain ⟨r, hr⟩ := loop l.length 0 [] (by omega) (by simp) (by omega)
    exact ⟨r, kw (l.length + 1) _ _ ⟨_, hb, fun h => by (cases h), fun _ => ⟨l, m5 0 _ _ ⟨_, e, rfl⟩, hr⟩⟩⟩
theorem xC (t : Tree) (ht : tbulk t ≤ 1000000) : ∃ b, dU t b := by
  obtain ⟨b, hb, _⟩ := ox t ht
  cases b with
  | false => exact ⟨false, eP 0 _ _ ⟨_, hb, fun h => by (cases h), fun _ => rfl⟩⟩
  | true =>
    obtain ⟨b2, hb2⟩ := wO t ht
    cases b2 with
    | false => exact ⟨false, eP 0 _ _ ⟨_, hb, fun _ => ⟨_, hb2, fun h => by (cases h), fun _ => rfl⟩, fun h => (by cases h)⟩⟩
    | true =>
      obtain ⟨n, hn, _, _⟩ := xX t ht
      obtain ⟨s, hs⟩ := xB t ht
      by_cases h40 : n ≤ 40
      · exact ⟨_, eP 0 _ _ ⟨_, hb, fun _ => ⟨_, hb2, fun _ => ⟨n, hn, fun _ => ⟨s, hs, rfl⟩, fun h => absurd h40 h⟩, fun h => (by cases h)⟩, fun h => (by cases h)⟩⟩
      · exact ⟨false, eP 0 _ _ ⟨_, hb, fun _ => ⟨_, hb2, fun _ => ⟨n, hn, fun h => absurd h h40, fun _ => rfl⟩, fun h => (by cases h)⟩, fun h => (by cases h)⟩⟩
end Go.Proofs.YteglbnopdedadaaGreat
namespace Go.Proofs.YteglbnopdedadaaGreat
open Go.RowKit Lx Sx
set_option maxHeartbeats 1000000
set_option maxRecDepth 100000
theorem Bo {L : List Int} {a : Int} (hd : Dc L a) : Gt L (fun t a' => jE L a t L a') 500 := by
  obtain ⟨r, a1, h1, h2, h3⟩ := d4 hd (n := 5) (by omega) (by omega)
  by_cases hr : r = 0
  · obtain ⟨s, a2, g1, g2, g3⟩ := go h3 [[84], [85]] (by decide) (by decide)
    have hs := fG g2 (by decide)
    obtain ⟨t, a3, q1, q2, q3⟩ := vv 2 g3 (by omega)
    exact ⟨_, a3, ly 0 _ _ _ _ _ ⟨_, _, _, h1, fun _ => ⟨_, _, _, g1, _, _, _, q1, rfl, rfl, rfl⟩, fun h => absurd hr h⟩, q2, by rw [tb1]; omega⟩
  · obtain ⟨s, a2, g1, g2, g3⟩ := go h3 [[102], [103], [104]] (by decide) (by decide)
    have hs := fG g2 (by decide)
    obtain ⟨n, a3, g4, g5, g6⟩ := d4 g3 (n := 4) (by omega) (by omega)
    have loop : ∀ (k : Nat) (a : Int) (l : List Tree), Dc L a → l.length + k ≤ 100 → Gt L (fun t a' => ga (k + 1) s L a l (k : Int) t L a') (s.length + 1 + kbulk l + k * 13 + 429) := fun k => by
      induction k with
      | zero =>
        intro a l hd hl
        obtain ⟨t1, b1, q1, q2, q3⟩ := vv 1 hd (by omega)
        obtain ⟨t2, b2, q4, q5, q6⟩ := AP 3 q2 (by omega)
        have : eB 3 = 422 := rfl
        refine ⟨_, b2, lp 0 _ _ _ _ _ _ _ _ ⟨fun h => by omega, fun _ => ⟨_, _, _, q1, _, _, _, q4, by simp; omega, rfl, rfl, rfl⟩⟩, q5, ?_⟩
        rw [tbK, d1]; simp only [kbulk]; omega
      | succ k ihk =>
        intro a l hd hl
        obtain ⟨x, b0, q0, q0', q0''⟩ := go hd [[120], [121], [122]] (by decide) (by decide)
        have hx := fG q0' (by decide)
        obtain ⟨t, b, q1, q2, q3⟩ := vv 1 q0'' (by omega)
        refine (ihk b (l ++ [.node 4 x [] [t]]) q2 (by simp; omega)).map ?_ fun t' a' h => lp (k + 1) _ _ _ _ _ _ _ _ ⟨fun _ => ⟨_, _, _, q0, _, _, _, q1, by simp; omega, by omega, by rw [show ((k + 1 : Nat) : Int) - 1 = (k : Int) by omega]; exact h⟩, fun h => by omega⟩
        rw [d1]; simp only [kbulk, tb1]; omega
    exact (loop n.toNat a3 [] g6 (by simp; omega)).map (by simp only [kbulk]; omega) fun t a' h => ly (n.toNat + 1) _ _ _ _ _ ⟨_, _, _, h1, fun h => absurd h hr, fun _ => ⟨_, _, _, g1, _, _, _, g4, by rw [show n = ((n.toNat : Nat) : Int) by omega]; exact h⟩⟩
def Sh (l : List (List UInt8)) (n : Nat) : Prop := l.length = n ∧ ∀ x ∈ l, x.length ≤ 2
theorem Sh.sum : ∀ {l : List (List UInt8)} {n : Nat}, Sh l n → lsum l ≤ 3 * n
  | [], n, h => by simp [lsum]
  | x :: r, n, h => by
    obtain ⟨h1, h2⟩ := h
    have := h2 x (by simp)
    have := Sh.sum (l := r) (n := n - 1) ⟨by simp at h1; omega, fun y hy => h2 y (by simp [hy])⟩
    simp only [lsum]; simp at h1; omega
theorem Sh.set {l : List (List UInt8)} {n i : Nat} {x : List UInt8} (h : Sh l n) (hx : x.length ≤ 2) : Sh (l.set i x) n := ⟨by simpa using h.1, fun y hy => by
  rcases List.mem_or_eq_of_mem_set hy with h1 | h1
  · exact h.2 y h1
  · subst h1; exact hx⟩
theorem Sh.get {l : List (List UInt8)} {n i : Nat} (h : Sh l n) (hi : i < n) : ∃ s, l[i]? = some s := by
  obtain ⟨s, hs, _⟩ | h' := aE l i
  · exact ⟨s, hs⟩
  · have := h.1; omega
theorem xc {n : Int} (h0 : 0 ≤ n) (h1 : n ≤ 100000000) : ∃ l, gK n l ∧ Sh l n.toNat := by
  have loop : ∀ k i (l : List (List UInt8)), n.toNat - i ≤ k → i ≤ n.toNat → Sh l i → ∃ r, eh (k + 1) n l i r ∧ Sh r n.toNat := fun k => by
    induction k with
    | zero => intro i l hi hle hl; exact ⟨l, fV 0 _ _ _ _ ⟨fun h => by omega, fun _ => rfl⟩, by rw [show n.toNat = i by omega]; exact hl⟩
    | succ k ihk =>
      intro i l hi hle hl
      by_cases h : (i : Int) < n
      · obtain ⟨r, e, hr⟩ := ihk (i + 1) (l ++ [[32]]) (by omega) (by omega) ⟨by simp [hl.1], fun x hx => by
          rcases List.mem_append.1 hx with h1 | h1
          · exact hl.2 x h1
          · simp at h1; subst h1; simp⟩
        exact ⟨r, fV (k + 1) _ _ _ _ ⟨fun _ => ⟨by simp [hl.1]; omega, by omega, e⟩, fun h' => absurd h h'⟩, hr⟩
      · exact ⟨l, fV (k + 1) _ _ _ _ ⟨fun h' => absurd h' h, fun _ => rfl⟩, by rw [show n.toNat = i by omega]; exact hl⟩
  obtain ⟨r, e, hr⟩ := loop n.toNat 0 [] (by omega) (by omega) ⟨rfl, fun x hx => by cases hx⟩
  exact ⟨r, m7 _ _ _ e, hr⟩
def oY (t : Tree) (i : Int) (first : List UInt8) : List UInt8 := if t.kind = 1 then [10, 10] else if 0 < i then [32] else if t.kind = 8 ∨ t.kind = 22 ∨ t.kind = 16 ∨ t.kind = 18 then [] else if t.kind = 2 then (if (2 : Int) < t.kids.length then [] else [32]) else if t.kind = 17 ∨ t.kind = 21 then first else [32]
theorem xx (t : Tree) (i : Int) (first : List UInt8) : gW t i first (oY t i first) := by
  refine mV 1 _ _ _ _ ?_
  repeat' first | (refine And.intro (fun _ => ?_) (fun _ => ?_)) | (refine mM 0 _ _ _ _ ?_)
  all_goals simp_all [oY]
  all_goals (intro h; omega)
theorem vq (t : Tree) (i : Int) (first : List UInt8) (hf : first.length ≤ 2) : (oY t i first).length ≤ 2 := by
  unfold oY
  repeat' split
  all_goals first | exact hf | simp
theorem la {n : Int} (hn : 0 ≤ n) (a b c : Nat) (z : Int) : f0 n a b c z ≤ b + n := by
  unfold f0; repeat' split
  all_goals omega
theorem AC {k n : Int} (hn : 0 ≤ n) : di k n ≤ 6 + n := by
  have a1 := la hn 2 6 2 (-1)
  have a2 := la hn 0 3 0 (-1)
  have a3 := la hn 1 2 0 (-1)
  have a4 := la hn 1 3 0 1
  have a5 := la hn 1 2 0 1
  have a6 := la hn 1 0 0 1
  have a7 := la hn 3 3 0 3
  have a8 := la hn 2 4 0 2
  have a9 := la hn 2 1 0 2
  have a10 := la hn 0 1 0 0
  simp only [di]
  repeat' first | omega | split
theorem wZ {t : Tree} (hs : shapeK t = true) : (t.kind = 1 → di t.kind t.kids.length = 3) ∧ (t.kind = 2 → 6 ≤ di t.kind t.kids.length) ∧ (t.kind = 4 ∨ t.kind = 8 ∨ t.kind = 22 → di t.kind t.kids.length = 2) ∧ (t.kind ≠ 17 → 1 ≤ di t.kind t.kids.length) := by
  have h := oD hs
  refine ⟨fun hk => ?_, fun hk => ?_, fun hk => ?_, fun hk => ?_⟩
  · rw [hk]; simp only [di]; simp
  · rw [hk] at h ⊢; simp only [di, f0] at h ⊢; simp at h ⊢; repeat' split
    all_goals first | omega | (simp_all; omega)
  · rcases hk with hk | hk | hk <;> (rw [hk] at h ⊢; simp only [di, f0] at h ⊢; simp at h ⊢; repeat' split) <;> first | omega | (simp_all; done) | (simp_all; omega)
  · have key : ∀ k n : Int, 0 ≤ n → k ≠ 17 → 0 ≤ di k n → 1 ≤ di k n := fun k n hn hk h => by
      have q : ∀ (a b c : Nat) z, 1 ≤ b → f0 n a b c z = -1 ∨ 1 ≤ f0 n a b c z := fun a b c z hb => by
        unfold f0; repeat' split
        all_goals omega
      have a1 := q 2 6 2 (-1) (by decide)
      have a2 := q 0 3 0 (-1) (by decide)
      have a3 := q 1 2 0 (-1) (by decide)
      have a4 := q 1 3 0 1 (by decide)
      have a5 := q 1 2 0 1 (by decide)
      have a7 := q 3 3 0 3 (by decide)
      have a8 := q 2 4 0 2 (by decide)
      have a9 := q 2 1 0 2 (by decide)
      have a10 := q 0 1 0 0 (by decide)
      revert h
      simp only [di]
      repeat' first | (intro h; omega) | split
    exact key _ _ (by omega) hk h
section
variable {t : Tree} {N : Nat} {us : List Tree}
theorem zg : ∀ k i (l : List (List UInt8)), N - i ≤ k → Sh l N → ∃ l', dY (k + 1) t l i us (.node t.kind t.text l' us) ∧ Sh l' N := fun k => by
  induction k with
  | zero => intro i l hi hl; exact ⟨l, ft 0 _ _ _ _ _ ⟨fun h => by have := hl.1; omega, fun _ => rfl⟩, hl⟩
  | succ k ihk =>
    intro i l hi hl
    by_cases h : i < l.length
    · obtain ⟨s, hs⟩ := hl.get (i := i) (by have := hl.1; omega)
      obtain ⟨l', e, h'⟩ := ihk (i + 1) (l.set i []) (by omega) (hl.set (by simp))
      exact ⟨l', ft (k + 1) _ _ _ _ _ ⟨fun _ => ⟨s, hs, e⟩, fun h' => absurd h h'⟩, h'⟩
    · exact ⟨l, ft (k + 1) _ _ _ _ _ ⟨fun h' => absurd h' h, fun _ => rfl⟩, hl⟩
theorem t8 : ∀ k i (l : List (List UInt8)), N - i ≤ k → Sh l N → ∃ l', db (k + 1) t l i us (.node t.kind t.text l' us) ∧ Sh l' N := fun k => by
  induction k with
  | zero => intro i l hi hl; exact ⟨l, fx 0 _ _ _ _ _ ⟨fun h => by have := hl.1; omega, fun _ => rfl⟩, hl⟩
  | succ k ihk =>
    intro i l hi hl
    by_cases h : i < l.length
    · obtain ⟨s, hs⟩ := hl.get (i := i) (by have := hl.1; omega)
      obtain ⟨l', e, h'⟩ := ihk (i + 1) (l.set i []) (by omega) (hl.set (by simp))
      exact ⟨l', fx (k + 1) _ _ _ _ _ ⟨fun _ => ⟨s, hs, e⟩, fun h' => absurd h h'⟩, h'⟩
    · exact ⟨l, fx (k + 1) _ _ _ _ _ ⟨fun h' => absurd h' h, fun _ => rfl⟩, hl⟩
theorem qN (hs : shapeK t = true) (hN : N = (di t.kind t.kids.length).toNat) {l : List (List UInt8)} (hl : Sh l N) : ∃ l', dd (N + 2) t l us (.node t.kind t.text l' us) ∧ Sh l' N := by
  obtain ⟨g1, g2, g3, g4⟩ := wZ hs
  have e0 : ([] : List UInt8).length ≤ 2 := by simp
  by_cases h1 : t.kind = 1
  · have := g1 h1
    obtain ⟨s, hs⟩ := hl.get (i := 2) (by omega)
    exact ⟨_, bC (N + 1) _ _ _ _ ⟨fun _ => ⟨s, hs, rfl⟩, fun h => absurd h1 h⟩, hl.set (by simp)⟩
  by_cases h2 : t.kind = 2
  · have := g2 h2
    have l1 := hl.set (i := 2) e0
    have l2 := l1.set (i := 3) e0
    have l3 := l2.set (i := 4) e0
    obtain ⟨s, hs⟩ := hl.get (i := 2) (by omega)
    obtain ⟨s', hs'⟩ := l1.get (i := 3) (by omega)
    obtain ⟨s2, hs2⟩ := l2.get (i := 4) (by omega)
    obtain ⟨l', e, h'⟩ := zg (t := t) (us := us) N 6 _ (by omega) l3
    exact ⟨l', bC (N + 1) _ _ _ _ ⟨fun h => absurd h h1, fun _ => ⟨fun _ => ⟨s, hs, s', hs', s2, hs2, e⟩, fun h => absurd h2 h⟩⟩, h'⟩
  by_cases h4 : t.kind = 4
  · have := g3 (by simp [h4])
    obtain ⟨s, hs⟩ := hl.get (i := 1) (by omega)
    exact ⟨_, bC (N + 1) _ _ _ _ ⟨fun h => absurd h h1, fun _ => ⟨fun h => absurd h h2, fun _ => ⟨fun _ => ⟨s, hs, rfl⟩, fun h => absurd h4 h⟩⟩⟩, hl.set e0⟩
  by_cases h8 : t.kind = 8
  · have := g3 (by simp [h8])
    obtain ⟨s, hs⟩ := hl.get (i := 1) (by omega)
    exact ⟨_, bC (N + 1) _ _ _ _ ⟨fun h => absurd h h1, fun _ => ⟨fun h => absurd h h2, fun _ => ⟨fun h => absurd h h4, fun _ => ⟨fun _ => ⟨s, hs, rfl⟩, fun h => absurd h8 h⟩⟩⟩⟩, hl.set e0⟩
  by_cases h22 : t.kind = 22
  · have := g3 (by simp [h22])
    obtain ⟨s, hs⟩ := hl.get (i := 1) (by omega)
    exact ⟨_, bC (N + 1) _ _ _ _ ⟨fun h => absurd h h1, fun _ => ⟨fun h => absurd h h2, fun _ => ⟨fun h => absurd h h4, fun _ => ⟨fun h => absurd h h8, fun _ => ⟨fun _ => ⟨s, hs, rfl⟩, fun h => absurd h22 h⟩⟩⟩⟩⟩, hl.set e0⟩
  by_cases h16 : t.kind = 16
  · obtain ⟨l', e, h'⟩ := t8 (t := t) (us := us) N 1 _ (by omega) hl
    exact ⟨l', bC (N + 1) _ _ _ _ ⟨fun h => absurd h h1, fun _ => ⟨fun h => absurd h h2, fun _ => ⟨fun h => absurd h h4, fun _ => ⟨fun h => absurd h h8, fun _ => ⟨fun h => absurd h h22, fun _ => ⟨fun _ => e, fun h => absurd h16 h⟩⟩⟩⟩⟩⟩, h'⟩
  by_cases h18 : t.kind = 18
  · obtain ⟨l', e, h'⟩ := t8 (t := t) (us := us) N 1 _ (by omega) hl
    exact ⟨l', bC (N + 1) _ _ _ _ ⟨fun h => absurd h h1, fun _ => ⟨fun h => absurd h h2, fun _ => ⟨fun h => absurd h h4, fun _ => ⟨fun h => absurd h h8, fun _ => ⟨fun h => absurd h h22, fun _ => ⟨fun h => absurd h h16, fun _ => ⟨fun _ => e, fun h => absurd h18 h⟩⟩⟩⟩⟩⟩⟩, h'⟩
  · exact ⟨l, bC (N + 1) _ _ _ _ ⟨fun h => absurd h h1, fun _ => ⟨fun h => absurd h h2, fun _ => ⟨fun h => absurd h h4, fun _ => ⟨fun h => absurd h h8, fun _ => ⟨fun h => absurd h h22, fun _ => ⟨fun h => absurd h h16, fun _ => ⟨fun h => absurd h h18, fun _ => rfl⟩⟩⟩⟩⟩⟩⟩, hl⟩
end
theorem mq {l : List Tree} {i : Nat} {u : Tree} (h : l[i]? = some u) : kbulk (l.take (i + 1)) = kbulk (l.take i) + tbulk u := by
  rw [List.take_add_one, h, d1]; simp [kbulk]
theorem wc : ∀ t : Tree, tbulk t ≤ 1000000 → shapeK t = true → ∀ first, first.length ≤ 2 → ∃ u, eg t first u ∧ tbulk u + 3 ≤ 25 * tbulk t := ei fun t ih ht hs first hf => by
  have hk := cv t
  have hbt := bA t
  have h0 := oD hs
  have h6 := AC (k := t.kind) (n := (t.kids.length : Int)) (by omega)
  obtain ⟨g1, g2, g3, g4⟩ := wZ hs
  obtain ⟨bl, hbl, hsh⟩ := xc h0 (by omega)
  have loop : ∀ k i (done rest : List Tree), t.kids.length - i ≤ k → done.length = i → i ≤ t.kids.length → rest.length = t.kids.length - i → kbulk done + 3 * i ≤ 25 * kbulk (t.kids.take i) → ∃ M r, dc M t first bl (done ++ rest) i r ∧ tbulk r + 3 ≤ 25 * tbulk t := fun k => by
    have last : ∀ i (done rest : List Tree), ¬ i < t.kids.length → done.length = i → i ≤ t.kids.length → rest.length = t.kids.length - i → kbulk done + 3 * i ≤ 25 * kbulk (t.kids.take i) → ∃ M r, dc M t first bl (done ++ rest) i r ∧ tbulk r + 3 ≤ 25 * tbulk t := fun i done rest hi hd hle hr hb => by
      have hr0 : rest = [] := List.length_eq_zero_iff.1 (by omega)
      subst hr0
      rw [List.append_nil]
      rw [List.take_of_length_le (by omega)] at hb
      have fin : ∀ l', Sh l' (di t.kind t.kids.length).toNat → tbulk (.node t.kind t.text l' done) + 3 ≤ 25 * tbulk t := fun l' hl' => by
        have := hl'.sum
        simp only [tbulk]; omega
      by_cases h17 : t.kind = 17
      · obtain ⟨l', e, h'⟩ := qN (us := done) hs rfl hsh
        exact ⟨_, _, dL _ _ _ _ _ _ _ ⟨fun h => absurd h hi, fun _ => ⟨fun h => absurd h17 h, fun _ => e⟩⟩, fin l' h'⟩
      · by_cases h21 : t.kind = 21
        · obtain ⟨l', e, h'⟩ := qN (us := done) hs rfl hsh
          exact ⟨_, _, dL _ _ _ _ _ _ _ ⟨fun h => absurd h hi, fun _ => ⟨fun _ => ⟨fun h => absurd h21 h, fun _ => e⟩, fun h => absurd h h17⟩⟩, fin l' h'⟩
        · obtain ⟨l', e, h'⟩ := qN (us := done) hs rfl (hsh.set (i := 0) hf)
          have := g4 h17
          obtain ⟨s, hs0⟩ := hsh.get (i := 0) (by omega)
          exact ⟨_, _, dL _ _ _ _ _ _ _ ⟨fun h => absurd h hi, fun _ => ⟨fun _ => ⟨fun _ => ⟨s, hs0, e⟩, fun h => absurd h h21⟩, fun h => absurd h h17⟩⟩, fin l' h'⟩
    induction k with
    | zero => intro i done rest hi hd hle hr hb; exact last i done rest (by omega) hd hle hr hb
    | succ k ihk =>
      intro i done rest hi hd hle hr hb
      obtain ⟨u, hu, hul⟩ | h' := aE t.kids i
      · have hbu := dJ hu
        obtain ⟨v, hv, hvb⟩ := ih i u hu (by omega) (ru hs hu).1 _ (vq t i first hf)
        match rest, hr with
        | z :: rest', hr =>
          obtain ⟨M, r, e, hb2⟩ := ihk (i + 1) (done ++ [v]) rest' (by omega) (by simp [hd]) (by omega) (by simp at hr; omega) (by rw [mq hu, d1]; simp only [kbulk]; omega)
          refine ⟨M + 1, r, dL M _ _ _ _ _ _ ⟨fun _ => ⟨u, hu, _, xx t i first, v, hv, z, by simp [← hd], by omega, ?_⟩, fun h => absurd hul h⟩, hb2⟩
          have : (done ++ z :: rest').set i v = done ++ [v] ++ rest' := by simp [← hd]
          rw [this]; exact e
        | [], hr => simp at hr; omega
      · exact last i done rest h' hd hle hr hb
  obtain ⟨M, r, e, hb⟩ := loop t.kids.length 0 [] (List.replicate t.kids.length (.node 0 [] [] [])) (by omega) rfl (by omega) (by simp) (by simp [kbulk])
  exact ⟨r, mP (M + 1) _ _ _ ⟨_, nS (by omega) (by omega), bl, hbl, me M _ _ _ _ ⟨by omega, by simpa using e⟩⟩, hb⟩
theorem wj (t : Tree) (ht : tbulk t ≤ 1000000) : ∃ u, gv t u ∧ tbulk u ≤ 25 * tbulk t := by
  have h1 := oy t (by omega)
  have := bn t
  cases hs : shapeK t with
  | false => rw [hs] at h1; exact ⟨.node 0 [] [] [], ji 0 _ _ ⟨_, h1, fun _ => rfl, fun h => (by cases h)⟩, by rw [tb0]; simp; omega⟩
  | true =>
    rw [hs] at h1
    obtain ⟨u, hu, hb⟩ := wc t ht hs [] (by simp)
    exact ⟨u, ji 0 _ _ ⟨_, h1, fun h => (by cases h), fun _ => ⟨u, hu, rfl⟩⟩, by omega⟩
theorem sJ : ∀ (l : List (List UInt8)) (i : Nat) (x : List UInt8), lsum (l.set i x) ≤ lsum l + x.length
  | [], i, x => by simp [lsum]
  | y :: r, 0, x => by simp only [List.set_cons_zero, lsum]; omega
  | y :: r, i + 1, x => by have := sJ r i x; simp only [List.set_cons_succ, lsum]; omega
theorem xK {L : List Int} : ∀ t : Tree, tbulk t ≤ 1000000 → ∀ {a : Int}, Dc L a → Gt L (fun u a' => fU L a t u L a') (6 * tbulk t) := ei fun t ih ht a hd => by
  have hk := cv t
  have hl := rB t
  have hbt := bA t
  have kids : ∀ k i (done : List Tree) (ls : List (List UInt8)) (a : Int), t.kids.length - i ≤ k → i ≤ t.kids.length → done.length = i → kbulk done ≤ 6 * kbulk (t.kids.take i) → lsum ls ≤ 6 * lsum t.leads → Dc L a → ∃ M, Gt L (fun u a' => dT M t L a (done ++ t.kids.drop i) i ls u L a') (6 * tbulk t) := fun k => by
    have last : ∀ i (done : List Tree) (ls : List (List UInt8)) (a : Int), ¬ i < t.kids.length → i ≤ t.kids.length → done.length = i → kbulk done ≤ 6 * kbulk (t.kids.take i) → lsum ls ≤ 6 * lsum t.leads → Dc L a → ∃ M, Gt L (fun u a' => dT M t L a (done ++ t.kids.drop i) i ls u L a') (6 * tbulk t) := fun i done ls a hi hle hdn hb hls hd => by
      rw [List.drop_of_length_le (by omega), List.append_nil]
      rw [List.take_of_length_le (by omega)] at hb
      exact ⟨1, _, a, kc 0 _ _ _ _ _ _ _ _ _ ⟨fun h => absurd h (by omega), fun _ => ⟨rfl, rfl, rfl⟩⟩, hd, by simp only [tbulk]; omega⟩
    induction k with
    | zero => intro i done ls a hi hle hdn hb hls hd; exact last i done ls a (by omega) hle hdn hb hls hd
    | succ k ihk =>
      intro i done ls a hi hle hdn hb hls hd
      obtain ⟨u, hu, hul⟩ | h' := aE t.kids i
      · have hbu := dJ hu
        obtain ⟨v, a1, q1, q2, q3⟩ := ih i u hu (by omega) hd
        obtain ⟨M, hM⟩ := ihk (i + 1) (done ++ [v]) ls a1 (by omega) (by omega) (by simp [hdn]) (by rw [mq hu, d1]; simp only [kbulk]; omega) hls q2
        have hg : (done ++ t.kids.drop i)[i]? = some u := by rw [List.getElem?_append_right (by omega), hdn]; simpa using hu
        refine ⟨M + 1, hM.map (Nat.le_refl _) fun w b h => kc M _ _ _ _ _ _ _ _ _ ⟨fun _ => ⟨u, hg, _, _, _, q1, u, hg, ?_⟩, fun h' => absurd (by simp [hdn]; omega) h'⟩⟩
        have : (done ++ t.kids.drop i).set i v = done ++ [v] ++ t.kids.drop (i + 1) := by rw [ci hu]; simp [← hdn]
        rw [this]; exact h
      · exact last i done ls a h' hle hdn hb hls hd
  have lead : ∀ k i (ls : List (List UInt8)) (a : Int), t.leads.length - i ≤ k → i ≤ t.leads.length → ls.length = t.leads.length → lsum ls ≤ lsum t.leads + 5 * i → Dc L a → ∃ M, Gt L (fun u a' => cY M t L a ls i u L a') (6 * tbulk t) := fun k => by
    have hll := pZ t.leads
    have last : ∀ i (ls : List (List UInt8)) (a : Int), ¬ i < t.leads.length → i ≤ t.leads.length → ls.length = t.leads.length → lsum ls ≤ lsum t.leads + 5 * i → Dc L a → ∃ M, Gt L (fun u a' => cY M t L a ls i u L a') (6 * tbulk t) := fun i ls a hi hle hlen hb hd => by
      obtain ⟨M, hM⟩ := kids t.kids.length 0 [] ls a (by omega) (by omega) rfl (by simp [kbulk]) (by omega) hd
      exact ⟨M + 1, hM.map (Nat.le_refl _) fun w b h => gG M _ _ _ _ _ _ _ _ ⟨fun h' => absurd h' (by omega), fun _ => ⟨by omega, by simpa using h⟩⟩⟩
    induction k with
    | zero => intro i ls a hi hle hlen hb hd; exact last i ls a (by omega) hle hlen hb hd
    | succ k ihk =>
      intro i ls a hi hle hlen hb hd
      obtain ⟨x, hx, hxl⟩ | h' := aE ls i
      · obtain ⟨n, a1, h1, h2, h3⟩ := d4 hd (n := 9) (by omega) (by omega)
        by_cases hn : n = 1
        · obtain ⟨s, a2, g1, g2, g3⟩ := go h3 [[32, 35, 32, 99, 10], [32, 32], [10, 9], [35, 10]] (by decide) (by decide)
          have hs5 := fG g2 (by decide)
          have := sJ ls i s
          obtain ⟨M, hM⟩ := ihk (i + 1) (ls.set i s) a2 (by omega) (by omega) (by simpa using hlen) (by omega) g3
          exact ⟨M + 1, hM.map (Nat.le_refl _) fun w b h => gG M _ _ _ _ _ _ _ _ ⟨fun _ => ⟨_, _, _, h1, fun _ => ⟨_, _, _, g1, x, hx, h⟩, fun h' => absurd hn h'⟩, fun h' => absurd hxl h'⟩⟩
        · obtain ⟨M, hM⟩ := ihk (i + 1) ls a1 (by omega) (by omega) hlen (by omega) h3
          exact ⟨M + 1, hM.map (Nat.le_refl _) fun w b h => gG M _ _ _ _ _ _ _ _ ⟨fun _ => ⟨_, _, _, h1, fun h' => absurd h' hn, fun _ => h⟩, fun h' => absurd hxl h'⟩⟩
      · exact last i ls a (by omega) hle hlen hb hd
  obtain ⟨M, hM⟩ := lead t.leads.length 0 t.leads a (by omega) (by omega) rfl (by omega) hd
  exact hM.map (Nat.le_refl _) fun w b h => oc M _ _ _ _ _ _ ⟨by omega, h⟩
theorem xl {L : List Int} {a : Int} (hd : Dc L a) (name : List UInt8) (hname : name.length ≤ 5) : Gt L (fun t a' => hW L a name t L a') 300000 := by
  obtain ⟨n, a1, h1, h2, h3⟩ := d4 hd (n := 4) (by omega) (by omega)
  have loop : ∀ (k : Nat) (a : Int) (l : List Tree), Dc L a → l.length + k ≤ 100 → kbulk l + k * 500 ≤ 1500 → Gt L (fun t a' => eJ (k + 1) name L a l (k : Int) t L a') 300000 := fun k => by
    induction k with
    | zero =>
      intro a l hd hl hb
      have ht : tbulk (.node 1 name [] l) ≤ 1506 := by rw [tbK]; omega
      obtain ⟨u, hu, hub⟩ := wj (.node 1 name [] l) (by omega)
      obtain ⟨z, a2, g1, g2, g3⟩ := d4 hd (n := 2) (by omega) (by omega)
      by_cases hz : z = 0
      · exact (xK u (by omega) g3).map (by omega) fun w b h => gq 0 _ _ _ _ _ _ _ _ ⟨fun h' => by omega, fun _ => ⟨u, hu, _, _, _, g1, fun _ => ⟨_, _, _, h, rfl, rfl, rfl⟩, fun h' => absurd hz h'⟩⟩
      · exact ⟨u, a2, gq 0 _ _ _ _ _ _ _ _ ⟨fun h' => by omega, fun _ => ⟨u, hu, _, _, _, g1, fun h' => absurd h' hz, fun _ => ⟨rfl, rfl, rfl⟩⟩⟩, g3, by omega⟩
    | succ k ihk =>
      intro a l hd hl hb
      obtain ⟨t, b, q1, q2, q3⟩ := Bo hd
      exact (ihk b (l ++ [t]) q2 (by simp; omega) (by rw [d1]; simp only [kbulk]; omega)).map (Nat.le_refl _) fun w c h => gq (k + 1) _ _ _ _ _ _ _ _ ⟨fun _ => ⟨_, _, _, q1, by simp; omega, by omega, by rw [show ((k + 1 : Nat) : Int) - 1 = (k : Int) by omega]; exact h⟩, fun h => by omega⟩
  exact (loop n.toNat a1 [] h3 (by simp; omega) (by simp only [kbulk]; omega)).map (Nat.le_refl _) fun w b h => no (n.toNat + 1) _ _ _ _ _ _ ⟨_, _, _, h1, by rw [show n = ((n.toNat : Nat) : Int) by omega]; exact h⟩
theorem vZ (l : List Int) (hl : l.length ≤ 1000000) : ∃ p, gP l p ∧ kbulk p ≤ 1000000 := by
  have hd0 : Dc l 0 := ⟨by omega, by omega, by omega⟩
  obtain ⟨n, a1, h1, h2, h3⟩ := d4 hd0 (n := 4) (by omega) (by omega)
  have loop : ∀ (k : Nat) (a : Int) (p : List Tree), Dc l a → p.length + k ≤ 3 → kbulk p + k * 300001 ≤ 900003 → ∃ r, bz (k + 1) l a p (k : Int) r ∧ kbulk r ≤ 900003 := fun k => by
    induction k with
    | zero => intro a p hd hp hb; exact ⟨p, fZ 0 _ _ _ _ _ ⟨fun h => by omega, fun _ => rfl⟩, by omega⟩
    | succ k ihk =>
      intro a p hd hp hb
      have hb2 : kbulk p + k * 300001 + 300001 ≤ 900003 := Nat.le_trans (Nat.le_of_eq (by rw [Nat.succ_mul, Nat.add_assoc])) hb
      have hb3 : kbulk p + k * 300001 ≤ 900003 := Nat.le_trans (Nat.le_add_right _ _) hb2
      obtain ⟨x, hx, _⟩ | h' := aE [[(65 : UInt8)], [66], [67]] p.length
      rotate_left
      · simp at h'; omega
      have hx5 : x.length ≤ 5 := fG (List.mem_of_getElem? hx) (by decide)
      obtain ⟨t, a2, q1, q2, q3⟩ := xl hd x hx5
      obtain ⟨z, a3, g1, g2, g3⟩ := d4 q2 (n := 8) (by omega) (by omega)
      have step : ∀ u : Tree, tbulk u ≤ 300001 → ∃ b r, dU u b ∧ ((b = true) → (p ++ [u]).length ≤ 1000000000 ∧ InI (((k + 1 : Nat) : Int) - 1) ∧ bz (k + 1) l a3 (p ++ [u]) (((k + 1 : Nat) : Int) - 1) r) ∧ ((b = false) → InI (((k + 1 : Nat) : Int) - 1) ∧ bz (k + 1) l a3 p (((k + 1 : Nat) : Int) - 1) r) ∧ kbulk r ≤ 900003 := fun u hu => by
        obtain ⟨b, hb'⟩ := xC u (by omega)
        have e : ((k + 1 : Nat) : Int) - 1 = (k : Int) := by omega
        rw [e]
        cases b with
        | true =>
          obtain ⟨r, hr, hrb⟩ := ihk a3 (p ++ [u]) g3 (by simp; omega) (by clear hb; rw [d1]; simp only [kbulk]; omega)
          exact ⟨true, r, hb', fun _ => ⟨by simp; omega, by omega, hr⟩, fun h => (by cases h), hrb⟩
        | false =>
          obtain ⟨r, hr, hrb⟩ := ihk a3 p g3 (by omega) hb3
          exact ⟨false, r, hb', fun h => (by cases h), fun _ => ⟨by omega, hr⟩, hrb⟩
      by_cases hz : z = 7
      · have hub : tbulk (.node t.kind [65] t.leads t.kids) ≤ 300001 := by have := bA t; simp only [tbulk, List.length_cons, List.length_nil]; omega
        obtain ⟨b, r, e1, e2, e3, e4⟩ := step _ hub
        exact ⟨r, fZ (k + 1) _ _ _ _ _ ⟨fun _ => ⟨x, hx, _, _, _, q1, _, _, _, g1, fun _ => ⟨b, e1, e2, e3⟩, fun h => absurd hz h⟩, fun h => by omega⟩, e4⟩
      · obtain ⟨b, r, e1, e2, e3, e4⟩ := step t (by omega)
        exact ⟨r, fZ (k + 1) _ _ _ _ _ ⟨fun _ => ⟨x, hx, _, _, _, q1, _, _, _, g1, fun h => absurd h hz, fun _ => ⟨b, e1, e2, e3⟩⟩, fun h => by omega⟩, e4⟩
  obtain ⟨r, hr, hrb⟩ := loop n.toNat a1 [] h3 (by simp; omega) (by simp only [kbulk]; omega)
  exact ⟨r, ni (n.toNat + 1) _ _ ⟨_, _, oT 0 _ _ _ ⟨by omega, rfl, rfl⟩, _, _, _, h1, by rw [show n = ((n.toNat : Nat) : Int) by omega]; exact hr⟩, by omega⟩
end Go.Proofs.YteglbnopdedadaaGreat
namespace Go.Proofs.YteglbnopdedadaaGreat
open Go.RowKit Lx Sx
set_option maxRecDepth 100000
set_option maxHeartbeats 4000000
structure GPlace where
  Module : Int
  Path : (List Int)
abbrev GPlace.c (x : GPlace) : List V := [.int .i64 x.Module, .row 1 (List.map (V.int .i64) x.Path)]
abbrev GPlace.w (x : GPlace) : V := .agg x.c
structure GTarget where
  Use : GPlace
  Module : Int
  Def : Int
  Free : Bool
abbrev GTarget.c (x : GTarget) : List V := [.int .i64 x.Use.Module, .row 1 (List.map (V.int .i64) x.Use.Path), .int .i64 x.Module, .int .i64 x.Def, .bool x.Free]
abbrev GTarget.w (x : GTarget) : V := .agg x.c
end Go.Proofs.YteglbnopdedadaaGreat
namespace Go.Proofs.YteglbnopdedadaaGreat
open Go.RowKit
set_option maxRecDepth 100000
set_option maxHeartbeats 1000000 in
theorem yO (s : ByteArray) (c : Int) (w : World) : Calls Tryz.prog 144 #[.string s, .int .u8 c] w fun e w' => e = .returned (.int .i64 (Lib.indexByte s.data.toList c.toNat.toUInt8)) ∧ w = w' := by
  go_enter Tryz.func144, Tryz.ntmps144
  go_wp2
  rw [run_callFunc_extern Tryz.func155 (by kernel_rfl) (by kernel_rfl) (by kernel_rfl) (e := Extern.BytealgIndexByte.indexByte) (by kernel_rfl), Lib.run_indexByteString]
  simp only [Result.andThen]
  rw [Oper.upon_value]
  go_wp2
  go_ret
  exact ⟨rfl, rfl⟩
theorem uN (s : ByteArray) (c : Int) (w : World) : Calls Tryz.prog 115 #[.string s, .int .u8 c] w fun e w' => e = .returned (.int .i64 (Lib.indexByte s.data.toList c.toNat.toUInt8)) ∧ w = w' := by
  go_enter Tryz.func115, Tryz.ntmps115
  go_wp2_with (go_at_call 144; refine (yO _ _ _).mono ?_; rintro e w' ⟨rfl, rfl⟩)
  go_ret
  exact ⟨rfl, rfl⟩
end Go.Proofs.YteglbnopdedadaaGreat
namespace Go.Proofs.YteglbnopdedadaaGreat
open Go.RowKit
def dm (R : List Nat) (l : List (Nat × Ob)) : List (Nat × Ob) := l.filter fun p => gE p.1 R
def ung : Ob → Ob
  | .free => .gone
  | o => o
def dV (nx : Nat) (R : List Nat) (l : List (Nat × Ob)) : List (Nat × Ob) := (l.filter fun p => !gE p.1 R && Nat.blt p.1 nx).map fun p => (p.1, ung p.2)
theorem nv {α : Type} {R : List Nat} : ∀ (l : List (Nat × Ob)) (c : List (Nat × Ob) → α), o2 R l c = c (dm R l)
  | [], c => rfl
  | (i, o) :: r, c => by
    simp only [o2]
    cases h : gE i R
    · simp only; rw [nv r]; simp [dm, h]
    · simp only; rw [nv r]; simp [dm, h]
theorem nV {α : Type} {nx : Nat} {R : List Nat} : ∀ (l : List (Nat × Ob)) (c : List (Nat × Ob) → α), nB nx R l c = c (dV nx R l)
  | [], c => rfl
  | (i, o) :: r, c => by
    simp only [nB]
    cases h : (!gE i R && Nat.blt i nx)
    · simp only; rw [nV r]; simp only [dV, List.filter_cons, h]; rfl
    · cases o <;> (simp only; rw [nV r]; simp only [dV, List.filter_cons, h]; rfl)
theorem mn {R : List Nat} {i : Nat} : ∀ {l : List (Nat × Ob)}, au (dm R l) i = au l i ∨ (gE i R = false ∧ au (dm R l) i = .gone)
  | [] => .inl rfl
  | (j, o) :: r => by
    by_cases hj : j = i
    · subst hj
      cases h : gE j R
      · right
        refine ⟨rfl, ?_⟩
        have ih := mn (R := R) (i := j) (l := r)
        simp only [dm, List.filter_cons, h] at ih ⊢
        simp only [Bool.false_eq_true, if_false]
        clear ih
        have key : ∀ (l : List (Nat × Ob)), au (l.filter fun p => gE p.1 R) j = .gone := by
          intro l
          induction l with
          | nil => rfl
          | cons q t ih =>
            obtain ⟨k, o'⟩ := q
            simp only [List.filter_cons]
            split
            · rename_i hk
              have : k ≠ j := fun e => by subst e; simp [h] at hk
              simp only [au, nbF this]; exact ih
            · exact ih
        exact key r
      · left
        simp only [dm, List.filter_cons, h, if_true, au, nbT]
    · have ih := mn (R := R) (i := i) (l := r)
      simp only [dm, List.filter_cons]
      split
      · simp only [au, nbF hj]; exact ih
      · simp only [au, nbF hj]; exact ih
theorem rH {R : List Nat} {i : Nat} (h : gE i R = false) (l : List (Nat × Ob)) : au (dm R l) i = .gone := by
  induction l with
  | nil => rfl
  | cons q t ih =>
    obtain ⟨k, o'⟩ := q
    simp only [dm, List.filter_cons]
    split
    · rename_i hk
      have : k ≠ i := fun e => by subst e; simp [h] at hk
      simp only [au, nbF this]; exact ih
    · exact ih
theorem wa {nx : Nat} {R : List Nat} {i : Nat} (l : List (Nat × Ob)) : au (dV nx R l) i = if (!gE i R && Nat.blt i nx) = true then ung (au l i) else .gone := by
  induction l with
  | nil => simp [dV, au, ung]
  | cons q t ih =>
    obtain ⟨k, o⟩ := q
    by_cases hk : k = i
    · subst hk
      cases h : (!gE k R && Nat.blt k nx)
      · rw [h] at ih
        simp only [dV, List.filter_cons, h, Bool.false_eq_true, if_false] at ih ⊢
        exact ih
      · simp only [dV, List.filter_cons, h, if_true, List.map_cons, au, nbT]
    · have e : au ((k, o) :: t) i = au t i := by simp only [au, nbF hk]
      rw [e, ← ih]
      simp only [dV, List.filter_cons]
      split
      · simp only [List.map_cons, au, nbF hk]
      · rfl
section
variable {P : Program} {T : Tab} {K : Ctx} {Q : Exit → Act → World → Prop} {s : List EI} {n : Nat} {F : Fm} {H : Hp}
theorem tX (lo : Nat) (H : Hp) (v : V) : ∃ v' H', (∀ (α : Type) (c : V → Hp → α), vu lo H v c = c v' H') ∧ H'.nx = H.nx ∧ (∀ K S w ρ x, HRel S w ρ H.get → Inv K S w ρ H.get → VRel S w ρ v x → ∃ S', HRel S' w ρ H'.get ∧ Inv K S' w ρ H'.get ∧ Up S S' w w ρ ρ ∧ VRel S' w ρ v' x) := by
  have triv : ∃ v' H', (∀ (α : Type) (c : V → Hp → α), c v H = c v' H') ∧ H'.nx = H.nx ∧ (∀ K S w ρ x, HRel S w ρ H.get → Inv K S w ρ H.get → VRel S w ρ v x → ∃ S', HRel S' w ρ H'.get ∧ Inv K S' w ρ H'.get ∧ Up S S' w w ρ ρ ∧ VRel S' w ρ v' x) := ⟨v, H, fun _ _ => rfl, rfl, fun K S w ρ x h1 h2 h3 => ⟨S, h1, h2, Up.refl, h3⟩⟩
  cases v with
  | sl id =>
    simp only [vu]
    split
    · split
      · rename_i e sz els ho
        split
        · rename_i hpu
          refine ⟨.row sz els, ⟨H.nx, k9 id H.es⟩, fun α c => by rw [pe], rfl, fun K S w ρ x hr hi hx => ?_⟩
          have hg : (⟨H.nx, k9 id H.es⟩ : Hp).get = co H.get id .gone := by
            funext i
            unfold Hp.get
            by_cases hii : i = id
            · subst hii
              rw [bE]
              simp only []
              have hlt : Nat.blt i H.nx = true := by
                unfold Hp.get at ho
                split at ho
                · assumption
                · cases ho
              rw [hlt]
              simp only [kW, if_true]
            · rw [cr _ _ hii]
              simp only [kW, if_neg hii]
          refine ⟨_, by rw [hg]; exact (fO hr).1, by rw [hg]; exact hi.frz hr id, (fO hr).2, qe hr ho hpu hx⟩
        · exact triv
      · exact triv
    · exact triv
  | _ => exact triv
theorem ug (lo : Nat) : ∀ (vs : List V) (H : Hp), ∃ vs' H', (∀ (α : Type) (c : List V → Hp → α), vO lo H vs c = c vs' H') ∧ H'.nx = H.nx ∧ (∀ K S w ρ xs, HRel S w ρ H.get → Inv K S w ρ H.get → LRel S w ρ vs xs → ∃ S', HRel S' w ρ H'.get ∧ Inv K S' w ρ H'.get ∧ Up S S' w w ρ ρ ∧ LRel S' w ρ vs' xs)
  | [], H => ⟨[], H, fun _ _ => rfl, rfl, fun K S w ρ x h1 h2 h3 => ⟨S, h1, h2, Up.refl, h3⟩⟩
  | v :: r, H => by
    obtain ⟨v', H1, e1, n1, k1⟩ := tX lo H v
    obtain ⟨r', H2, e2, n2, k2⟩ := ug lo r H1
    refine ⟨v' :: r', H2, fun α c => by simp only [vO, e1, e2], n2.trans n1, fun K S w ρ xs hr hi hx => ?_⟩
    simp only [LRel] at hx
    obtain ⟨x, ys, rfl, h1, h2⟩ := hx
    obtain ⟨S1, a1, a2, a3, a4⟩ := k1 K S w ρ x hr hi h1
    obtain ⟨S2, b1, b2, b3, b4⟩ := k2 K S1 w ρ ys a1 a2 (h2.up a3)
    exact ⟨S2, b1, b2, ⟨fun b hb => b3.s b (a3.s b hb), fun _ _ _ => rfl, fun _ _ h => h⟩, x, ys, rfl, a4.up b3, b4⟩
theorem za (lo : Nat) (H : Hp) (v : V) : ∃ v' H', (∀ (α : Type) (c : V → Hp → α), xe lo H v c = c v' H') ∧ H'.nx = H.nx ∧ (∀ K S w ρ x, HRel S w ρ H.get → Inv K S w ρ H.get → VRel S w ρ v x → ∃ S', HRel S' w ρ H'.get ∧ Inv K S' w ρ H'.get ∧ Up S S' w w ρ ρ ∧ VRel S' w ρ v' x) := by
  have h0 := tX lo H v
  cases v
  case agg cs =>
    obtain ⟨vs', H', e, hn, k⟩ := ug lo cs H
    refine ⟨.agg vs', H', fun α c => by simp only [xe, e], hn, fun K S w ρ x hr hi hx => ?_⟩
    simp only [VRel] at hx
    obtain ⟨xs, rfl, h1⟩ := hx
    obtain ⟨S', a1, a2, a3, a4⟩ := k K S w ρ xs hr hi h1
    exact ⟨S', a1, a2, a3, by simp only [VRel]; exact ⟨xs, rfl, a4⟩⟩
  all_goals exact h0
theorem qP (lo : Nat) : ∀ (vs : List V) (H : Hp), ∃ vs' H', (∀ (α : Type) (c : List V → Hp → α), sE lo H vs c = c vs' H') ∧ H'.nx = H.nx ∧ (∀ K S w ρ xs, HRel S w ρ H.get → Inv K S w ρ H.get → LRel S w ρ vs xs → ∃ S', HRel S' w ρ H'.get ∧ Inv K S' w ρ H'.get ∧ Up S S' w w ρ ρ ∧ LRel S' w ρ vs' xs)
  | [], H => ⟨[], H, fun _ _ => rfl, rfl, fun K S w ρ x h1 h2 h3 => ⟨S, h1, h2, Up.refl, h3⟩⟩
  | v :: r, H => by
    obtain ⟨v', H1, e1, n1, k1⟩ := za lo H v
    obtain ⟨r', H2, e2, n2, k2⟩ := qP lo r H1
    refine ⟨v' :: r', H2, fun α c => by simp only [sE, e1, e2], n2.trans n1, fun K S w ρ xs hr hi hx => ?_⟩
    simp only [LRel] at hx
    obtain ⟨x, ys, rfl, h1, h2⟩ := hx
    obtain ⟨S1, a1, a2, a3, a4⟩ := k1 K S w ρ x hr hi h1
    obtain ⟨S2, b1, b2, b3, b4⟩ := k2 K S1 w ρ ys a1 a2 (h2.up a3)
    exact ⟨S2, b1, b2, ⟨fun b hb => b3.s b (a3.s b hb), fun _ _ _ => rfl, fun _ _ h => h⟩, x, ys, rfl, a4.up b3, b4⟩
variable {all : Array Oper} {rest : List Oper} {o : Oper} {u : V} {H' : Hp}
theorem AE {ok : Bool} (hw : bv F all o.guard = some true) (hx : lG P K o [] ok n F H u H') (k : Go P K Q (.ops all rest) s n (F.seto o.dst (some u)) H') : Go P K Q (.ops all (o :: rest)) s n F H := fun S w ρ a hr hi hF => by
  show wpList P all (dg P Q s) (o :: rest) a w
  unfold wpList
  rw [if_pos (cw hF hw)]
  exact .inl (hx S w ρ a hr hi hF _ _ fun x S' w' ρ' hr' hi' hu _ _ hv => k S' w' ρ' _ hr' hi' (cU (hF.up hu) o.dst hv))
variable {L : List Nat} {m left i : Nat} {listed : Array Bool}
theorem z6 (hrd : Region.ready .any all listed = [i]) (hi : all[i]? = some o) (hw : bv F all o.guard = some true) (hx : lG P K o L ((listed.setIfInBounds i true).getD m false) n F H u H') (k : Go P K Q (.drw all L m left (listed.setIfInBounds i true)) s n (F.seto o.dst (some u)) H') : Go P K Q (.drw all L m (left + 1) listed) s n F H := fun S w ρ a hr hiv hF hs => by
  refine kS (S := S) hrd ?_
  unfold wpOp
  simp only [hi]
  rw [if_pos (cw hF hw)]
  exact .inl (hx S w ρ a hr hiv hF _ _ fun x S' w' ρ' hr' hi' hu hA hL hv => kq hu hA hL (k S' w' ρ' _ hr' hi' (cU (hF.up hu) o.dst hv) hs))
def hO (P : Program) (K : Ctx) (Q : Exit → Act → World → Prop) (n : Nat) : Rs → Prop
  | .ok e F H => ∀ S w ρ a, HRel S w ρ H.get → Inv K S w ρ H.get → FRel S w ρ a n F → Q (match e with | true => .ret | false => .normal) a w
  | .pt p s F H => Go P K Q p s n F H
  | .er _ _ => False
variable {ih : EP → List EI → Fm → Hp → Rs}
theorem uw {S : Nat → Prop} {w : World} {ρ : Nat → Option Value} {x : Value} : ∀ {rs : List V}, VRel S w ρ (k7 rs) x → ∃ ys, LRel S w ρ rs ys ∧ x = oN ys
  | [], hvx => by simp only [k7, VRel] at hvx; obtain ⟨ys, rfl, h1⟩ := hvx; exact ⟨ys, h1, by simp only [LRel] at h1; subst h1; rfl⟩
  | [v], hvx => ⟨[x], ⟨x, [], rfl, hvx, rfl⟩, rfl⟩
  | v :: u :: r, hvx => by
    simp only [k7, VRel] at hvx; obtain ⟨ys, rfl, h1⟩ := hvx
    refine ⟨ys, h1, ?_⟩
    simp only [LRel] at h1
    obtain ⟨_, _, rfl, _, _, _, rfl, _⟩ := h1
    rfl
theorem xD (hT : TabOk P T) (IH : ∀ p s F H K Q n, hO P K Q n (ih p s F H) → Go P K Q p s n F H) {X : Rs → Prop} (hX : ∀ n m, ¬ X (.er n m)) {keep ok : Bool} {vs : List V} {fid : FuncId} {fn : Func} {b : Code} {c : V → Hp → Rs} (hf : P.funcs[fid]? = some fn) (hb : fn.body = some b) (hl : Nat.ble vs.length fn.ntmps = true)
    (h : X (uV T ih keep vs fn b H L ok c)) : ∃ u H' L', (L' = L ∨ ok = true) ∧ CallR P K fid vs H L' (fun u' H'' => u' = u ∧ H'' = H') ∧ X (c u H') := by
  unfold uV at h
  simp only [] at h
  generalize hR : ll H 40 (nI vs []) [] = R at h
  split at h
  · rename_i hok
    rw [nv] at h
    split at h
    · rename_i e F1 H1 hrun
      split at h
      · rename_i rs hres
        split at h
        · rename_i hnx
          have hnx' : H.nx ≤ H1.nx := Nat.le_of_ble_eq_true hnx
          -- the objects that the call gets
          have hin : ∀ i, (⟨H.nx, dm R H.es⟩ : Hp).get i = H.get i ∨ (⟨H.nx, dm R H.es⟩ : Hp).get i = .gone := fun i => by
            unfold Hp.get
            simp only []
            split
            · rcases mn (R := R) (i := i) (l := H.es) with e | ⟨_, e⟩
              · exact .inl e
              · exact .inr e
            · exact .inl rfl
          have hout : ∀ i, gE i R = false → Nat.blt i H.nx = true → (⟨H.nx, dm R H.es⟩ : Hp).get i = .gone := fun i hi hlt => by
            unfold Hp.get
            simp only [hlt]
            exact rH hi _
          -- the objects behind the call
          have key : ∀ (H2 : Hp) (es3 : List (Nat × Ob)), H2.nx = H1.nx → (∀ i, au es3 i = au H2.es i ∨ au es3 i = .gone) → ∀ i, ((⟨H2.nx, es3 ++ dV H.nx R H.es⟩ : Hp).get i = H2.get i ∨ (⟨H2.nx, es3 ++ dV H.nx R H.es⟩ : Hp).get i = .gone) ∨ ((⟨H2.nx, es3 ++ dV H.nx R H.es⟩ : Hp).get i = H.get i ∧ (⟨H.nx, dm R H.es⟩ : Hp).get i = .gone ∧ H.get i ≠ .free) := fun H2 es3 hn h3 i => by
            by_cases hlt2 : Nat.blt i H2.nx = true
            · have e0 : (⟨H2.nx, es3 ++ dV H.nx R H.es⟩ : Hp).get i = au (es3 ++ dV H.nx R H.es) i := by unfold Hp.get; simp only [hlt2]
              have e2 : H2.get i = au H2.es i := by unfold Hp.get; rw [hlt2]
              rw [e0, e2]
              rcases tk es3 (dV H.nx R H.es) i with e | ⟨e', e⟩
              · rw [e]
                rcases h3 i with h3 | h3
                · exact .inl (.inl h3)
                · exact .inl (.inr h3)
              · rw [e]
                rw [wa]
                cases hm : (!gE i R && Nat.blt i H.nx)
                · exact .inl (.inr (by simp))
                · have hm' := hm
                  simp only [Bool.and_eq_true, Bool.not_eq_true'] at hm'
                  have eH : H.get i = au H.es i := by unfold Hp.get; rw [hm'.2]
                  rw [if_pos rfl]
                  cases hf : au H.es i
                  case free => exact .inl (.inr rfl)
                  all_goals exact .inr ⟨by rw [eH, hf]; rfl, hout i hm'.1 hm'.2, by rw [eH, hf]; simp⟩
            · have e0 : (⟨H2.nx, es3 ++ dV H.nx R H.es⟩ : Hp).get i = .free := by
                unfold Hp.get; simp only [Bool.not_eq_true] at hlt2; simp only [hlt2]
              have e2 : H2.get i = .free := by unfold Hp.get; simp only [Bool.not_eq_true] at hlt2; rw [hlt2]
              exact .inl (.inl (by rw [e0, e2]))
          -- what holds behind the call
          have fin : ∀ (H2 : Hp) (es3 : List (Nat × Ob)) (rs2 : List V), H2.nx = H1.nx → (∀ i, au es3 i = au H2.es i ∨ au es3 i = .gone) →
              (∀ K S w ρ xs, HRel S w ρ H1.get → Inv K S w ρ H1.get → LRel S w ρ rs xs → ∃ S', HRel S' w ρ H2.get ∧ Inv K S' w ρ H2.get ∧ Up S S' w w ρ ρ ∧ LRel S' w ρ rs2 xs) →
              ∃ L', (L' = L ∨ ok = true) ∧ CallR P K fid vs H L' (fun u' H'' => u' = k7 rs2 ∧ H'' = ⟨H2.nx, es3 ++ dV H.nx R H.es⟩) := fun H2 es3 rs2 hn h3 hfz => by
            have main : ∀ L', (∀ (S : Nat → Prop) (w : World) (ρ : Nat → Option Value), HRel S w ρ H.get → L' = [] ∨ (cF H.get L' = true ∧ ∀ id, id ∈ L' → (⟨H.nx, dm R H.es⟩ : Hp).get id = .gone)) → CallR P K fid vs H L' (fun u' H'' => u' = k7 rs2 ∧ H'' = ⟨H2.nx, es3 ++ dV H.nx R H.es⟩) := fun L' hL' S w ρ xs hr hi hx => by
              have hr1 := hr.drop (h' := (⟨H.nx, dm R H.es⟩ : Hp).get) hin
              have hi1 : Inv ⟨w, S, fun b => ∃ id, own ρ id ((⟨H.nx, dm R H.es⟩ : Hp).get id) b, ρ⟩ S w ρ (⟨H.nx, dm R H.es⟩ : Hp).get := ⟨ChgP.refl _ _, fun _ h => h, fun _ h => .inl h, fun id b hb => .inl ⟨id, hb⟩, fun _ _ h => h⟩
              refine pL hf hb hl hr1 hi1 hx (IH _ _ _ _ _ _ _ ?_)
              rw [hrun]
              intro S' w' ρ' a' hr' hi' hF'
              obtain ⟨rl, hrl⟩ : ∃ l : List ResultVar, fn.results = l.toArray := ⟨fn.results.toList, by simp⟩
              rw [hrl] at hres
              refine ret_go hT (rs := rl) (by cases e <;> simp) hrl hr' hF' (by simpa using hres) fun x hvx => ?_
              have hLR := uw hvx
              obtain ⟨ys, hys, rfl⟩ := hLR
              obtain ⟨S2, a1, a2, a3, a4⟩ := hfz _ S' w' ρ' ys hr' hi' hys
              obtain ⟨m1, m2, m3, m4⟩ := sf (h1 := (⟨H.nx, dm R H.es⟩ : Hp).get) (h2 := (⟨H2.nx, es3 ++ dV H.nx R H.es⟩ : Hp).get) hr hi hin a1 a2 (key H2 es3 hn h3)
              refine ⟨_, S2, ρ', _, _, rfl, ⟨rfl, rfl⟩, m1, m2, m3, uu a4, ?_⟩
              rcases hL' S w ρ hr with rfl | ⟨g1, g2⟩
              · intro id hid; simp at hid
              · exact m4 L' g1 g2
            rcases pf hok with hok | hok
            · simp only [Bool.and_eq_true] at hok
              refine ⟨L, .inl rfl, main L fun S w ρ hr => .inr ⟨hok.1, fun id hid => ?_⟩⟩
              have hmem := List.all_eq_true.1 hok.2 id hid
              simp only [Bool.not_eq_true'] at hmem
              by_cases hlt : Nat.blt id H.nx = true
              · exact hout id hmem hlt
              · exfalso
                have hfree : H.get id = .free := by unfold Hp.get; simp only [Bool.not_eq_true] at hlt; rw [hlt]
                have hnl : ∀ (l : List Nat), id ∈ l → cF H.get l = true → False := by
                  intro l
                  induction l with
                  | nil => intro h; simp at h
                  | cons j t ih =>
                    intro hm hl
                    simp only [cF] at hl
                    rcases List.mem_cons.1 hm with e | e
                    · subst e; rw [hfree] at hl; cases hl
                    · split at hl
                      · exact ih e hl
                      · exact ih e hl
                      · cases hl
                exact hnl L hid hok.1
            · exact ⟨[], .inr hok, main [] fun _ _ _ _ => .inl rfl⟩
          split at h
          · rw [nV] at h
            obtain ⟨L', g1, g2⟩ := fin H1 H1.es rs rfl (fun i => .inl rfl) (fun K S w ρ xs h1 h2 h3 => ⟨S, h1, h2, Up.refl, h3⟩)
            exact ⟨_, _, L', g1, g2, h⟩
          · obtain ⟨rs2, H2, e1, e2, e3⟩ := qP H.nx rs H1
            rw [e1] at h
            rw [nv, nV] at h
            obtain ⟨L', g1, g2⟩ := fin H2 (dm _ H2.es) rs2 e2 (fun i => by
              rcases mn (R := ll H2 60 (nI rs2 R) []) (i := i) (l := H2.es) with e | ⟨_, e⟩
              · exact .inl e
              · exact .inr e) e3
            exact ⟨_, _, L', g1, g2, h⟩
        · exact absurd h (hX _ _)
      · exact absurd h (hX _ _)
    · exact absurd h (hX _ _)
    · exact absurd h (hX _ _)
  · exact absurd h (hX _ _)
theorem l7 (hT : TabOk P T) (IH : ∀ p s F H K Q n, hO P K Q n (ih p s F H) → Go P K Q p s n F H) {X : Rs → Prop} (hX : ∀ n m, ¬ X (.er n m)) {ok : Bool} {c : Option V → Hp → Rs} (h : X (nY T ih F H L ok o c)) : ∃ u H', lG P K o L ok n F H u H' ∧ X (c (some u) H') := by
  unfold nY at h
  split at h
  · rename_i v hv
    exact ⟨v, H, w4 hT hv, h⟩
  · rw [cZ] at h
    split at h
    · rename_i v ed hv
      split at h
      · rename_i hc
        rw [Hp.ap_eq] at h
        refine ⟨_, _, ej hT hv hc, ?_⟩
        cases v with
        | none => exact h
        | some v => exact h
      · exact absurd h (hX _ _)
    · split at h
      · rename_i fid args tys hop
        split at h
        · rename_i vs hvs
          split at h
          · rename_i v hn
            obtain ⟨he, hnat⟩ := hT.nat _ _ _ hn
            refine ⟨v, H, eT (L' := L) he (by rw [hop]) hvs (fun S w ρ xs hr hi hx => ?_) (.inl rfl), h⟩
            obtain ⟨x, h1, h2⟩ := hnat S w ρ xs hx
            refine h2.mono fun e w' hR => ?_
            obtain ⟨rfl, rfl⟩ := hR
            exact ⟨x, S, ρ, v, H, rfl, ⟨rfl, rfl⟩, hr, hi, Up.refl, h1, k0⟩
          · split at h
            · rename_i fn hfn
              obtain ⟨hf, he⟩ := hT.fn _ _ hfn
              split at h
              · rename_i b hb
                split at h
                · rename_i hl
                  obtain ⟨u, H', L', g1, g2, g3⟩ := xD (K := K) hT IH hX hf hb hl h
                  exact ⟨u, H', eT he (by rw [hop]) hvs g2 g1, g3⟩
                · exact absurd h (hX _ _)
              · exact absurd h (hX _ _)
            · exact absurd h (hX _ _)
        · exact absurd h (hX _ _)
      · exact absurd h (hX _ _)
theorem ws {l : List Nat} {j : Nat} (h : ss l j = true) : l = [j] := by
  unfold ss at h
  split at h
  · rw [Nat.eq_of_beq_eq_true h]
  · cases h
theorem tt (hT : TabOk P T) (IH : ∀ p s F H K Q n, hO P K Q n (ih p s F H) → Go P K Q p s n F H) {i : Nat} {ps : List (Nat × Operand)} {vs : List (Nat × V)} {v : V} (hp : mw T all i vs = some (o, ps, v)) : ∀ (left : Nat) (listed : Array Bool) (F : Fm) (H : Hp), hO P K Q n (rO T ih all L m i o ps v s left listed F H) → GoP P K Q all L m left listed s n F H i o ps vs v
  | left, listed, F, H, h => by
    unfold rO at h
    split at h
    · rename_i hl
      split at h
      · rename_i x hrd
        split at h
        · rename_i hb
          have := Nat.eq_of_beq_eq_true hb
          subst this
          rw [Fm.puto_eq] at h
          exact zo hT hp hrd hl (IH _ _ _ _ _ _ _ h)
        · exact h.elim
      · rename_i x y hrd
        cases left with
        | zero => exact h.elim
        | succ left =>
          simp only [cZ] at h
          generalize hj : uK x y i = j at h
          unfold uK at hj
          split at h
          · exact h.elim
          · rename_i hji
            have hne : j ≠ i := Nat.ne_of_beq_eq_false hji
            split at h
            · rename_i oj hoj
              split at h
              · rename_i hc
                simp only [Bool.and_eq_true] at hc
                obtain ⟨⟨⟨hc1, hc2⟩, hc3⟩, hc4⟩ := hc
                split at h
                · rename_i hw
                  obtain ⟨u, H', hx, hk⟩ := l7 (K := K) (n := n) hT IH (X := hO P K Q n) (fun _ _ h => h) h
                  rw [Fm.puto_eq] at hk
                  have ih2 := tt hT IH hp left _ _ _ hk
                  have hpair : (match Region.ready .any all listed with | [x, y] => (Nat.beq x i && Nat.beq y j) || (Nat.beq x j && Nat.beq y i) | _ => false) = true := by
                    rw [hrd]
                    simp only []
                    cases hx1 : Nat.beq x i
                    · rw [hx1] at hj
                      cases hy1 : Nat.beq y i
                      · rw [hy1] at hj; exact absurd hj.symm hne
                      · rw [hy1] at hj; simp only at hj; subst hj; simp
                    · rw [hx1] at hj; simp only at hj; subst hj; simp
                  refine xb hT hp hoj hpair (ws hc1) hl (fun t ht => ?_) hc2 hc3 (Array.setIfInBounds_comm _ _ (Ne.symm hne)) (Post := fun u' H'' => u' = u ∧ H'' = H') (fun S w ρ a hr hi hF K2 hK2 => ?_) (fun u' H'' hP => by obtain ⟨rfl, rfl⟩ := hP; exact ih2)
                  · rw [ht] at hc4
                    simp only [Option.isNone_iff_eq_none] at hc4
                    exact hc4
                  · unfold wpOp
                    simp only [hoj]
                    rw [if_pos (cw hF hw)]
                    refine .inl (hx S w ρ a hr hi hF _ _ fun x S' w' ρ' hr' hi' hu hA hL hv => hK2 x S' w' ρ' u H' ⟨rfl, rfl⟩ hr' hi' hu hA (hL.imp id fun h => ?_) hv)
                    simpa only [Bool.and_eq_true] using h
                · exact h.elim
              · exact h.elim
            · exact h.elim
      · exact h.elim
    · exact h.elim
theorem yH (hT : TabOk P T) (IH : ∀ p s F H K Q n, hO P K Q n (ih p s F H) → Go P K Q p s n F H) {i j : Nat} {left : Nat} {listed : Array Bool} (hrd : Region.ready .any all listed = [i, j]) (h : hO P K Q n (x5 T ih all L m left i j listed s F H)) : Go P K Q (.drw all L m (left + 1) listed) s n F H := by
  unfold x5 at h
  split at h
  · rename_i oi hoi
    split at h
    · rename_i oj hoj
      split at h
      · rename_i hwi
        split at h
        · rename_i hwj
          obtain ⟨ui, Hi, xi, hk⟩ := l7 (K := K) (n := n) hT IH (X := hO P K Q n) (fun _ _ h => h) h
          rw [Fm.puto_eq] at hk
          split at hk
          · rename_i F1 H1 e1
            obtain ⟨uj, Hj, xj, hk2⟩ := l7 (K := K) (n := n) hT IH (X := hO P K Q n) (fun _ _ h => h) hk
            rw [Fm.puto_eq] at hk2
            split at hk2
            · rename_i F2 H2 e2
              split at hk2
              · rename_i hal
                have c : Go P K Q (.ex .normal) s n F1 H1 := IH _ _ _ _ _ _ _ hk2
                intro S w ρ a hr hi hF
                have hpin : ∀ id x, K.pin id = some x → id < H.nx := fun id x hx => Decidable.byContradiction fun hn => by
                  have h1 := hi.pin id x hx
                  have h2 := hr.ob id
                  have h3 : H.get id = .free := by
                    unfold Hp.get
                    have : Nat.blt id H.nx = false := by
                      cases hb : Nat.blt id H.nx
                      · rfl
                      · exact absurd (by simpa [Nat.blt_eq] using hb) hn
                    simp only [this]
                  rw [h3] at h2
                  have h4 : ρ id = none := h2
                  rw [h4] at h1; cases h1
                have g1 : Go P K (dg P Q s) (.drw all L m left (listed.setIfInBounds i true)) [] n (F.seto oi.dst (some ui)) Hi := IH _ _ _ _ _ _ _ (by rw [e1]; exact fun S w ρ a hr hi hF => c S w ρ a hr hi hF)
                have g2 : Go P K (dg P Q s) (.drw all L m left (listed.setIfInBounds j true)) [] n (F.seto oj.dst (some uj)) Hj := IH _ _ _ _ _ _ _ (by rw [e2]; exact fun S w ρ a hr hi hF => go_alike hal hpin c S w ρ a hr hi hF)
                exact e6 (by rw [hrd]; simp) hoi hoj hwi hwj xi xj g1 g2 S w ρ a hr hi hF
              · exact hk2.elim
            · exact hk2.elim
            · exact hk2.elim
          · exact hk.elim
          · exact hk.elim
        · exact h.elim
      · exact h.elim
    · exact h.elim
  · exact h.elim
theorem mB : ∀ {R : List Nat} {i : Nat} {ps : List (Nat × Operand)} {v : V}, mX T F all R = some (i, o, ps, v) → ∃ vs, i7 F ps = some vs ∧ mw T all i vs = some (o, ps, v)
  | [], _, _, _, h => by cases h
  | j :: r, i, ps, v, h => by
    unfold mX at h
    split at h
    · rename_i hj
      split at h
      · rename_i vs hvs
        split at h
        · rename_i o' ps' v' hpb
          simp only [Option.some.injEq, Prod.mk.injEq] at h
          obtain ⟨rfl, rfl, rfl, rfl⟩ := h
          refine ⟨vs, ?_, hpb⟩
          have := hpb
          unfold mw at this
          rw [hj] at this
          simp only at this
          repeat' (split at this)
          all_goals first
            | (cases this; done)
            | (simp only [cZ, Option.some.injEq, Prod.mk.injEq] at this; obtain ⟨_, rfl, _⟩ := this; exact hvs)
        · exact mB h
      · exact mB h
    · exact mB h
theorem y7 (hT : TabOk P T) (hm : P.follows .mixedOrders = true) (IH : ∀ p s F H K Q n, hO P K Q n (ih p s F H) → Go P K Q p s n F H) : ∀ (p : EP) (s : List EI) (F : Fm) (H : Hp), hO P K Q n (step T ih p s F H) → Go P K Q p s n F H
  | .code c, s, F, H, h => by
    replace h : hO P K Q n (uG T ih c s F H) := h
    unfold uG at h
    split at h
    · exact wL (IH _ _ _ _ _ _ _ h)
    · exact tv (IH _ _ _ _ _ _ _ h)
    · exact tW (IH _ _ _ _ _ _ _ h)
    · exact go_ret (IH _ _ _ _ _ _ _ h)
    · exact uk (IH _ _ _ _ _ _ _ h)
    · exact yc (IH _ _ _ _ _ _ _ h)
    · exact xz (IH _ _ _ _ _ _ _ h)
    · exact go_loop 1000000 (IH _ _ _ _ _ _ _ h)
    · split at h
      · exact rY ‹_› (IH _ _ _ _ _ _ _ h)
      · exact sr ‹_› (IH _ _ _ _ _ _ _ h)
      · exact h.elim
    · exact rD (IH _ _ _ _ _ _ _ h)
    · split at h
      · rename_i hs
        simp only [ct, cZ] at h
        exact uo _ _ _ rfl hm hs (IH _ _ _ _ _ _ _ h)
      · exact h.elim
    · exact h.elim
  | .ops all rest, s, F, H, h => by
    replace h : hO P K Q n (sb T ih all rest s F H) := h
    unfold sb at h
    split at h
    · exact v8 (IH _ _ _ _ _ _ _ h)
    · split at h
      · rw [Fm.puto_eq] at h
        exact wz ‹_› (IH _ _ _ _ _ _ _ h)
      · obtain ⟨u, H', hx, hk⟩ := l7 (K := K) (n := n) hT IH (X := hO P K Q n) (fun _ _ h => h) h
        rw [Fm.puto_eq] at hk
        exact AE ‹_› hx (IH _ _ _ _ _ _ _ hk)
      · exact h.elim
  | .ex e, s, F, H, h => by
    replace h : hO P K Q n (uL ih e s F H) := h
    unfold uL at h
    split at h
    · split at h
      · exact fun S w ρ a hr hi hF => h S w ρ a hr hi hF
      · exact fun S w ρ a hr hi hF => h S w ρ a hr hi hF
      · exact h.elim
    · split at h
      · exact uy (IH _ _ _ _ _ _ _ h)
      · exact tq (IH _ _ _ _ _ _ _ h)
      · exact sX (IH _ _ _ _ _ _ _ h)
      · exact h.elim
    · split at h
      · split at h
        · exact h.elim
        · exact ao (IH _ _ _ _ _ _ _ h)
      · exact ay (IH _ _ _ _ _ _ _ h)
      · exact aK (IH _ _ _ _ _ _ _ h)
      · exact h.elim
    · split at h
      · exact xU (IH _ _ _ _ _ _ _ h)
      · exact yb (IH _ _ _ _ _ _ _ h)
      · exact yh (IH _ _ _ _ _ _ _ h)
      · exact h.elim
    · split at h
      · exact sM (IH _ _ _ _ _ _ _ h)
      · split at h
        · exact sT ‹_› (IH _ _ _ _ _ _ _ h)
        · exact rZ ‹_› (IH _ _ _ _ _ _ _ h)
      · exact sO (IH _ _ _ _ _ _ _ h)
      · exact h.elim
  | .drw all L m left listed, s, F, H, h => by
    replace h : hO P K Q n (uT T ih all L m left listed s F H) := h
    unfold uT at h
    split at h
    · exact sF ‹_› (IH _ _ _ _ _ _ _ h)
    · rename_i i R hrd
      cases left with
      | zero => exact h.elim
      | succ left =>
        simp only [] at h
        split at h
        · split at h
          · rename_i o ho
            split at h
            · rw [Fm.puto_eq] at h
              exact go_d1S hrd ho ‹_› (IH _ _ _ _ _ _ _ h)
            · obtain ⟨u, H', hx, hk⟩ := l7 (K := K) (n := n) hT IH (X := hO P K Q n) (fun _ _ h => h) h
              rw [Fm.puto_eq] at hk
              exact z6 hrd ho ‹_› hx (IH _ _ _ _ _ _ _ hk)
            · exact h.elim
          · exact h.elim
        · split at h
          · split at h
            · rename_i o ho
              split at h
              · rename_i hc
                simp only [Bool.and_eq_true, Bool.not_eq_true'] at hc
                obtain ⟨⟨hc1, hc2⟩, hc3⟩ := hc
                split at h
                · rw [Fm.puto_eq] at h
                  exact uU hc3 ho hc2 hc1 ‹_› (IH _ _ _ _ _ _ _ h)
                · rename_i hw
                  split at h
                  · rename_i v hv
                    rw [Fm.puto_eq] at h
                    exact yB hT hc3 ho hc2 hc1 hw hv (IH _ _ _ _ _ _ _ h)
                  · split at h
                    · rename_i id hid
                      split at h
                      · rename_i hL
                        simp only [Bool.and_eq_true, Bool.not_eq_true'] at hL
                        obtain ⟨⟨hL1, hL2⟩, hL3⟩ := hL
                        split at h
                        · rename_i v ed hv
                          rw [Fm.puto_eq] at h
                          exact uY hT hc3 hL2 hL3 ho hc2 hc1 hw hid hL1 hv (IH _ _ _ _ _ _ _ h)
                        · exact h.elim
                      · exact h.elim
                    · exact h.elim
                · exact h.elim
              · exact h.elim
            · exact h.elim
          · split at h
            · rename_i i' o ps v hpo
              rw [Fm.puto_eq] at h
              obtain ⟨vs, g1, g2⟩ := mB hpo
              exact wq g1 (tt hT IH g2 left listed _ _ h)
            · split at h
              · exact yH hT IH hrd h
              · exact h.elim
theorem w5 (hT : TabOk P T) (hm : P.follows .mixedOrders = true) : ∀ (k : Nat) (p : EP) (s : List EI) (F : Fm) (H : Hp) (K : Ctx) (Q : Exit → Act → World → Prop) (n : Nat), hO P K Q n (run T k p s F H) → Go P K Q p s n F H
  | 0, p, s, F, H, K, Q, n, h => h
  | k + 1, p, s, F, H, K, Q, n, h => y7 hT hm (fun p s F H K Q n h => w5 hT hm k p s F H K Q n h) p s F H h
def xd (T : Tab) (k : Nat) (fid : FuncId) (vs : List V) (H : Hp) : Option (List V × Hp) := match T.fn fid with
  | some fn => match fn.body with
    | some b => match Nat.ble vs.length fn.ntmps with
      | true => match run T k (.code b) [] (jF fn.ntmps vs) H with
        | .ok _ F1 H1 => match nK T H1.get F1 fn.results.toList with
          | some rs => some (rs, H1)
          | none => none
        | _ => none
      | false => none
    | none => none
  | none => none
theorem zj (hT : TabOk P T) (hm : P.follows .mixedOrders = true) {k : Nat} {fid : FuncId} {vs rs : List V} {H H1 : Hp} (h : xd T k fid vs H = some (rs, H1)) {S : Nat → Prop} {w : World} {ρ : Nat → Option Value} {xs : List Value} (hr : HRel S w ρ H.get) (hx : LRel S w ρ vs xs) : dF P fid = true ∧
    Calls P fid xs.toArray w fun e w' => ∃ S' ρ' ys, e = .returned (oN ys) ∧ HRel S' w' ρ' H1.get ∧ Inv ⟨w, S, fun b => ∃ id, own ρ id (H.get id) b, ρ⟩ S' w' ρ' H1.get ∧ LRel S' w' ρ' rs ys := by
  unfold xd at h
  split at h
  · rename_i fn hfn
    obtain ⟨hf, he⟩ := hT.fn _ _ hfn
    split at h
    · rename_i b hb
      split at h
      · rename_i hl
        split at h
        · rename_i e F1 H1' hrun
          split at h
          · rename_i rs' hres
            simp only [Option.some.injEq, Prod.mk.injEq] at h
            obtain ⟨rfl, rfl⟩ := h
            refine ⟨he, ?_⟩
            have hi1 : Inv ⟨w, S, fun b => ∃ id, own ρ id (H.get id) b, ρ⟩ S w ρ H.get := ⟨ChgP.refl _ _, fun _ h => h, fun _ h => .inl h, fun id b hb => .inl ⟨id, hb⟩, fun _ _ h => h⟩
            refine pL hf hb hl hr hi1 hx (w5 hT hm k _ _ _ _ _ _ _ ?_)
            rw [hrun]
            intro S' w' ρ' a' hr' hi' hF'
            obtain ⟨rl, hrl⟩ : ∃ l : List ResultVar, fn.results = l.toArray := ⟨fn.results.toList, by simp⟩
            rw [hrl] at hres
            refine ret_go hT (rs := rl) (by cases e <;> simp) hrl hr' hF' (by simpa using hres) fun x hvx => ?_
            have hLR := uw hvx
            obtain ⟨ys, hys, rfl⟩ := hLR
            exact ⟨S', ρ', ys, rfl, hr', hi', hys⟩
          · cases h
        · cases h
      · cases h
    · cases h
  · cases h
end
end Go.Proofs.YteglbnopdedadaaGreat
namespace Go.Proofs.YteglbnopdedadaaGreat
open Go.RowKit Lx Sx
set_option maxRecDepth 100000
def rP : List (List UInt8) → List V → Bool
  | [], [] => true
  | s :: r, .str l :: q => lEq s l && rP r q
  | _, _ => false
def tr (ls : List (List UInt8)) : V → Bool
  | .nils => ls.isEmpty
  | .row sz els => Nat.beq sz 1 && rP ls els
  | _ => false
mutual
def treeB : Tree → V → Bool
  | .node k s ls ks, v => match v with
    | .agg [.int .i64 k', .str s', l, r] => iEq k k' && lEq s s' && tr ls l && (match r with
      | .nils => ks.isEmpty
      | .row sz els => Nat.beq sz 4 && kidsB ks els
      | _ => false)
    | _ => false
def kidsB : List Tree → List V → Bool
  | [], vs => match vs with
    | [] => true
    | _ => false
  | t :: r, vs => match vs with
    | v :: q => treeB t v && kidsB r q
    | [] => false
end
section
variable {S : Nat → Prop} {w : World}
theorem tA {ρ : Nat → Option Value} : ∀ {ls : List (List UInt8)} {els : List V} {xs : List Value}, rP ls els = true → CRel S w ρ 1 els xs → els.length = ls.length ∧ xs = ls.map bp
  | [], [], xs, _, hc => by simp only [CRel] at hc; subst hc; exact ⟨rfl, rfl⟩
  | s :: r, v :: q, xs, hb, hc => by
    cases v <;> simp only [rP] at hb <;> first | (cases hb; done) | skip
    rename_i l
    simp only [Bool.and_eq_true] at hb
    have hl := hb.1
    rw [nj] at hl
    simp only [beq_iff_eq] at hl
    subst hl
    simp only [CRel] at hc
    obtain ⟨x, ys, rfl, _, h3, h4⟩ := hc
    simp only [VRel] at h3
    subst h3
    obtain ⟨h5, h6⟩ := tA hb.2 h4
    exact ⟨by simp [h5], by simp [h6, Value.cells]⟩
  | [], _ :: _, _, hb, _ => by cases hb
  | _ :: _, [], _, hb, _ => by cases hb
theorem wE {ρ : Nat → Option Value} {ls : List (List UInt8)} {v : V} {x : Value} (hb : tr ls v = true) (hx : VRel S w ρ v x) : ∃ A m, x = .slice A ls.length m ∧ ls.length ≤ m ∧ m ≤ maxLen ∧ RowIn S w 1 A ls.length (ls.map bp) := by
  cases v <;> simp only [tr] at hb <;> first | (cases hb; done) | skip
  · simp only [List.isEmpty_iff] at hb
    subst hb
    simp only [VRel] at hx; subst hx
    exact ⟨none, 0, rfl, Nat.le_refl _, by decide, RowIn.none_⟩
  · rename_i sz els
    simp only [Bool.and_eq_true, Nat.beq_eq] at hb
    obtain ⟨rfl, hb⟩ := hb
    simp only [VRel] at hx
    obtain ⟨A, c, xs, rfl, h3, h4, h5, h6⟩ := hx
    obtain ⟨h7, rfl⟩ := tA hb h5
    rw [h7] at h3 h6 ⊢
    exact ⟨A, c, rfl, h3, h4, h6⟩
mutual
theorem treeB_ok {ρ : Nat → Option Value} : ∀ {t : Tree} {v : V} {x : Value}, treeB t v = true → VRel S w ρ v x → ∃ c, x = .agg c.toArray ∧ TreeIs S w t c
  | .node k s ls ks, v, x, hb, hx => by
    unfold treeB at hb
    split at hb
    · rename_i k' s' l r
      simp only [Bool.and_eq_true] at hb
      obtain ⟨⟨⟨hb1, hb2⟩, hb3⟩, hb4⟩ := hb
      rw [oW] at hb1
      rw [nj] at hb2
      simp only [beq_iff_eq] at hb1 hb2
      subst hb1 hb2
      simp only [VRel] at hx
      obtain ⟨xs, rfl, hl⟩ := hx
      simp only [LRel] at hl
      obtain ⟨x0, _, rfl, h0, x1, _, rfl, h1, x2, _, rfl, h2, x3, _, rfl, h3, rfl⟩ := hl
      simp only [VRel] at h0 h1
      subst h0 h1
      obtain ⟨A, m, rfl, g1, g2, g3⟩ := wE hb3 h2
      have kk : ∃ B n, x3 = .slice B ks.length n ∧ ks.length ≤ n ∧ n ≤ maxLen ∧ ∃ cs, KidsAre S w ks cs ∧ RowIn S w 4 B ks.length cs := by
        split at hb4
        · simp only [List.isEmpty_iff] at hb4
          subst hb4
          simp only [VRel] at h3; subst h3
          exact ⟨none, 0, rfl, Nat.le_refl _, by decide, [], by simp only [KidsAre], RowIn.none_⟩
        · rename_i sz els
          simp only [Bool.and_eq_true, Nat.beq_eq] at hb4
          obtain ⟨rfl, hb4⟩ := hb4
          simp only [VRel] at h3
          obtain ⟨B, c, ys, rfl, q3, q4, q5, q6⟩ := h3
          obtain ⟨q7, q8⟩ := kidsB_ok hb4 q5
          rw [q7] at q3 q6 ⊢
          exact ⟨B, c, rfl, q3, q4, ys, q8, q6⟩
        · cases hb4
      obtain ⟨B, n, rfl, k1, k2, cs, k3, k4⟩ := kk
      exact ⟨_, rfl, yM g1 g2 k1 k2 g3 k3 k4⟩
    · cases hb
theorem kidsB_ok {ρ : Nat → Option Value} : ∀ {ts : List Tree} {vs : List V} {xs : List Value}, kidsB ts vs = true → CRel S w ρ 4 vs xs → vs.length = ts.length ∧ KidsAre S w ts xs
  | [], vs, xs, hb, hc => by
    unfold kidsB at hb
    split at hb
    · simp only [CRel] at hc; subst hc; exact ⟨rfl, by simp only [KidsAre]⟩
    · cases hb
  | t :: r, vs, xs, hb, hc => by
    unfold kidsB at hb
    split at hb
    · rename_i v q
      simp only [Bool.and_eq_true] at hb
      simp only [CRel] at hc
      obtain ⟨x, ys, rfl, _, h3, h4⟩ := hc
      obtain ⟨c, rfl, hT⟩ := treeB_ok hb.1 h3
      obtain ⟨h5, h6⟩ := kidsB_ok hb.2 h4
      exact ⟨by simp [h5], by simp only [KidsAre]; exact ⟨c, ys, by simp [Value.cells], hT, h6⟩⟩
    · cases hb
end
end
def sZ (T : Tab) (k : Nat) (fid : FuncId) (vs : List V) : Option (List V) := match xd T k fid vs ⟨0, []⟩ with
  | some (rs, H1) => sE 0 H1 rs fun rs' _ => some rs'
  | none => none
theorem mR (i : Nat) : (⟨0, []⟩ : Hp).get i = .free := by
  unfold Hp.get
  have : Nat.blt i 0 = false := by cases i <;> rfl
  simp only [this]
theorem yD (w : World) : HRel (fun _ => False) w (fun _ => none) (⟨0, []⟩ : Hp).get :=
  ⟨fun i => by rw [mR]; rfl, fun i b hb => by rw [mR] at hb; exact hb.elim, fun i j b hb _ => by rw [mR] at hb; exact hb.elim, fun _ h => h.elim⟩
theorem yS {P : Program} {T : Tab} (hT : TabOk P T) (hm : P.follows .mixedOrders = true) {k : Nat} {fid : FuncId} {vs rs : List V} (h : sZ T k fid vs = some rs) {w : World} {xs : List Value} (hx : LRel (fun _ => False) w (fun _ => none) vs xs) :
    Calls P fid xs.toArray w fun e w' => ∃ S' ρ' ys, e = .returned (oN ys) ∧ (∀ b, S' b → w.heap.size ≤ b) ∧ Chg [] w w' ∧ LRel S' w' ρ' rs ys := by
  unfold sZ at h
  split at h
  · rename_i rs1 H1 hrun
    obtain ⟨rs2, H2, e1, _, e3⟩ := qP 0 rs1 H1
    rw [e1] at h
    injection h with h; subst h
    have hr0 := yD w
    refine (zj hT hm hrun hr0 hx).2.mono fun e w' hR => ?_
    obtain ⟨S', ρ', ys, rfl, hr, hi, hl⟩ := hR
    obtain ⟨S2, a1, a2, a3, a4⟩ := e3 _ S' w' ρ' ys hr hi hl
    have hno : ∀ b, ¬ ∃ id, own (fun _ => none) id ((⟨0, []⟩ : Hp).get id) b := fun b ⟨id, hb⟩ => by rw [mR] at hb; exact hb
    refine ⟨S2, ρ', ys, rfl, fun b hb => ?_, ⟨hi.chg.os, hi.chg.tape, hi.chg.output, hi.chg.size, fun b hb _ => hi.chg.block b hb (hno b)⟩, a4⟩
    rcases a2.s1 b hb with h | h | h
    · exact h.elim
    · exact absurd h (hno b)
    · exact h
  · cases h
def xJ (fid : FuncId) (vs : List V) : Option V := match Nat.beq fid 115 with
  | true => match vs with
    | [.str s, .int .u8 (.ofNat c)] => vH (Lib.indexByte s c.toUInt8) fun n => some (.int .i64 n)
    | _ => none
  | false => none
noncomputable def vD : Tab := ⟨true, lf tyL, lf fnL, xJ, fun f => Nat.beq f 60⟩
theorem zC : TabOk Tryz.prog vD := by
  refine ⟨wC, As, fun i vs v hv => ?_⟩
  replace hv : xJ i vs = some v := hv
  unfold xJ at hv
  split at hv
  · rename_i hb
    have := Nat.eq_of_beq_eq_true hb
    subst this
    split at hv
    · rename_i s c
      rw [un] at hv
      injection hv with hv; subst hv
      refine ⟨by kernel_rfl, fun S w ρ xs hx => ?_⟩
      simp only [LRel] at hx
      obtain ⟨x0, _, rfl, h0, x1, _, rfl, h1, rfl⟩ := hx
      simp only [VRel] at h0 h1
      subst h0 h1
      exact ⟨_, by simp only [VRel]; rfl, uN _ _ _⟩
    · cases hv
  · cases hv
def o4 (t : Tree) : Option (List V) → Bool
  | some [v, .int .i64 a, .int .i64 e] => treeB t v && iEq a 0 && iEq e 0
  | _ => false
theorem w8 {k : Nat} {l : List UInt8} {t : Tree} (h : o4 t (sZ vD k 36 [.str l]) = true) {w : World} : Calls Tryz.prog 36 [bp l].toArray w fun e w' => ∃ c0 c1 c2 c3, e = .returned (.tuple #[.agg #[c0, c1, c2, c3], .int .i64 0, .int .i64 0]) ∧ TreeIs (fun b => w.heap.size ≤ b) w' t [c0, c1, c2, c3] ∧ Chg [] w w' := by
  unfold o4 at h
  split at h
  · rename_i v a e hr
    simp only [Bool.and_eq_true, oW, beq_iff_eq] at h
    obtain ⟨⟨h1, rfl⟩, rfl⟩ := h
    refine (yS zC (by kernel_rfl) hr (xs := [bp l]) ⟨_, [], rfl, by simp only [VRel], rfl⟩).mono fun e w' hR => ?_
    obtain ⟨S', ρ', ys, rfl, g1, g2, g3⟩ := hR
    simp only [LRel] at g3
    obtain ⟨x0, _, rfl, h0, x1, _, rfl, h2, x2, _, rfl, h3, rfl⟩ := g3
    simp only [VRel] at h2 h3
    subst h2 h3
    obtain ⟨c, rfl, hT⟩ := treeB_ok h1 h0
    have h4 := hT.four
    match c, h4, hT with
    | [c0, c1, c2, c3], _, hT => exact ⟨c0, c1, c2, c3, rfl, hT.keep g1 (fun _ _ _ => rfl), g2⟩
  · cases h
end Go.Proofs.YteglbnopdedadaaGreat
namespace Go.Proofs.YteglbnopdedadaaGreat
open Go.RowKit Lx Sx
section
variable {S : Nat → Prop} {w : World} {ρ : Nat → Option Value}
theorem sm : ∀ ls : List (List UInt8), CRel S w ρ 1 (ls.map .str) (ls.map bp)
  | [] => by simp [CRel]
  | s :: r => by
    simp only [List.map_cons, CRel]
    exact ⟨bp s, r.map bp, by simp [Value.cells, bp], ⟨rfl, rfl⟩, by unfold VRel; rfl, sm r⟩
theorem tp : ∀ ls : List Int, CRel S w ρ 1 (ls.map (V.int .i64)) (ls.map fun z => .int .i64 z)
  | [] => by simp [CRel]
  | s :: r => by
    simp only [List.map_cons, CRel]
    exact ⟨.int .i64 s, _, by simp [Value.cells], ⟨rfl, rfl⟩, by unfold VRel; rfl, tp r⟩
mutual
theorem TreeIs.vrel : ∀ {ρ : Nat → Option Value} {t : Tree} {c : List Value}, TreeIs S w t c → LRel S w ρ (ak t) c
  | ρ, .node k s ls ks, c, h => by
    simp only [TreeIs] at h
    obtain ⟨A, m, B, n, rfl, h1, h2, h3, h4, h5, cs, h6, h7⟩ := h
    simp only [ak, Tree.kind, Tree.text, Tree.leads, Tree.kids, LRel, VRel]
    exact ⟨_, _, rfl, rfl, _, _, rfl, rfl, _, _, rfl, ⟨A, m, _, by simp, by simpa using h1, h2, sm ls, by simpa using h5⟩, _, _, rfl, ⟨B, n, cs, by simp [li], by simpa [li] using h3, h4, KidsAre.crel h6, by simpa [li] using h7⟩, rfl⟩
theorem KidsAre.crel : ∀ {ρ : Nat → Option Value} {ts : List Tree} {cs : List Value}, KidsAre S w ts cs → CRel S w ρ 4 (kidsV ts) cs
  | ρ, [], cs, h => by simp only [KidsAre] at h; simp only [kidsV, CRel]; exact h
  | ρ, t :: r, cs, h => by
    simp only [KidsAre] at h
    obtain ⟨c, d, rfl, h1, h2⟩ := h
    simp only [kidsV, CRel, iJ]
    exact ⟨.agg c.toArray, d, by simp [Value.cells], ⟨by simp [Value.cells, h1.four], by simpa [Value.cells] using h1.one⟩, by simp only [VRel]; exact ⟨c, rfl, h1.vrel⟩, KidsAre.crel h2⟩
end
end
theorem ze {k : Nat} {l : List UInt8} {t : Tree} (h : o4 t (sZ vD k 36 [.str l]) = true) : aV Tryz.prog 36 [.str l] (.tup [.agg (ak t), .int .i64 0, .int .i64 0]) := by
  refine ⟨rfl, rfl, fun S w ρ xs hr hx => ?_⟩
  simp only [LRel, VRel] at hx
  obtain ⟨x, ys, rfl, rfl, rfl⟩ := hx
  refine (w8 h (w := w)).mono ?_
  rintro e w' ⟨c0, c1, c2, c3, rfl, hT, hc⟩
  have hT' := hT.bound
  have g := hr.chg0 hc
  refine ⟨_, fun b => S b ∨ (w.heap.size ≤ b ∧ b < w'.heap.size), ρ, _, ⟨0, []⟩, rfl, rfl, ⟨fun i => ?_, fun i b hb => ?_, fun i j b hb _ => ?_, fun b hb => hb.elim (g.slt b) (·.2)⟩, ⟨ChgP.of0 hc, fun _ h => .inl h, fun b hb => hb.elim .inl fun h => .inr (.inr h.1), fun id b hb => .inl ⟨id, hb⟩, fun id x h => ?_⟩, ?_⟩
  · have := g.ob i; rw [mR] at this ⊢; exact this
  · rw [mR] at hb; exact hb.elim
  · rw [mR] at hb; exact hb.elim
  · simp only [nw] at h
    split at h
    · exact h
    · cases h
  · have hk := TreeIs.vrel (ρ := ρ) (TreeIs.keep (S' := fun b => S b ∨ (w.heap.size ≤ b ∧ b < w'.heap.size)) (fun b hb => .inr hb) (fun _ _ _ => rfl) hT')
    simp only [VRel]
    exact ⟨[.agg #[c0, c1, c2, c3], .int .i64 0, .int .i64 0], rfl, .agg #[c0, c1, c2, c3], _, rfl, by simp only [VRel]; exact ⟨_, rfl, hk⟩, _, _, rfl, by simp only [VRel], _, _, rfl, by simp only [VRel], rfl⟩
theorem BE {fid : FuncId} {l : List Int} {b : Bool} (h : aV Tryz.prog fid [.row 1 (l.map (V.int .i64))] (.bool b)) {W : World} {A : Option Addr} {cap : Nat} (hc : l.length ≤ cap) (hm : cap ≤ maxLen) (hr : RowIn Any W 1 A l.length (l.map fun z => .int .i64 z)) : Calls Tryz.prog fid #[.slice A l.length cap] W fun e W' => e = .returned (.bool b) ∧ Ext W W' := by
  have h0 := yD W
  have hr' : HRel (fun b => b < W.heap.size) W (fun _ => none) (⟨0, []⟩ : Hp).get := ⟨h0.ob, fun i b hb => by rw [mR] at hb; exact hb.elim, fun i j b hb _ => by rw [mR] at hb; exact hb.elim, fun _ h => h⟩
  have hrow : RowIn (fun b => b < W.heap.size) W 1 A l.length (l.map fun z => .int .i64 z) := ⟨hr.1, fun hp => by
    obtain ⟨b, off, h1, _, h3, h4⟩ := hr.2 hp
    exact ⟨b, off, h1, h3, h3, h4⟩⟩
  refine (h.2.2 _ W _ [.slice A l.length cap] hr' ?_).mono ?_
  · simp only [LRel]
    exact ⟨_, _, rfl, by simp only [VRel]; exact ⟨A, cap, _, by simp, by simpa using hc, hm, tp l, by simpa using hrow⟩, rfl⟩
  · rintro e W' ⟨x, S', ρ', v, H', rfl, rfl, h1, h2, h3⟩
    simp only [VRel] at h3
    subst h3
    have hno : ∀ b, ¬ ∃ id, own (fun _ => none) id ((⟨0, []⟩ : Hp).get id) b := fun b ⟨id, hb⟩ => by rw [mR] at hb; exact hb
    exact ⟨rfl, Chg.ext ⟨h2.chg.os, h2.chg.tape, h2.chg.output, h2.chg.size, fun b hb _ => h2.chg.block b hb (hno b)⟩⟩
end Go.Proofs.YteglbnopdedadaaGreat
namespace Go.Proofs.YteglbnopdedadaaGreat
open Go.RowKit Lx Sx
set_option maxRecDepth 100000
theorem lJ (l : List Int) : d7 l (decide (((l.length : Nat) : Int) ≤ 120)) := og 0 _ _ rfl
end Go.Proofs.YteglbnopdedadaaGreat
namespace Go.Proofs.YteglbnopdedadaaGreat
open Go.RowKit Lx Sx
set_option maxRecDepth 100000
theorem mG (l : List Int) (hl : l.length ≤ 1000000) : ∃ fs, cS l fs ∧ (∀ f ∈ fs, tbulk f ≤ 1000000) ∧ fs.length ≤ 1000000 := by
  obtain ⟨p, h1, h2⟩ := vZ l hl
  have loop : ∀ (k i : Nat) (a : List Tree), p.length - i ≤ k → (∀ f ∈ a, tbulk f ≤ 1000000) → a.length + kbulk (p.drop i) ≤ 1000000 → ∃ m r, cG m p i a r ∧ (∀ f ∈ r, tbulk f ≤ 1000000) ∧ r.length ≤ 1000000 := fun k => by
    have fin : ∀ (i : Nat) (a : List Tree), ¬ i < p.length → (∀ f ∈ a, tbulk f ≤ 1000000) → a.length ≤ 1000000 → ∃ m r, cG m p i a r ∧ (∀ f ∈ r, tbulk f ≤ 1000000) ∧ r.length ≤ 1000000 := fun i a hi ha hal => ⟨1, a, ij 0 _ _ _ _ ⟨fun h => absurd h hi, fun _ => rfl⟩, ha, hal⟩
    induction k with
    | zero => intro i a hi ha hb; exact fin i a (by omega) ha (by omega)
    | succ k ih =>
      intro i a hi ha hb
      obtain ⟨t, ht, hlt⟩ | h' := aE p i
      rotate_left
      · exact fin i a h' ha (by omega)
      · rw [ci ht, kbulk] at hb
        have htb := jU ht
        have hteq := bA t
        have inner : ∀ (j d : Nat) (a : List Tree), t.kids.length - d ≤ j → (∀ f ∈ a, tbulk f ≤ 1000000) → a.length + kbulk (t.kids.drop d) + kbulk (p.drop (i + 1)) ≤ 1000000 → ∃ m r, cb m p a d i r ∧ (∀ f ∈ r, tbulk f ≤ 1000000) ∧ r.length ≤ 1000000 := fun j => by
          have fin1 : ∀ (d : Nat) (a : List Tree), ¬ d < t.kids.length → (∀ f ∈ a, tbulk f ≤ 1000000) → a.length + kbulk (t.kids.drop d) + kbulk (p.drop (i + 1)) ≤ 1000000 → ∃ m r, cb m p a d i r ∧ (∀ f ∈ r, tbulk f ≤ 1000000) ∧ r.length ≤ 1000000 := fun d a hd ha hb => by
            obtain ⟨m, r, hm, hr⟩ := ih (i + 1) a (by omega) ha (by omega)
            have := oC p
            exact ⟨m + 1, r, eG m _ _ _ _ _ ⟨t, ht, fun h => absurd h hd, fun _ => ⟨by omega, hm⟩⟩, hr⟩
          induction j with
          | zero => intro d a hd ha hb; exact fin1 d a (by omega) ha hb
          | succ j ihj =>
            intro d a hd ha hb
            obtain ⟨u, hu, hlu⟩ | h' := aE t.kids d
            rotate_left
            · exact fin1 d a h' ha hb
            · have hub := jU hu
              have hup := bn u
              rw [ci hu, kbulk] at hb
              by_cases h2' : u.kind = 2
              · obtain ⟨m, r, hm, hr⟩ := ihj (d + 1) (a ++ [u]) (by omega) (fun f hf => by
                  rcases List.mem_append.1 hf with h | h
                  · exact ha f h
                  · simp only [List.mem_singleton] at h; subst h; omega) (by simp; omega)
                exact ⟨m + 1, r, eG m _ _ _ _ _ ⟨t, ht, fun _ => ⟨t, ht, u, hu, fun _ => ⟨t, ht, u, hu, by simp; omega, hm⟩, fun h => absurd h2' h⟩, fun h => absurd hlu h⟩, hr⟩
              · obtain ⟨m, r, hm, hr⟩ := ihj (d + 1) a (by omega) ha (by omega)
                exact ⟨m + 1, r, eG m _ _ _ _ _ ⟨t, ht, fun _ => ⟨t, ht, u, hu, fun h => absurd h h2', fun _ => hm⟩, fun h => absurd hlu h⟩, hr⟩
        obtain ⟨m, r, hm, hr⟩ := inner t.kids.length 0 a (by omega) ha (by rw [List.drop_zero]; omega)
        exact ⟨m + 1, r, ij m _ _ _ _ ⟨fun _ => hm, fun h => absurd hlt h⟩, hr⟩
  obtain ⟨m, r, hm, hr⟩ := loop p.length 0 [] (by omega) (by simp) (by rw [List.drop_zero]; simpa using h2)
  exact ⟨r, lY m _ _ ⟨p, h1, hm⟩, hr⟩
theorem zr (l : List GVariable) : iE l l true := by
  have loop : ∀ m i, l.length - i ≤ m → fa (m + 1) l l i true := fun m => by
    induction m with
    | zero => intro i hi; exact kt 0 _ _ _ _ ⟨fun h => by omega, fun h => rfl⟩
    | succ m ihm =>
      intro i hi
      refine kt (m + 1) _ _ _ _ ⟨fun h => ?_, fun h => rfl⟩
      obtain ⟨u, hu, _⟩ | h' := aE l i
      · exact ⟨u, hu, u, hu, fun h => absurd rfl h, fun _ => ⟨u, hu, u, hu, _, kE _, fun h => (by cases h), fun _ => ⟨u, hu, u, hu, _, kE _, fun h => (by cases h), fun _ => ihm (i + 1) (by omega)⟩⟩⟩
      · exact absurd h h'
  exact ot (l.length + 1) _ _ _ ⟨fun h => absurd rfl h, fun _ => loop l.length 0 (by omega)⟩
theorem xt (aw : bI true) (l : List Int) : gh l true := by
  refine Classical.byCases (fun h : ((l.length : Nat) : Int) ≤ 120 => ?_) (fun h => f4 0 _ _ ⟨_, lJ l, fun _ => ⟨_, aw, rfl⟩, fun h' => absurd (of_decide_eq_true h') h⟩)
  obtain ⟨fs, h1, h2, _⟩ := mG l (by omega)
  have loop : ∀ (k i : Nat), fs.length - i ≤ k → ∃ m, ca m fs i true := fun k => by
    have fin : ∀ i, ¬ i < fs.length → ∃ m, ca m fs i true := fun i hi => ⟨1, fL 0 _ _ _ ⟨fun h => absurd h hi, fun _ => ⟨_, aw, rfl⟩⟩⟩
    induction k with
    | zero => intro i hi; exact fin i (by omega)
    | succ k ih =>
      intro i hi
      obtain ⟨f, hf, hlt⟩ | h' := aE fs i
      · have hb := h2 f (List.mem_of_getElem? hf)
        obtain ⟨m, hm⟩ := ih (i + 1) (by omega)
        exact ⟨m + 1, fL m _ _ _ ⟨fun _ => ⟨f, hf, f, hf, _, lK f (by omega), _, tm f (by omega), _, zr _, fun h => (by cases h), fun _ => hm⟩, fun h => absurd hlt h⟩⟩
      · exact fin i h'
  obtain ⟨m, hm⟩ := loop fs.length 0 (by omega)
  exact f4 m _ _ ⟨_, lJ l, fun h' => absurd h (of_decide_eq_false h'), fun _ => ⟨fs, h1, hm⟩⟩
end Go.Proofs.YteglbnopdedadaaGreat
namespace Go.Proofs.YteglbnopdedadaaGreat
open Go.RowKit Go.ChangeShapes Go.WideShapes Go.Deep
theorem vW : Tryz.prog.cellsOf 3 = 1 := by kernel_rfl
theorem AS {H : Type} {enc : TypeId × Value → H} {W : World} {a0 : Option Addr} {len cap : Nat} {d : DataW H} {p : List MemPlace} (h : DataW.Trod enc Tryz.prog W 0 (fun _ => true) true 22 (.slice a0 len cap) d p) :
    ∃ zs : List Int, len = zs.length ∧ len ≤ cap ∧ cap ≤ maxLen ∧ RowIn Any W 1 a0 zs.length (zs.map fun z => .int .i64 z) := by
  obtain ⟨fuel, hf⟩ := h
  rcases open_ints Tryz.underlying22 Tryz.underlying3 vW hf with ⟨hcs, hx⟩ | ⟨a, len', cap', zs, hcs, hb, hl, hm, hlen, hx, hcell, hwf⟩
  · simp [Value.cells] at hcs
    obtain ⟨rfl, rfl, rfl⟩ := hcs
    exact ⟨[], rfl, Nat.le_refl _, Nat.zero_le _, RowIn.none_⟩
  · simp [Value.cells] at hcs
    obtain ⟨rfl, rfl, rfl⟩ := hcs
    simp only [if_true] at hlen
    have hlt : (zs.take len).length = len := by simp; omega
    refine ⟨zs.take len, hlt.symm, hl, hm, by simp, fun h0 => ?_⟩
    rw [hlt] at h0 ⊢
    have hs : a.spot = none := World.cell?_spot (a := a) (by have := hcell 0 (by omega); simpa [Addr.add] using this)
    obtain ⟨b, off, spot⟩ := a
    simp only at hs
    subst hs
    have hadd : ∀ k, (⟨b, off, none⟩ : Addr).add k = ⟨b, off + k, none⟩ := fun k => by unfold Addr.add; split <;> simp_all
    refine ⟨b, off, rfl, trivial, ?_, fun j hj => ?_⟩
    · have := hcell 0 (by omega)
      exact World.block_lt_of_cell? W ⟨b, off, none⟩ (by simpa [Addr.add] using this)
    · have hj' : j < len := by omega
      have := hcell j (by omega)
      rw [hadd] at this
      rw [this]
      simp [hj', List.getD_eq_getElem?_getD, show j < zs.length from by omega]
end Go.Proofs.YteglbnopdedadaaGreat
namespace Go.Proofs.YteglbnopdedadaaGreat
open Go.RowKit Lx Sx
set_option maxRecDepth 100000
def auL (t : Tree) : Tree → List Int → List GScopeBinder → List Int → List GScopeBinder × Bool
  | _, _, l, [] => (l, true)
  | u, done, l, n :: r => if n < 0 then ([], false) else match u.kids[n.toNat]? with
    | none => ([], false)
    | some v => auL t v (done ++ [n]) ((if done = [] ∧ n = (t.kids.length : Int) - 1 then iZ t else l) ++ (if u.kind = 20 ∧ n = 1 then [⟨u.text, done⟩] else [])) r
theorem sj (t : Tree) (q : List Int) (h2 : 2 ≤ t.kids.length) (ht : t.kids.length ≤ 100000000) (hq : q.length ≤ 100000000) : iQ t q (auL t t [] [] q).1 (auL t t [] [] q).2 := by
  have hs0 : (iZ t).length ≤ t.kids.length := by
    rw [iZ, List.length_reverse, pS, List.length_take]; omega
  have loop : ∀ (r done : List Int) (u : Tree) (l : List GScopeBinder), q = done ++ r → l.length ≤ t.kids.length + done.length → d9 (2 * r.length + 1) t q l u done.length (auL t u done l r).1 (auL t u done l r).2 := fun r => by
    induction r with
    | nil =>
      intro done u l hqd hl
      refine l5 0 _ _ _ _ _ _ _ ⟨fun h => by rw [hqd] at h; simp at h, fun _ => ⟨rfl, rfl⟩⟩
    | cons n r ih =>
      intro done u l hqd hl
      have hlen : done.length + (r.length + 1) = q.length := by rw [hqd]; simp
      have hn : q[done.length]? = some n := by rw [hqd, List.getElem?_append_right (Nat.le_refl _)]; simp
      have htk : q.take done.length = done := by rw [hqd, List.take_append_of_le_length (Nat.le_refl _), List.take_length]
      rw [show 2 * (n :: r).length + 1 = 2 * r.length + 1 + 1 + 1 by simp; omega]
      have e : auL t u done l (n :: r) = if n < 0 then ([], false) else match u.kids[n.toNat]? with
        | none => ([], false)
        | some v => auL t v (done ++ [n]) ((if done = [] ∧ n = (t.kids.length : Int) - 1 then iZ t else l) ++ (if u.kind = 20 ∧ n = 1 then [⟨u.text, done⟩] else [])) r := rfl
      have step : ∀ l', l' = (if done = [] ∧ n = (t.kids.length : Int) - 1 then iZ t else l) → ¬ n < 0 → ¬ ((u.kids.length : Nat) : Int) ≤ n → fP (2 * r.length + 1 + 1) t q n l' u done.length done.length (auL t u done l (n :: r)).1 (auL t u done l (n :: r)).2 := fun l' hl' h0 h1 => by
        have hll : l'.length ≤ t.kids.length + done.length := by rw [hl']; split <;> omega
        obtain ⟨v, hv, _⟩ | h' := aE u.kids n.toNat
        rotate_left
        · omega
        · rw [e, if_neg h0, hv]
          simp only
          rw [← hl']
          have hih := ih (done ++ [n]) v
          rw [List.length_append, List.length_singleton] at hih
          refine pN _ _ _ _ _ _ _ _ _ _ ⟨fun h20 => ⟨fun hn1 => ⟨by omega, by simp; omega, n.toNat, by omega, v, hv, by omega, ?_⟩, fun hn1 => ⟨n.toNat, by omega, v, hv, by omega, ?_⟩⟩, fun h20 => ⟨n.toNat, by omega, v, hv, by omega, ?_⟩⟩
          · rw [if_pos ⟨h20, hn1⟩, htk]
            exact hih (l' ++ [⟨u.text, done⟩]) (by rw [hqd]; simp) (by simp; omega)
          · rw [if_neg (fun h => hn1 h.2), List.append_nil]
            exact hih l' (by rw [hqd]; simp) (by omega)
          · rw [if_neg (fun h => h20 h.1), List.append_nil]
            exact hih l' (by rw [hqd]; simp) (by omega)
      refine l5 _ _ _ _ _ _ _ _ ⟨fun _ => ⟨n, hn, fun h0 => ?_, fun h0 => ⟨fun h1 => ?_, fun h1 => ⟨fun hd => ⟨fun hb => ⟨_, tc t h2 (by omega), ?_⟩, fun hb => ?_⟩, fun hd => ?_⟩⟩⟩, fun h => by omega⟩
      · rw [e, if_pos h0]; exact ⟨rfl, rfl⟩
      · rw [e, if_neg h0, List.getElem?_eq_none (by omega)]; exact ⟨rfl, rfl⟩
      · have hdn : done = [] := List.length_eq_zero_iff.1 (by omega)
        exact step _ (by rw [if_pos ⟨hdn, hb⟩]) h0 h1
      · exact step _ (by rw [if_neg (fun h => hb h.2)]) h0 h1
      · exact step _ (by rw [if_neg (fun h => hd (by rw [h.1]; rfl))]) h0 h1
  exact qz (2 * q.length + 1) _ _ _ _ (loop q [] t [] rfl (by simp))
theorem yK (stk : List GScopeBinder) (w : List UInt8) (hs : stk.length ≤ 1000000000) (hp : ∀ b ∈ stk, b.path.length ≤ 1000000000) : i2 stk w (cd stk.reverse w).1 (cd stk.reverse w).2 := by
  have loop : ∀ n, n ≤ stk.length → fM (n + 1) stk w ((n : Int) - 1) (cd (stk.take n).reverse w).1 (cd (stk.take n).reverse w).2 := fun n => by
    induction n with
    | zero => intro _; exact kL 0 _ _ _ _ _ ⟨fun h => by omega, fun _ => ⟨rfl, rfl⟩⟩
    | succ n ih =>
      intro hn
      obtain ⟨x, hx, _⟩ | h' := aE stk n
      · rw [r7 hx, cd]
        refine kL (n + 1) _ _ _ _ _ ⟨fun _ => ⟨n, by omega, x, hx, fun h => ⟨n, by omega, x, hx, _, t6 _ (hp x (List.mem_of_getElem? hx)), by rw [if_pos h], by rw [if_pos h]⟩, fun h => ⟨by omega, ?_⟩⟩, fun h => by omega⟩
        rw [if_neg h, show ((n + 1 : Nat) : Int) - 1 - 1 = (n : Int) - 1 by omega]
        exact ih (by omega)
      · omega
  have := loop stk.length (Nat.le_refl _)
  rw [List.take_length] at this
  exact oU (stk.length + 1) _ _ _ _ this
theorem rn (t : Tree) (q : List Int) (w : List UInt8) (hf : cp t = true) (ht : tbulk t ≤ 100000000) (hq : q.length ≤ 100000000) (hl : (auL t t [] [] q).1.length ≤ 1000000000) (hp : ∀ b ∈ (auL t t [] [] q).1, b.path.length ≤ 1000000000) : gi t q w (cd (auL t t [] [] q).1.reverse w).1 (cd (auL t t [] [] q).1.reverse w).2 := by
  have := cv t
  exact mo 0 _ _ _ _ _ ⟨_, qd t (by omega), fun h => (by rw [hf] at h; cases h), fun _ => ⟨_, _, sj t q (iA hf) (by omega) hq, _, _, yK _ w hl hp, rfl, rfl⟩⟩
end Go.Proofs.YteglbnopdedadaaGreat
namespace Go.Proofs.YteglbnopdedadaaGreat
open Go.RowKit Lx Sx
set_option maxRecDepth 100000
abbrev Nm := List UInt8
theorem qh : ∀ x : Nm, Op.bytesLess x x = false
  | [] => by simp [Op.bytesLess]
  | a :: x => by simp [Op.bytesLess, qh x]
theorem nR : ∀ {x y z : Nm}, Op.bytesLess x y = true → Op.bytesLess y z = true → Op.bytesLess x z = true
  | x, y, [], _, h => by cases y <;> simp [Op.bytesLess] at h
  | x, [], c :: z, h, _ => by cases x <;> simp [Op.bytesLess] at h
  | [], b :: y, c :: z, _, _ => by simp [Op.bytesLess]
  | a :: x, b :: y, c :: z, h, k => by
    simp only [Op.bytesLess, Bool.or_eq_true, Bool.and_eq_true, decide_eq_true_eq, beq_iff_eq] at h k ⊢
    rcases h with h | ⟨h1, h2⟩
    · rcases k with k | ⟨k1, _⟩
      · exact .inl (UInt8.lt_trans h k)
      · subst k1; exact .inl h
    · subst h1
      rcases k with k | ⟨k1, k2⟩
      · exact .inl k
      · exact .inr ⟨k1, nR h2 k2⟩
theorem v7 : ∀ {x y : Nm}, Op.bytesLess x y = false → Op.bytesLess y x = false → x = y
  | [], [], _, _ => rfl
  | [], b :: y, h, _ => by simp [Op.bytesLess] at h
  | a :: x, [], _, h => by simp [Op.bytesLess] at h
  | a :: x, b :: y, h, k => by
    simp only [Op.bytesLess, Bool.or_eq_false_iff, Bool.and_eq_false_imp, decide_eq_false_iff_not, beq_iff_eq] at h k
    have e : a = b := UInt8.le_antisymm (UInt8.not_lt.1 k.1) (UInt8.not_lt.1 h.1)
    subst e
    rw [v7 (h.2 rfl) (k.2 rfl)]
def asc : List Nm → Prop
  | [] => True
  | x :: r => (∀ y ∈ r, Op.bytesLess x y = true) ∧ asc r
def fy (w : Nm) : List Nm → List Nm
  | [] => [w]
  | x :: r => if Op.bytesLess x w = true then x :: fy w r else if x = w then x :: r else w :: x :: r
def cz (w : Nm) : List Nm → Nat
  | [] => 0
  | x :: r => if Op.bytesLess x w = true then cz w r + 1 else 0
theorem pb (w : Nm) : ∀ l, cz w l ≤ l.length
  | [] => Nat.le_refl _
  | x :: r => by have := pb w r; simp only [cz]; split <;> simp <;> omega
theorem m8 {w : Nm} : ∀ {l : List Nm} {i : Nat} {x : Nm}, asc l → l[i]? = some x → (Op.bytesLess x w = true ↔ i < cz w l)
  | [], i, x, _, h => by simp at h
  | y :: r, i, x, ha, h => by
    simp only [cz]
    by_cases hy : Op.bytesLess y w = true
    · rw [if_pos hy]
      cases i with
      | zero => simp only [List.getElem?_cons_zero, Option.some.injEq] at h; subst h; simp [hy]
      | succ i => rw [m8 (i := i) ha.2 (by simpa using h)]; omega
    · rw [if_neg hy]
      refine ⟨fun hx => absurd ?_ hy, fun h => by omega⟩
      cases i with
      | zero => simp only [List.getElem?_cons_zero, Option.some.injEq] at h; subst h; exact hx
      | succ i => exact nR (ha.1 x (List.mem_of_getElem? (i := i) (by simpa using h))) hx
theorem lO (w : Nm) : ∀ l, fy w l = if l[cz w l]? = some w then l else l.take (cz w l) ++ w :: l.drop (cz w l)
  | [] => by simp [fy, cz]
  | x :: r => by
    by_cases hx : Op.bytesLess x w = true
    · have e : cz w (x :: r) = cz w r + 1 := if_pos hx
      rw [show fy w (x :: r) = x :: fy w r from if_pos hx, lO w r]
      simp only [e, List.getElem?_cons_succ, List.take_succ_cons, List.drop_succ_cons]
      split <;> rfl
    · have e : cz w (x :: r) = 0 := if_neg hx
      rw [show fy w (x :: r) = if x = w then x :: r else w :: x :: r from if_neg hx]
      simp only [e]
      simp
theorem pI (w : Nm) : ∀ l y, y ∈ fy w l ↔ y = w ∨ y ∈ l
  | [], y => by simp [fy]
  | x :: r, y => by
    simp only [fy]
    split
    · simp only [List.mem_cons, pI w r]
      constructor
      · rintro (h | h | h)
        · exact .inr (.inl h)
        · exact .inl h
        · exact .inr (.inr h)
      · rintro (h | h | h)
        · exact .inr (.inl h)
        · exact .inl h
        · exact .inr (.inr h)
    · split
      · rename_i h; subst h; simp
      · simp
theorem nq (w : Nm) : ∀ l, asc l → asc (fy w l)
  | [], _ => ⟨fun y hy => by simp at hy, trivial⟩
  | x :: r, h => by
    simp only [fy]
    split
    · rename_i hx
      refine ⟨fun y hy => ?_, nq w r h.2⟩
      rcases (pI w r y).1 hy with rfl | hy
      · exact hx
      · exact h.1 y hy
    · rename_i hx
      split
      · exact h
      · rename_i hne
        have hwx : Op.bytesLess w x = true := by
          cases hb : Op.bytesLess w x
          · exact absurd (v7 (by simpa using hx) hb) hne
          · rfl
        refine ⟨fun y hy => ?_, h⟩
        rcases List.mem_cons.1 hy with rfl | hy
        · exact hwx
        · exact nR hwx (h.1 y hy)
theorem ut : ∀ {a b : List Nm}, asc a → asc b → (∀ y, y ∈ a ↔ y ∈ b) → a = b
  | [], [], _, _, _ => rfl
  | [], y :: b, _, _, h => by have := (h y).2 (by simp); simp at this
  | x :: a, [], _, _, h => by have := (h x).1 (by simp); simp at this
  | x :: a, y :: b, ha, hb, h => by
    have e : x = y := by
      rcases List.mem_cons.1 ((h x).1 (by simp)) with h1 | h1
      · exact h1
      · rcases List.mem_cons.1 ((h y).2 (by simp)) with h2 | h2
        · exact h2.symm
        · have := nR (ha.1 y h2) (hb.1 x h1); rw [qh] at this; cases this
    subst e
    rw [ut ha.2 hb.2 fun y => ?_]
    constructor
    · intro hy
      rcases List.mem_cons.1 ((h y).1 (List.mem_cons_of_mem _ hy)) with rfl | h1
      · have := ha.1 _ hy; rw [qh] at this; cases this
      · exact h1
    · intro hy
      rcases List.mem_cons.1 ((h y).2 (List.mem_cons_of_mem _ hy)) with rfl | h1
      · have := hb.1 _ hy; rw [qh] at this; cases this
      · exact h1
def jI (l : List Nm) (ns : List Nm) : List Nm := ns.foldl (fun l w => fy w l) l
theorem p7 : ∀ (ns l : List Nm), asc l → asc (jI l ns)
  | [], l, h => h
  | w :: r, l, h => p7 r (fy w l) (nq w l h)
theorem nA : ∀ (ns l : List Nm) y, y ∈ jI l ns ↔ y ∈ l ∨ y ∈ ns
  | [], l, y => by simp [jI]
  | w :: r, l, y => by
    have := nA r (fy w l) y
    simp only [jI, List.foldl_cons] at this ⊢
    rw [this, pI, List.mem_cons]
    constructor
    · rintro ((h | h) | h)
      · exact .inr (.inl h)
      · exact .inl h
      · exact .inr (.inr h)
    · rintro (h | h | h)
      · exact .inl (.inr h)
      · exact .inl (.inl h)
      · exact .inr h
theorem pF (w : Nm) : ∀ l, (fy w l).length ≤ l.length + 1
  | [] => Nat.le_refl _
  | x :: r => by have := pF w r; simp only [fy]; split <;> (try split) <;> simp <;> omega
theorem xq (ns : List Nm) : jI [] ns.reverse = jI [] ns := ut (p7 _ _ trivial) (p7 _ _ trivial) fun y => by rw [nA, nA, List.mem_reverse]
def typy (v : Tree) : Prop := shapeK v = true ∧ (iS v.kind = true ∨ v.kind = 4)
theorem xH {v w : Tree} {j : Nat} (h : typy v) (hj : v.kids[j]? = some w) : typy w := by
  obtain ⟨hs, hk⟩ := h
  rw [eS] at hs
  simp only [Bool.and_eq_true, decide_eq_true_eq] at hs
  have hk' : (5 ≤ v.kind ∧ v.kind ≤ 9) ∨ v.kind = 4 := by
    rcases hk with h | h
    · exact .inl (by simpa [iS] using h)
    · exact .inr h
  obtain ⟨h1, h2⟩ := hI hs.2 hj
  have hlen := (List.getElem?_eq_some_iff.1 hj).1
  refine ⟨h2, .inl ?_⟩
  have hl := hs.1.1
  by_cases h4 : v.kind = 4
  · rw [h4] at h1; simpa [gO] using h1
  · by_cases h8 : v.kind = 8
    · rw [h8] at h1; simpa [gO] using h1
    · exfalso
      have h5 : v.kind = 5 ∨ v.kind = 6 ∨ v.kind = 7 ∨ v.kind = 9 := by omega
      have : di v.kind v.kids.length = f0 v.kids.length 0 1 0 0 := by
        rcases h5 with e | e | e | e <;> rw [e] <;> rfl
      have h6 : f0 v.kids.length 0 1 0 0 = -1 := by
        unfold f0
        rw [if_pos ⟨by omega, by omega⟩]
      omega
theorem zx {v : Tree} (h : typy v) : v.kind ≠ 20 := by
  rcases h.2 with h | h
  · have : 5 ≤ v.kind ∧ v.kind ≤ 9 := by simpa [iS] using h
    omega
  · omega
theorem t7 {t : Tree} : ∀ (r : List Int) (v : Tree) (done : List Int), typy v → done ≠ [] → (auL t v done [] r).1 = []
  | [], v, done, _, _ => rfl
  | n :: r, v, done, hv, hd => by
    unfold auL
    split
    · rfl
    · split
      · rfl
      · rename_i w hw
        rw [if_neg (fun h => hd h.1), if_neg (fun h => zx hv h.1), List.append_nil]
        exact t7 r w _ (xH hv hw) (by simp)
theorem uc {t : Tree} {b : Int} (hb : b = (t.kids.length : Int) - 1) : ∀ (r : List Int) (v : Tree) (done : List Int) (l : List GScopeBinder), atK t done = some v → (∃ q, done = b :: q) → l.reverse = (arP t done).map (bb t) → (auL t v done l r).1.reverse = if (atK v r).isSome = true then (arP t (done ++ r)).map (bb t) else []
  | [], v, done, l, hv, hd, hl => by simp [auL, atK, hl]
  | n :: r, v, done, l, hv, hd, hl => by
    unfold auL atK
    split
    · simp
    · rename_i hn
      split
      · rename_i hw; rw [hw]; simp
      · rename_i w hw
        rw [hw]
        simp only
        obtain ⟨q, hq⟩ := hd
        have hne : done ≠ [] := by rw [hq]; simp
        have hnn : n = ((n.toNat : Nat) : Int) := by omega
        have hat : atK t (done ++ [n]) = some w := by
          rw [pg, hv]
          have := j5 hw
          rw [← hnn] at this
          exact this
        rw [if_neg (fun h => hne h.1)]
        have := uc hb r w (done ++ [n]) (l ++ if v.kind = 20 ∧ n = 1 then [⟨v.text, done⟩] else []) hat ⟨q ++ [n], by rw [hq]; rfl⟩ (by
          have hs := sy (j := n.toNat) hq hb hv (by rw [← hnn, hat]; rfl)
          rw [← hnn] at hs
          rw [hs, List.map_append, List.reverse_append, hl]
          by_cases h : v.kind = 20 ∧ n = 1
          · rw [if_pos h, if_pos ⟨h.1, by omega⟩]
            have : bb t done = ⟨v.text, done⟩ := by unfold bb atD; rw [hv]; rfl
            simp [this]
          · rw [if_neg h, if_neg (fun h' => h ⟨h'.1, by omega⟩)]; rfl)
        rw [this, List.append_assoc]; rfl
theorem zL {t u : Tree} (hf : cp t = true) (hat : atK t [(t.kids.length : Int) - 1] = some u) : (iZ t).reverse = (arP t [(t.kids.length : Int) - 1]).map (bb t) := by
  have h2 := iA hf
  rw [iZ, List.reverse_reverse]
  have e : arP t [(t.kids.length : Int) - 1] = dD t [(t.kids.length : Int) - 1] 1 ++ jH (t.kids.length - 2) := by
    unfold arP; rw [hat]; simp
  simp only [cp, Bool.and_eq_true, beq_iff_eq] at hf
  have e2 : dD t [(t.kids.length : Int) - 1] 1 = [] := by
    simp only [dD, List.append_nil]
    rw [if_neg]
    intro h
    have := h.1
    simp only [List.take_zero, atD, atK, Option.getD_some] at this
    omega
  rw [e, e2, List.nil_append, jH, List.map_map]
  have key : ∀ n, n ≤ t.kids.length → iY 0 (t.kids.take n) = (List.range n).map (bb t ∘ fun (i : Nat) => [(i : Int)]) := fun n => by
    induction n with
    | zero => intro _; simp [iY]
    | succ n ih =>
      intro hn
      obtain ⟨x, hx, _⟩ | h' := aE t.kids n
      · rw [List.take_add_one, hx, Option.toList_some, mx, ih (by omega), List.range_succ, List.map_append, List.length_take]
        rw [show min n t.kids.length = n by omega, Nat.zero_add]
        congr 1
        simp only [List.map_cons, List.map_nil, Function.comp]
        have : atK t [(n : Int)] = some x := j5 hx
        simp [bb, atD, this]
      · omega
  exact key _ (by omega)
theorem rN {t : Tree} (hf : cp t = true) (q : List Int) : (auL t t [] [] q).1.reverse = (arP t q).map (bb t) := by
  have hf' := hf
  simp only [cp, Bool.and_eq_true, beq_iff_eq] at hf'
  have h2 := iA hf
  cases q with
  | nil => simp [auL, arP, atK]
  | cons n r =>
    have e0 : arP t (n :: r) = if (atK t (n :: r)).isSome = false then [] else if n = (t.kids.length : Int) - 1 then dD t (n :: r) (n :: r).length ++ jH (t.kids.length - 2) else [] := rfl
    have e1 : atK t (n :: r) = if n < 0 then none else match t.kids[n.toNat]? with
      | none => none
      | some u => atK u r := rfl
    unfold auL
    split
    · rename_i hn; rw [e0, e1, if_pos hn]; rfl
    · rename_i hn
      split
      · rename_i hw; rw [e0, e1, if_neg hn, hw]; rfl
      · rename_i w hw
        have hnn : n = ((n.toNat : Nat) : Int) := by omega
        have hat : atK t [n] = some w := by
          have := j5 hw
          rw [← hnn] at this
          exact this
        by_cases hb : n = (t.kids.length : Int) - 1
        · rw [if_pos ⟨rfl, hb⟩, if_neg (fun h => by omega), List.append_nil]
          have := uc (t := t) rfl r w [n] (iZ t) hat ⟨[], by rw [hb]⟩ (by rw [hb] at hat ⊢; exact zL hf hat)
          rw [List.nil_append, this, List.singleton_append]
          split
          · rfl
          · rename_i hs
            rw [e0, e1, if_neg hn, hw]
            simp only
            rw [if_pos (by simpa using hs)]; rfl
        · rw [if_neg (fun h => hb h.2), if_neg (fun h => by omega), List.append_nil]
          have hty : typy w := by
            have hs := hf'.2
            rw [eS, hf'.1] at hs
            simp only [Bool.and_eq_true] at hs
            obtain ⟨g1, g2⟩ := hI hs.2 hw
            have hlen := (List.getElem?_eq_some_iff.1 hw).1
            refine ⟨g2, ?_⟩
            rw [Nat.zero_add] at g1
            simp only [gO] at g1
            rw [if_neg (by omega), if_pos trivial, if_neg (by omega)] at g1
            split at g1
            · exact .inl g1
            · exact .inr (by simpa using g1)
          have := t7 (t := t) r w ([] ++ [n]) hty (by simp)
          rw [this, e0, if_neg hb]
          split <;> rfl
theorem yg {t : Tree} (hf : cp t = true) (q : List Int) : jI [] ((auL t t [] [] q).1.map (·.name)) = jI [] (((arP t q).map (bb t)).map (·.name)) := by
  rw [← rN hf q, List.map_reverse, xq]
end Go.Proofs.YteglbnopdedadaaGreat
namespace Go.Proofs.YteglbnopdedadaaGreat
open Go.RowKit Lx Sx
section
variable {P : Program} {T : Tab} {K : Ctx} {Q : Exit → Act → World → Prop} {s : List EI} {n : Nat} {F : Fm} {H : Hp} {all : Array Oper} {rest : List Oper} {o : Oper}
theorem Bt {f : Nat → Option Value} {a : Act} {w : World} {ty src dst : TypeId} {x : Operand} {k k' k1 : IntKind} {m : Int} (h : Fr a n f) (hs : P.underlying src = some (.int k1)) (ht : P.underlying dst = some (.int k)) (hx : aM f x = some (.int k' m)) (hw : k.wrap m = m) : Runs P a ty (.convert src dst x) w (.value (.int k m)) w := fun _ _ _ _ => by
  simp only [execOp, h.eval hx]
  simp [go_sem, convert, run_underlying hs, run_underlying ht, Conv.intToInt, hw]
theorem zt {f : Nat → Option Value} {a : Act} {w : World} {ty t u : TypeId} {x y : Operand} {k k' : IntKind} {m : Int} (h : Fr a n f) (hx : aM f x = some (.int k m)) (hy : aM f y = some (.int k' 1))   : Runs P a ty (.binOp .shr t x y u) w (.value (.int k (m.fdiv 2))) w := fun _ _ _ _ => by
  simp only [execOp, h.eval hx, h.eval hy]
  cases k <;> simp [go_sem, eqGuard, Op.shift]
theorem AW {m : Int} (h0 : 0 ≤ m) (h1 : m ≤ 9223372036854775807) : IntKind.u64.wrap m = m := IntWalk.u64_in m (by omega)
theorem AX {m : Int} (h0 : 0 ≤ m) (h1 : m ≤ 9223372036854775807) : IntKind.i64.wrap m = m := IntWalk.i64_in m (by omega)
theorem yCv {src dst ty : TypeId} {x : Operand} {k k' k1 : IntKind} {m : Int} (hs : P.underlying src = some (.int k1)) (ht : P.underlying dst = some (.int k)) (hx : aQ F x = some (.int k' m)) (hw : k.wrap m = m) : ∀ S w ρ a, HRel S w ρ H.get → FRel S w ρ a n F → Yld P S w ρ a ty (.convert src dst x) (.int k m) := fun S w ρ a hr hF => ⟨_, by simp only [VRel], fun w' _ => Bt hF.fr hs ht (bg (am hF hx)) hw⟩
theorem Bv {t u ty : TypeId} {x y : Operand} {k k' : IntKind} {m : Nat} (hx : aQ F x = some (.int k (m : Int))) (hy : aQ F y = some (.int k' 1)) : ∀ S w ρ a, HRel S w ρ H.get → FRel S w ρ a n F → Yld P S w ρ a ty (.binOp .shr t x y u) (.int k ((m / 2 : Nat) : Int)) := fun S w ρ a hr hF => by
  have e : ((m / 2 : Nat) : Int) = (m : Int).fdiv 2 := by rw [Int.fdiv_eq_ediv_of_nonneg _ (by decide)]; omega
  rw [e]
  exact ⟨_, by simp only [VRel], fun w' _ => zt hF.fr (bg (am hF hx)) (bg (am hF hy))⟩
end
end Go.Proofs.YteglbnopdedadaaGreat
namespace Go.Proofs.YteglbnopdedadaaGreat
open Go.RowKit Lx Sx
set_option maxRecDepth 100000
set_option maxHeartbeats 4000000
def mr (p0 : (List (List UInt8))) (p1 : Int) (p2 : (List (List UInt8))) (r0 : (List (List UInt8))) : Prop := dj [1] Tryz.prog 53 [.sl 0, .int .i64 p1, .sl 1] ⟨2, [(1, .row 9 1 (List.map V.str p2)), (0, .row 9 1 (List.map V.str p0))]⟩ (fun u G => u = .sl 2 ∧ G = ⟨3, [(2, .row 9 1 (List.map V.str r0)), (1, .row 9 1 (List.map V.str p2))]⟩)
def pY (p0 : (List UInt8)) (r0 : Tree) (r1 : Int) (r2 : Int) : Prop := aV Tryz.prog 36 [.str p0] (.tup [.agg (ak r0), .int .i64 r1, .int .i64 r2])
def k8 (p0 : (List UInt8)) (r0 : Bool) : Prop := aV Tryz.prog 76 [.str p0] (.bool r0)
def mF (p0 : (List UInt8)) (r0 : Bool) : Prop := aV Tryz.prog 106 [.str p0] (.bool r0)
def nW (p0 : (List UInt8)) (p1 : (List UInt8)) (r0 : Bool) : Prop := aV Tryz.prog 75 [.str p0, .str p1] (.bool r0)
def gk (p0 : (List (List UInt8))) (p1 : (List UInt8)) (r0 : Int) (r1 : Bool) : Prop := dj [0] Tryz.prog 52 [.sl 0, .str p1] ⟨1, [(0, .row 9 1 (List.map V.str p0))]⟩ (fun u G => u = .tup [.int .i64 r0, .bool r1] ∧ G = ⟨1, [(0, .row 9 1 (List.map V.str p0))]⟩)
def fH (p0 : Tree) (p1 : (List Int)) (r0 : (List (List UInt8))) : Prop := dj [] Tryz.prog 29 [.agg (ak p0), .row 1 (List.map (V.int .i64) p1)] ⟨0, []⟩ (fun u G => u = .sl 0 ∧ G = ⟨1, [(0, .row 9 1 (List.map V.str r0))]⟩)
def gl (r0 : Bool) : Prop := aV Tryz.prog 22 [] (.bool r0)
theorem qv (m : Nat) (p0 : (List UInt8)) (r0 : Bool) (h : (p0 != p0) = r0) : k8 p0 r0 := by
 refine ⟨rfl, rfl, ?_⟩
 refine al 6 [] Tryz.func76 rfl rfl rfl (aH rfl) fun K hK => ?_
 refine gR 14 rfl ?_
 subst h
 refine ab (F' := (mkF 6 0 [(2, .bool (p0 != p0))])) (H' := ⟨0, []⟩) [] [] rfl hK ⟨⟨_, rfl, .rfl⟩, trivial⟩ trivial rfl ?_
 exact ae aa (rs := [.tmp 2]) rfl rfl rfl
theorem st (m : Nat) (p0 : (List UInt8)) (r0 : Bool) (h : (p0 != p0) = r0) : mF p0 r0 := by
 refine ⟨rfl, rfl, ?_⟩
 refine al 6 [] Tryz.func106 rfl rfl rfl (aH rfl) fun K hK => ?_
 refine gR 14 rfl ?_
 subst h
 refine ab (F' := (mkF 6 0 [(2, .bool (p0 != p0))])) (H' := ⟨0, []⟩) [] [] rfl hK ⟨⟨_, rfl, .rfl⟩, trivial⟩ trivial rfl ?_
 exact ae aa (rs := [.tmp 2]) rfl rfl rfl
theorem tQ (m : Nat) (p0 : (List UInt8)) (p1 : (List UInt8)) (r0 : Bool) (h : ∃ (b0_1 : Bool), mF p0 b0_1 ∧ ((b0_1 = true) → ∃ (b0_2 : Bool), mF p1 b0_2 ∧ ((b0_2 = false) → true = r0) ∧ ((b0_2 = true) → Op.bytesLess p0 p1 = r0)) ∧ ((b0_1 = false) → Op.bytesLess p0 p1 = r0)) : nW p0 p1 r0 := by
 refine ⟨rfl, rfl, ?_⟩
 refine al 17 [] Tryz.func75 rfl rfl rfl (aH rfl) fun K hK => ?_
 refine gR 8 rfl ?_
 obtain ⟨b0_1, hs3, h⟩ := h
 refine gC0 hs3 (by kernel_rfl) rfl rfl .rfl rfl ?_
 refine gR 1 rfl ?_
 refine gB 7 rfl rfl rfl (fun hd => ?_) (fun hd => ?_)
 refine gT 6 rfl hd rfl ?_
 replace h := h.1 hd
 refine gR 1 rfl ?_
 obtain ⟨b0_2, hs4, h⟩ := h
 refine gC0 hs4 (by kernel_rfl) rfl rfl .rfl rfl ?_
 refine gR 3 rfl ?_
 refine gB 12 rfl rfl rfl (fun hd => ?_) (fun hd => ?_)
 refine gT 11 rfl hd rfl ?_
 replace hd := (bZ hd)
 replace h := h.1 hd
 refine gR 8 rfl ?_
 subst h
 refine ab (F' := (mkF 17 0 [(4, .bool true)])) (H' := ⟨0, []⟩) [] [] rfl hK ⟨⟨_, rfl, .rfl⟩, trivial⟩ trivial rfl ?_
 exact ae aa (rs := [.tmp 4]) rfl rfl rfl
 refine gF 11 rfl hd rfl ?_
 replace hd := (bY hd)
 replace h := h.2 hd
 refine gR 2 rfl ?_
 refine gY (yLt rfl rfl) rfl rfl ?_
 refine gR 5 rfl ?_
 subst h
 refine ab (F' := (mkF 17 0 [(4, .bool (Op.bytesLess p0 p1))])) (H' := ⟨0, []⟩) [] [] rfl hK ⟨⟨_, rfl, .rfl⟩, trivial⟩ trivial rfl ?_
 exact ae aa (rs := [.tmp 4]) rfl rfl rfl
 refine gF 6 rfl hd rfl ?_
 replace h := h.2 hd
 refine gR 7 rfl ?_
 refine gY (yLt rfl rfl) rfl rfl ?_
 refine gR 5 rfl ?_
 subst h
 refine ab (F' := (mkF 17 0 [(4, .bool (Op.bytesLess p0 p1))])) (H' := ⟨0, []⟩) [] [] rfl hK ⟨⟨_, rfl, .rfl⟩, trivial⟩ trivial rfl ?_
 exact ae aa (rs := [.tmp 4]) rfl rfl rfl
def cq (m : Nat) (p0 : (List (List UInt8))) (p1 : (List UInt8)) (i1v1 : Nat) (i1v2 : Nat) (r0 : Int) (r1 : Bool) : Prop := ∀ (K : Ctx) (j1 : Nat), av K [0] → m ≤ j1 → Go Tryz.prog K (bodyPost Tryz.prog Tryz.f52 (SP K (fun u G => u = .tup [.int .i64 r0, .bool r1] ∧ G = ⟨1, [(0, .row 9 1 (List.map V.str p0))]⟩))) (.code (cL (cK (cA (cB (cB (cB (ac Tryz.f52)))))))) [.loop (cL (cK (cA (cB (cB (cB (ac Tryz.f52))))))) j1, .blk 0, .seq (cB (cB (cB (cB (ac Tryz.f52)))))] 54 (mkF 54 0 [(0, .sl 0), (1, .str p1), (6, .int .i64 ((p0.length : Nat) : Int)), (7, .int .i64 ((i1v1 : Nat) : Int)), (8, .int .i64 ((i1v2 : Nat) : Int))]) ⟨1, [(0, .row 9 1 (List.map V.str p0))]⟩
theorem mE (m : Nat) (p0 : (List (List UInt8))) (p1 : (List UInt8)) (r0 : Int) (r1 : Bool) (h : cq m p0 p1 0 p0.length r0 r1) : gk p0 p1 r0 r1 := by
 refine al 54 [0] Tryz.func52 rfl rfl rfl (aH rfl) fun K hK => ?_
 refine gR 10 rfl ?_
 refine gV 11 (.int .i64 ((p0.length : Nat) : Int)) rfl (aW (aq V.str _)) rfl ?_
 refine gLO 0 rfl (aq V.str _) fun hl9 => ?_
 refine gR 12 rfl ?_
 refine go_loop m ?_
 exact gJ (h K _ hK (by omega)) [0] [0] rfl hK ⟨⟨_, rfl, .rfl⟩, ⟨_, rfl, .rfl⟩, ⟨_, rfl, .rfl⟩, ⟨_, rfl, .rfl⟩, ⟨_, rfl, .rfl⟩, trivial⟩ ⟨⟨_, rfl, ⟨rfl, rfl, (ai _ V.str (fun _ => rfl) p0).symm⟩⟩, trivial⟩ rfl
theorem iU (m : Nat) (p0 : (List (List UInt8))) (p1 : (List UInt8)) (i1v1 : Nat) (i1v2 : Nat) (r0 : Int) (r1 : Bool) (h : ((i1v1 < i1v2) → i1v1 + i1v2 ≤ 9223372036854775807 ∧ i1v1 + i1v2 ≤ 9223372036854775807 ∧ (i1v1 + i1v2) / 2 ≤ 9223372036854775807 ∧ ∃ (s1_1 : (List UInt8)), p0[(i1v1 + i1v2) / 2]? = some s1_1 ∧ ∃ (b1_2 : Bool), nW s1_1 p1 b1_2 ∧ ((b1_2 = true) → (i1v1 + i1v2) / 2 + 1 ≤ 9223372036854775807 ∧ cq m p0 p1 ((i1v1 + i1v2) / 2 + 1) i1v2 r0 r1) ∧ ((b1_2 = false) → cq m p0 p1 i1v1 ((i1v1 + i1v2) / 2) r0 r1)) ∧ ((¬ i1v1 < i1v2) → ((i1v1 < p0.length) → ∃ (s1_3 : (List UInt8)), p0[i1v1]? = some s1_3 ∧ ((s1_3 = p1) → ((i1v1 : Nat) : Int) = r0 ∧ true = r1) ∧ ((s1_3 ≠ p1) → ∃ (s1_4 : (List UInt8)), p0[i1v1]? = some s1_4 ∧ ∃ (b1_5 : Bool), k8 s1_4 b1_5 ∧ ((b1_5 = true) → ∃ (b1_6 : Bool), k8 p1 b1_6 ∧ ((i1v1 : Nat) : Int) = r0 ∧ b1_6 = r1) ∧ ((b1_5 = false) → ((i1v1 : Nat) : Int) = r0 ∧ false = r1))) ∧ ((¬ i1v1 < p0.length) → ((i1v1 : Nat) : Int) = r0 ∧ false = r1))) : cq (m + 1) p0 p1 i1v1 i1v2 r0 r1 := by
 intro K j1 hK hj1
 obtain ⟨j1, rfl⟩ : ∃ j, j1 = j + 1 := ⟨j1 - 1, by omega⟩
 refine gR 8 rfl ?_
 refine gB 15 rfl rfl rfl (fun hd => ?_) (fun hd => ?_)
 replace hd := (cx hd)
 replace h := h.1 hd
 refine gR 8 rfl ?_
 obtain ⟨hb, h⟩ := h
 refine gR 1 rfl ?_
 refine gV 18 (.int .i64 ((i1v1 + i1v2 : Nat) : Int)) rfl (an (by omega) (by omega)) rfl ?_
 obtain ⟨hb, h⟩ := h
 refine gY (yCv Tryz.underlying3 Tryz.underlying112 rfl (AW (by omega) (by omega))) rfl rfl ?_
 refine gY (Bv rfl rfl) rfl rfl ?_
 obtain ⟨hb, h⟩ := h
 refine gY (yCv Tryz.underlying112 Tryz.underlying3 rfl (AX (by omega) (by omega))) rfl rfl ?_
 refine gR 7 rfl ?_
 obtain ⟨s1_1, hxs1_1, h⟩ := h
 refine gY (yIO aa rfl rfl rfl rfl (by have := (mapget (f := V.str) hxs1_1); exact (List.getElem?_eq_some_iff.1 this).1)) rfl rfl ?_
 refine gDo (.nop) (dLe aa rfl rfl rfl (mapget (f := V.str) hxs1_1) rfl) trivial rfl rfl rfl ?_
 refine gR 1 rfl ?_
 obtain ⟨b1_2, hs10, h⟩ := h
 refine gC0 hs10 (by kernel_rfl) rfl rfl .rfl rfl ?_
 refine gR 2 rfl ?_
 refine gB 27 rfl rfl rfl (fun hd => ?_) (fun hd => ?_)
 replace h := h.1 hd
 refine gR 3 rfl ?_
 obtain ⟨hb, h⟩ := h
 refine gR 1 rfl ?_
 refine gV 29 (.int .i64 (((i1v1 + i1v2) / 2 + 1 : Nat) : Int)) rfl (an (by omega) (by omega)) rfl ?_
 refine gR 3 rfl ?_
 refine ao ?_
 exact gJ (h K _ hK (by omega)) [0] [0] rfl hK ⟨⟨_, rfl, .rfl⟩, ⟨_, rfl, .rfl⟩, ⟨_, rfl, .rfl⟩, ⟨_, rfl, .rfl⟩, ⟨_, rfl, .rfl⟩, trivial⟩ ⟨⟨_, rfl, ⟨rfl, rfl, (ai _ V.str (fun _ => rfl) p0).symm⟩⟩, trivial⟩ rfl
 replace h := h.2 hd
 refine gR 6 rfl ?_
 refine ao ?_
 exact gJ (h K _ hK (by omega)) [0] [0] rfl hK ⟨⟨_, rfl, .rfl⟩, ⟨_, rfl, .rfl⟩, ⟨_, rfl, .rfl⟩, ⟨_, rfl, .rfl⟩, ⟨_, rfl, .rfl⟩, trivial⟩ ⟨⟨_, rfl, ⟨rfl, rfl, (ai _ V.str (fun _ => rfl) p0).symm⟩⟩, trivial⟩ rfl
 replace hd := (cy hd)
 replace h := h.2 hd
 refine gR 3 rfl ?_
 refine ay ?_
 refine gR 9 rfl ?_
 refine gB 35 rfl rfl rfl (fun hd => ?_) (fun hd => ?_)
 refine gT 34 rfl hd rfl ?_
 replace hd := (cx hd)
 replace h := h.1 hd
 refine gR 2 rfl ?_
 obtain ⟨s1_3, hxs1_3, h⟩ := h
 refine gY (yIO aa rfl rfl rfl rfl (by have := (mapget (f := V.str) hxs1_3); exact (List.getElem?_eq_some_iff.1 this).1)) rfl rfl ?_
 refine gDo (.nop) (dLe aa rfl rfl rfl (mapget (f := V.str) hxs1_3) rfl) trivial rfl rfl rfl ?_
 refine gR 3 rfl ?_
 refine gB 42 rfl rfl rfl (fun hd => ?_) (fun hd => ?_)
 refine gT 41 rfl hd rfl ?_
 replace hd := (eq_of_beq hd)
 replace h := h.1 hd
 refine gR 16 rfl ?_
 obtain ⟨rfl, rfl⟩ := h
 refine ab (F' := (mkF 54 0 [(4, .int .i64 ((i1v1 : Nat) : Int)), (5, .bool true)])) (H' := ⟨1, [(0, .row 9 1 (List.map V.str p0))]⟩) [0] [0] rfl hK ⟨⟨_, rfl, .rfl⟩, ⟨_, rfl, .rfl⟩, trivial⟩ ⟨⟨_, rfl, ⟨rfl, rfl, (ai _ V.str (fun _ => rfl) p0).symm⟩⟩, trivial⟩ rfl ?_
 exact ax [] aa (rs := [.tmp 4, .tmp 5]) rfl rfl ⟨rfl, rfl⟩
 refine gF 41 rfl hd rfl ?_
 replace hd := (ne_of_beq_false hd)
 replace h := h.2 hd
 refine gR 2 rfl ?_
 obtain ⟨s1_4, hxs1_4, h⟩ := h
 refine gY (yIO aa rfl rfl rfl rfl (by have := (mapget (f := V.str) hxs1_4); exact (List.getElem?_eq_some_iff.1 this).1)) rfl rfl ?_
 refine gDo (.nop) (dLe aa rfl rfl rfl (mapget (f := V.str) hxs1_4) rfl) trivial rfl rfl rfl ?_
 obtain ⟨b1_5, hs11, h⟩ := h
 refine gC0 hs11 (by kernel_rfl) rfl rfl .rfl rfl ?_
 refine gR 1 rfl ?_
 refine gB 48 rfl rfl rfl (fun hd => ?_) (fun hd => ?_)
 refine gT 47 rfl hd rfl ?_
 replace h := h.1 hd
 refine gR 1 rfl ?_
 obtain ⟨b1_6, hs12, h⟩ := h
 refine gC0 hs12 (by kernel_rfl) rfl rfl .rfl rfl ?_
 refine gR 8 rfl ?_
 obtain ⟨rfl, rfl⟩ := h
 refine ab (F' := (mkF 54 0 [(4, .int .i64 ((i1v1 : Nat) : Int)), (5, .bool b1_6)])) (H' := ⟨1, [(0, .row 9 1 (List.map V.str p0))]⟩) [0] [0] rfl hK ⟨⟨_, rfl, .rfl⟩, ⟨_, rfl, .rfl⟩, trivial⟩ ⟨⟨_, rfl, ⟨rfl, rfl, (ai _ V.str (fun _ => rfl) p0).symm⟩⟩, trivial⟩ rfl ?_
 exact ax [] aa (rs := [.tmp 4, .tmp 5]) rfl rfl ⟨rfl, rfl⟩
 refine gF 47 rfl hd rfl ?_
 replace h := h.2 hd
 refine gR 10 rfl ?_
 obtain ⟨rfl, rfl⟩ := h
 refine ab (F' := (mkF 54 0 [(4, .int .i64 ((i1v1 : Nat) : Int)), (5, .bool false)])) (H' := ⟨1, [(0, .row 9 1 (List.map V.str p0))]⟩) [0] [0] rfl hK ⟨⟨_, rfl, .rfl⟩, ⟨_, rfl, .rfl⟩, trivial⟩ ⟨⟨_, rfl, ⟨rfl, rfl, (ai _ V.str (fun _ => rfl) p0).symm⟩⟩, trivial⟩ rfl ?_
 exact ax [] aa (rs := [.tmp 4, .tmp 5]) rfl rfl ⟨rfl, rfl⟩
 refine gF 34 rfl hd rfl ?_
 replace hd := (cy hd)
 replace h := h.2 hd
 refine gR 23 rfl ?_
 obtain ⟨rfl, rfl⟩ := h
 refine ab (F' := (mkF 54 0 [(4, .int .i64 ((i1v1 : Nat) : Int)), (5, .bool false)])) (H' := ⟨1, [(0, .row 9 1 (List.map V.str p0))]⟩) [0] [0] rfl hK ⟨⟨_, rfl, .rfl⟩, ⟨_, rfl, .rfl⟩, trivial⟩ ⟨⟨_, rfl, ⟨rfl, rfl, (ai _ V.str (fun _ => rfl) p0).symm⟩⟩, trivial⟩ rfl ?_
 exact ax [] aa (rs := [.tmp 4, .tmp 5]) rfl rfl ⟨rfl, rfl⟩
def eZ (m : Nat) (r0_2 : (List GScopeBinder)) (l1v1 : (List (List UInt8))) (i1v2 : Nat) (r0 : (List (List UInt8))) : Prop := ∀ (K : Ctx) (j1 : Nat), av K [] → m ≤ j1 → Go Tryz.prog K (bodyPost Tryz.prog Tryz.f29 (SP K (fun u G => u = .sl 0 ∧ G = ⟨1, [(0, .row 9 1 (List.map V.str r0))]⟩))) (.code (cL (cK (cB (cA (cB (cB (cB (cB (ac Tryz.f29)))))))))) [.loop (cL (cK (cB (cA (cB (cB (cB (cB (ac Tryz.f29))))))))) j1, .blk 0, .seq (cB (cB (cB (cB (cB (ac Tryz.f29))))))] 44 (mkF 44 0 [(7, .sl 0), (21, .row 2 (List.map GScopeBinder.w r0_2)), (22, .int .i64 ((r0_2.length : Nat) : Int)), (23, .int .i64 ((i1v2 : Nat) : Int))]) ⟨1, [(0, .row 9 1 (List.map V.str l1v1))]⟩
theorem lL (m : Nat) (p0 : Tree) (p1 : (List Int)) (r0 : (List (List UInt8))) (h : ∃ (b0_1 : Bool), eX p0 b0_1 ∧ ((b0_1 = false) → ([] : List (List UInt8)) = r0) ∧ ((b0_1 = true) → ∃ (r0_2 : (List GScopeBinder)), ∃ (b0_3 : Bool), iQ p0 p1 r0_2 b0_3 ∧ eZ m r0_2 ([] : List (List UInt8)) 0 r0)) : fH p0 p1 r0 := by
 refine al 44 [] Tryz.func29 rfl rfl rfl (aH rfl) fun K hK => ?_
 refine gR 3 rfl ?_
 refine gFP 0 rfl rfl rfl rfl ?_
 refine gR 7 rfl ?_
 obtain ⟨b0_1, hs11, h⟩ := h
 refine gC0 hs11 (by kernel_rfl) rfl rfl .rfl rfl ?_
 refine gR 3 rfl ?_
 refine gB 14 rfl rfl rfl (fun hd => ?_) (fun hd => ?_)
 replace hd := (bZ hd)
 replace h := h.1 hd
 refine gR 8 rfl ?_
 refine gNS 4 9 1 rfl rfl rfl rfl ?_
 subst h
 refine ab (F' := (mkF 44 0 [(4, .sl 0)])) (H' := ⟨1, [(0, .row 9 1 (List.map V.str ([] : List (List UInt8))))]⟩) [1] [] rfl hK ⟨⟨_, rfl, .rfl⟩, trivial⟩ ⟨⟨_, rfl, ⟨rfl, rfl, rfl⟩⟩, trivial⟩ rfl ?_
 exact ax [] aa (rs := [.tmp 4]) rfl rfl ⟨rfl, rfl⟩
 replace hd := (bY hd)
 replace h := h.2 hd
 refine gR 7 rfl ?_
 obtain ⟨r0_2, b0_3, hs12, h⟩ := h
 refine gC0 hs12 (by kernel_rfl) rfl rfl .rfl rfl ?_
 refine gR 17 rfl ?_
 refine gV 22 (.int .i64 ((r0_2.length : Nat) : Int)) rfl (aW (aq GScopeBinder.w _)) rfl ?_
 refine gLB 21 rfl (aq GScopeBinder.w _) fun hl13 => ?_
 refine gR 4 rfl ?_
 refine go_loop m ?_
 refine gNS 7 9 1 rfl rfl rfl rfl ?_
 exact gJ (h K _ hK (by omega)) [1] [] rfl hK ⟨⟨_, rfl, .rfl⟩, ⟨_, rfl, .rfl⟩, ⟨_, rfl, .rfl⟩, ⟨_, rfl, .rfl⟩, trivial⟩ ⟨⟨_, rfl, ⟨rfl, rfl, rfl⟩⟩, trivial⟩ rfl
theorem i5 (m : Nat) (r0_2 : (List GScopeBinder)) (l1v1 : (List (List UInt8))) (i1v2 : Nat) (r0 : (List (List UInt8))) (h : ((i1v2 < r0_2.length) → ∃ (x1_1 : GScopeBinder), r0_2[i1v2]? = some x1_1 ∧ ∃ (n1_2 : Int), ∃ (b1_3 : Bool), gk l1v1 x1_1.name n1_2 b1_3 ∧ ((b1_3 = false) → ∃ (r1_4 : (List (List UInt8))), mr l1v1 n1_2 [x1_1.name] r1_4 ∧ i1v2 + 1 ≤ 9223372036854775807 ∧ eZ m r0_2 r1_4 (i1v2 + 1) r0) ∧ ((b1_3 = true) → i1v2 + 1 ≤ 9223372036854775807 ∧ eZ m r0_2 l1v1 (i1v2 + 1) r0)) ∧ ((¬ i1v2 < r0_2.length) → l1v1 = r0)) : eZ (m + 1) r0_2 l1v1 i1v2 r0 := by
 intro K j1 hK hj1
 obtain ⟨j1, rfl⟩ : ∃ j, j1 = j + 1 := ⟨j1 - 1, by omega⟩
 refine gR 6 rfl ?_
 refine gB 24 rfl rfl rfl (fun hd => ?_) (fun hd => ?_)
 replace hd := (cx hd)
 replace h := h.1 hd
 refine gR 7 rfl ?_
 obtain ⟨x1_1, hxx1_1, h⟩ := h
 refine gY (az (mapget (f := GScopeBinder.w) hxx1_1) aa rfl rfl rfl rfl) rfl rfl ?_
 refine gR 10 rfl ?_
 obtain ⟨n1_2, b1_3, hs14, h⟩ := h
 refine gC hs14 [0] (by kernel_rfl) rfl rfl .rfl ⟨⟨_, rfl, ⟨rfl, rfl, (ai _ V.str (fun _ => rfl) l1v1).symm⟩⟩, trivial⟩ rfl ?_
 rintro _ _ ⟨rfl, rfl⟩
 refine gHR 0 (List.map V.str l1v1) rfl (ai _ V.str (fun _ => rfl) l1v1) rfl ?_
 refine gR 13 rfl ?_
 refine gB 35 rfl rfl rfl (fun hd => ?_) (fun hd => ?_)
 replace hd := (bZ hd)
 replace h := h.1 hd
 refine gR 7 rfl ?_
 obtain ⟨r1_4, hs15, h⟩ := h
 refine gC hs15 [0, 3] (by kernel_rfl) rfl rfl .rfl ⟨⟨_, rfl, ⟨rfl, rfl, rfl⟩⟩, ⟨⟨_, rfl, ⟨rfl, rfl, (ai _ V.str (fun _ => rfl) l1v1).symm⟩⟩, trivial⟩⟩ rfl ?_
 rintro _ _ ⟨rfl, rfl⟩
 refine gHR 6 (List.map V.str r1_4) rfl (ai _ V.str (fun _ => rfl) r1_4) rfl ?_
 refine gHR 3 (List.map V.str [x1_1.name]) rfl (ai _ V.str (fun _ => rfl) [x1_1.name]) rfl ?_
 refine gR 5 rfl ?_
 obtain ⟨hb, h⟩ := h
 refine gR 1 rfl ?_
 refine gV 42 (.int .i64 ((i1v2 + 1 : Nat) : Int)) rfl (an (by omega) (by omega)) rfl ?_
 refine gR 2 rfl ?_
 refine ao ?_
 exact gJ (h K _ hK (by omega)) [6] [] rfl hK ⟨⟨_, rfl, .rfl⟩, ⟨_, rfl, .rfl⟩, ⟨_, rfl, .rfl⟩, ⟨_, rfl, .rfl⟩, trivial⟩ ⟨⟨_, rfl, ⟨rfl, rfl, (ai _ V.str (fun _ => rfl) r1_4).symm⟩⟩, trivial⟩ rfl
 replace hd := (bY hd)
 replace h := h.2 hd
 refine gR 5 rfl ?_
 obtain ⟨hb, h⟩ := h
 refine gR 1 rfl ?_
 refine gV 42 (.int .i64 ((i1v2 + 1 : Nat) : Int)) rfl (an (by omega) (by omega)) rfl ?_
 refine gR 2 rfl ?_
 refine ao ?_
 exact gJ (h K _ hK (by omega)) [0] [] rfl hK ⟨⟨_, rfl, .rfl⟩, ⟨_, rfl, .rfl⟩, ⟨_, rfl, .rfl⟩, ⟨_, rfl, .rfl⟩, trivial⟩ ⟨⟨_, rfl, ⟨rfl, rfl, (ai _ V.str (fun _ => rfl) l1v1).symm⟩⟩, trivial⟩ rfl
 replace hd := (cy hd)
 replace h := h.2 hd
 refine gR 3 rfl ?_
 refine ay ?_
 refine gR 9 rfl ?_
 subst h
 refine ab (F' := (mkF 44 0 [(4, .sl 0)])) (H' := ⟨1, [(0, .row 9 1 (List.map V.str l1v1))]⟩) [0] [] rfl hK ⟨⟨_, rfl, .rfl⟩, trivial⟩ ⟨⟨_, rfl, ⟨rfl, rfl, (ai _ V.str (fun _ => rfl) l1v1).symm⟩⟩, trivial⟩ rfl ?_
 exact ax [] aa (rs := [.tmp 4]) rfl rfl ⟨rfl, rfl⟩
theorem mI (m : Nat) (r0 : Bool) (h : ∃ (t0_1 : Tree), ∃ (n0_2 : Int), ∃ (n0_3 : Int), pY [109, 111, 100, 117, 108, 101, 32, 77, 32, 100, 101, 102, 32, 102, 40, 120, 58, 32, 73, 110, 116, 41, 58, 32, 73, 110, 116, 32, 61, 32, 108, 101, 116, 32, 121, 32, 61, 32, 120, 32, 105, 110, 32, 108, 101, 116, 32, 120, 32, 61, 32, 121, 32, 105, 110, 32, 120] t0_1 n0_2 n0_3 ∧ ((n0_3 ≠ 0) → false = r0) ∧ ((n0_3 = 0) → ((((t0_1.kids.length : Nat) : Int) ≠ 1) → false = r0) ∧ ((((t0_1.kids.length : Nat) : Int) = 1) → ∃ (t0_4 : Tree), t0_1.kids[0]? = some t0_4 ∧ ∃ (r0_5 : (List GVariable)), eu t0_4 r0_5 ∧ ∃ (t0_6 : Tree), t0_1.kids[0]? = some t0_6 ∧ ∃ (r0_7 : (List Int)), ∃ (b0_8 : Bool), gi t0_6 [2, 0] [121] r0_7 b0_8 ∧ ((((r0_5.length : Nat) : Int) = 3) → ∃ (x0_9 : GVariable), r0_5[0]? = some x0_9 ∧ ((x0_9.Free = false) → ∃ (x0_10 : GVariable), r0_5[0]? = some x0_10 ∧ ∃ (b0_11 : Bool), bW x0_10.Binder [0] b0_11 ∧ ((b0_11 = true) → ∃ (x0_12 : GVariable), r0_5[2]? = some x0_12 ∧ ∃ (b0_13 : Bool), bW x0_12.Binder [2, 1] b0_13 ∧ ((b0_13 = true) → ((b0_8 = false) → ∃ (t0_14 : Tree), t0_1.kids[0]? = some t0_14 ∧ ∃ (r0_15 : (List (List UInt8))), fH t0_14 [2, 1, 1] r0_15 ∧ (((r0_15.length : Nat) : Int) == 2) = r0) ∧ ((b0_8 = true) → false = r0)) ∧ ((b0_13 = false) → false = r0)) ∧ ((b0_11 = false) → false = r0)) ∧ ((x0_9.Free = true) → false = r0)) ∧ ((((r0_5.length : Nat) : Int) ≠ 3) → false = r0)))) : gl r0 := by
 refine ⟨rfl, rfl, ?_⟩
 refine al 74 [] Tryz.func22 rfl rfl rfl (aH rfl) fun K hK => ?_
 refine gR 7 rfl ?_
 obtain ⟨t0_1, n0_2, n0_3, hs10, h⟩ := h
 refine gC0 hs10 (by kernel_rfl) rfl rfl .rfl rfl ?_
 refine gR 16 rfl ?_
 refine gB 14 rfl rfl rfl (fun hd => ?_) (fun hd => ?_)
 refine gT 13 rfl hd rfl ?_
 replace hd := (gU hd)
 replace h := h.1 hd
 refine gR 15 rfl ?_
 subst h
 refine ab (F' := (mkF 74 0 [(0, .bool false)])) (H' := ⟨0, []⟩) [] [] rfl hK ⟨⟨_, rfl, .rfl⟩, trivial⟩ trivial rfl ?_
 exact ae aa (rs := [.tmp 0]) rfl rfl rfl
 refine gF 13 rfl hd rfl ?_
 replace hd := (eO hd)
 replace h := h.2 hd
 refine gR 3 rfl ?_
 refine gV 17 (.int .i64 ((t0_1.kids.length : Nat) : Int)) rfl (aW (aX _)) rfl ?_
 refine gLB 16 rfl (aX _) fun hl11 => ?_
 refine gR 4 rfl ?_
 refine gB 19 rfl rfl rfl (fun hd => ?_) (fun hd => ?_)
 replace hd := (gU hd)
 replace h := h.1 hd
 refine gR 8 rfl ?_
 subst h
 refine ab (F' := (mkF 74 0 [(0, .bool false)])) (H' := ⟨0, []⟩) [] [] rfl hK ⟨⟨_, rfl, .rfl⟩, trivial⟩ trivial rfl ?_
 exact ae aa (rs := [.tmp 0]) rfl rfl rfl
 replace hd := (eO hd)
 replace h := h.2 hd
 refine gR 7 rfl ?_
 obtain ⟨t0_4, hxt0_4, h⟩ := h
 refine gY (az (ar hxt0_4) aa rfl rfl rfl rfl) rfl rfl ?_
 refine gR 1 rfl ?_
 obtain ⟨r0_5, hs12, h⟩ := h
 refine gC0 hs12 (by kernel_rfl) rfl rfl .rfl rfl ?_
 refine gR 7 rfl ?_
 obtain ⟨t0_6, hxt0_6, h⟩ := h
 refine gY (az (ar hxt0_6) aa rfl rfl rfl rfl) rfl rfl ?_
 refine gR 2 rfl ?_
 refine gFR 1 rfl rfl rfl rfl ?_
 obtain ⟨r0_7, b0_8, hs13, h⟩ := h
 refine gC0 hs13 (by kernel_rfl) rfl rfl .rfl rfl ?_
 refine gR 11 rfl ?_
 refine gV 35 (.int .i64 ((r0_5.length : Nat) : Int)) rfl (aW (aq GVariable.w _)) rfl ?_
 refine gLB 34 rfl (aq GVariable.w _) fun hl14 => ?_
 refine gR 2 rfl ?_
 refine gB 37 rfl rfl rfl (fun hd => ?_) (fun hd => ?_)
 refine gT 36 rfl hd rfl ?_
 replace hd := (eq_of_beq hd)
 replace h := h.1 hd
 refine gR 1 rfl ?_
 obtain ⟨x0_9, hxx0_9, h⟩ := h
 refine gY (az (mapget (f := GVariable.w) hxx0_9) aa rfl rfl rfl rfl) rfl rfl ?_
 refine gR 5 rfl ?_
 refine gB 44 rfl rfl rfl (fun hd => ?_) (fun hd => ?_)
 refine gT 43 rfl hd rfl ?_
 replace hd := (bZ hd)
 replace h := h.1 hd
 refine gR 1 rfl ?_
 obtain ⟨x0_10, hxx0_10, h⟩ := h
 refine gY (az (mapget (f := GVariable.w) hxx0_10) aa rfl rfl rfl rfl) rfl rfl ?_
 refine gR 3 rfl ?_
 refine gFR 2 rfl rfl rfl rfl ?_
 obtain ⟨b0_11, hs15, h⟩ := h
 refine gC0 hs15 (by kernel_rfl) rfl rfl .rfl rfl ?_
 refine gR 2 rfl ?_
 refine gB 52 rfl rfl rfl (fun hd => ?_) (fun hd => ?_)
 refine gT 51 rfl hd rfl ?_
 replace h := h.1 hd
 refine gR 1 rfl ?_
 obtain ⟨x0_12, hxx0_12, h⟩ := h
 refine gY (az (mapget (f := GVariable.w) hxx0_12) aa rfl rfl rfl rfl) rfl rfl ?_
 refine gR 3 rfl ?_
 refine gFR 3 rfl rfl rfl rfl ?_
 obtain ⟨b0_13, hs16, h⟩ := h
 refine gC0 hs16 (by kernel_rfl) rfl rfl .rfl rfl ?_
 refine gR 2 rfl ?_
 refine gB 60 rfl rfl rfl (fun hd => ?_) (fun hd => ?_)
 refine gT 59 rfl hd rfl ?_
 replace h := h.1 hd
 refine gR 4 rfl ?_
 refine gB 64 rfl rfl rfl (fun hd => ?_) (fun hd => ?_)
 refine gT 63 rfl hd rfl ?_
 replace hd := (bZ hd)
 replace h := h.1 hd
 refine gR 2 rfl ?_
 obtain ⟨t0_14, hxt0_14, h⟩ := h
 refine gY (az (ar hxt0_14) aa rfl rfl rfl rfl) rfl rfl ?_
 refine gR 2 rfl ?_
 refine gFR 4 rfl rfl rfl rfl ?_
 obtain ⟨r0_15, hs17, h⟩ := h
 refine gC hs17 [] (by kernel_rfl) rfl rfl .rfl trivial rfl ?_
 rintro _ _ ⟨rfl, rfl⟩
 refine gHR 5 (List.map V.str r0_15) rfl (ai _ V.str (fun _ => rfl) r0_15) rfl ?_
 refine gR 1 rfl ?_
 refine gV 71 (.int .i64 ((r0_15.length : Nat) : Int)) rfl (aW (aq V.str _)) rfl ?_
 refine gLO 5 rfl (aq V.str _) fun hl18 => ?_
 refine gR 6 rfl ?_
 subst h
 refine ab (F' := (mkF 74 0 [(0, .bool (((r0_15.length : Nat) : Int) == 2))])) (H' := ⟨0, []⟩) [] [] rfl hK ⟨⟨_, rfl, .rfl⟩, trivial⟩ trivial rfl ?_
 exact ae aa (rs := [.tmp 0]) rfl rfl rfl
 refine gF 63 rfl hd rfl ?_
 replace hd := (bY hd)
 replace h := h.2 hd
 refine gR 13 rfl ?_
 subst h
 refine ab (F' := (mkF 74 0 [(0, .bool false)])) (H' := ⟨0, []⟩) [] [] rfl hK ⟨⟨_, rfl, .rfl⟩, trivial⟩ trivial rfl ?_
 exact ae aa (rs := [.tmp 0]) rfl rfl rfl
 refine gF 59 rfl hd rfl ?_
 replace h := h.2 hd
 refine gR 17 rfl ?_
 subst h
 refine ab (F' := (mkF 74 0 [(0, .bool false)])) (H' := ⟨0, []⟩) [] [] rfl hK ⟨⟨_, rfl, .rfl⟩, trivial⟩ trivial rfl ?_
 exact ae aa (rs := [.tmp 0]) rfl rfl rfl
 refine gF 51 rfl hd rfl ?_
 replace h := h.2 hd
 refine gR 25 rfl ?_
 subst h
 refine ab (F' := (mkF 74 0 [(0, .bool false)])) (H' := ⟨0, []⟩) [] [] rfl hK ⟨⟨_, rfl, .rfl⟩, trivial⟩ trivial rfl ?_
 exact ae aa (rs := [.tmp 0]) rfl rfl rfl
 refine gF 43 rfl hd rfl ?_
 replace hd := (bY hd)
 replace h := h.2 hd
 refine gR 33 rfl ?_
 subst h
 refine ab (F' := (mkF 74 0 [(0, .bool false)])) (H' := ⟨0, []⟩) [] [] rfl hK ⟨⟨_, rfl, .rfl⟩, trivial⟩ trivial rfl ?_
 exact ae aa (rs := [.tmp 0]) rfl rfl rfl
 refine gF 36 rfl hd rfl ?_
 replace hd := (ne_of_beq_false hd)
 replace h := h.2 hd
 refine gR 40 rfl ?_
 subst h
 refine ab (F' := (mkF 74 0 [(0, .bool false)])) (H' := ⟨0, []⟩) [] [] rfl hK ⟨⟨_, rfl, .rfl⟩, trivial⟩ trivial rfl ?_
 exact ae aa (rs := [.tmp 0]) rfl rfl rfl
end Go.Proofs.YteglbnopdedadaaGreat
