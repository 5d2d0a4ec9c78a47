/- LexLimits: the walk, in four cases of the length. -/
import Derived.Test.YtoknigfjgoaoaaaLexV
import Derived.Test.YtoknigfjgoaoaaaFr
namespace Go.Proofs.Ytoknigfjgoaoaaa
open Go.RowKit Lx
set_option linter.unusedSimpArgs false
set_option linter.unusedVariables false
set_option maxRecDepth 100000 in
set_option maxHeartbeats 8000000 in
theorem limitsW0 (a0 a1 : Int) (hc : 1 + a0 % 60 ≤ 15) (w : World) (h10 : 0 ≤ a1) (h11 : a1 ≤ 255) : Calls Try.prog 6 #[.int .i64 a0, .int .u8 a1] w fun e w' => e = .returned (.bool true) ∧ Ext w w' := by
  obtain ⟨q, hq⟩ : ∃ q, a0 % 60 = q := ⟨_, rfl⟩
  have hq0 : 0 ≤ q := by omega
  have hq1 : q < 60 := by omega
  rw [hq] at hc
  have HQ := Lib.hid hq; clear hq
  obtain ⟨N, hN⟩ : ∃ N : Nat, (1 : Int) + q = N := ⟨(1 + q).toNat, by omega⟩
  have hN0 : 0 < N := by omega
  have hr : N ≤ 15 := by omega
  clear hc
  have hN1 : N ≤ 60 := by omega
  go_enter Try.func6, Try.ntmps6
  go_wp2_with fail
  refine (modC _ _ _ (by omega) (by omega)).mono ?_
  rintro e1 w1 ⟨rfl, rfl⟩
  rw [HQ.out]
  go_wp2_with fail
  refine (manyC _ N _ rfl _ (by omega) (by omega) hN0 (by omega)).mono ?_
  rintro e2 w2 ⟨rfl, hx2⟩
  have hcw : lowerB (97 + a1 % 26).toNat.toUInt8 = true := by
    have : ((97 + a1 % 26).toNat.toUInt8).toNat = (97 + a1 % 26).toNat := by simp; omega
    unfold lowerB; rw [this]; simp; omega
  have TW := Lib.hid (tok_word hN0 hcw)
  have TQ := Lib.hid (tok_pair hN0 hcw)
  have hw0 : (List.replicate N (97 + a1 % 26).toNat.toUInt8).length = N := by simp
  have hwh : (List.replicate N (97 + a1 % 26).toNat.toUInt8).getD 0 0 = (97 + a1 % 26).toNat.toUInt8 := getD_rep hN0
  have hwhw := lower_head hcw
  rw [← hwh] at hwhw
  clear hwh hcw
  generalize List.replicate N (97 + a1 % 26).toNat.toUInt8 = wd at TW TQ hw0 hwhw ⊢
  have HX2 := Lib.hid hx2; clear hx2
  have HWH := Lib.hid hwhw; clear hwhw
  have HW0 := Lib.hid hw0
  go_wp2_with fail
  refine (manyC _ N _ rfl _ (by omega) (by omega) hN0 (by omega)).mono ?_
  rintro e3 w3 ⟨rfl, hx3⟩
  have hcd : digitB (49 + a1 % 9).toNat.toUInt8 = true ∧ ((49 + a1 % 9).toNat.toUInt8).toNat ≠ 48 := by
    have : ((49 + a1 % 9).toNat.toUInt8).toNat = (49 + a1 % 9).toNat := by simp; omega
    unfold digitB; rw [this]; simp; omega
  have TD := Lib.hid (tok_digits hN0 hcd.1 hcd.2)
  have hd0 : (List.replicate N (49 + a1 % 9).toNat.toUInt8).length = N := by simp
  have hdh : (List.replicate N (49 + a1 % 9).toNat.toUInt8).getD 0 0 = (49 + a1 % 9).toNat.toUInt8 := getD_rep hN0
  have hdhw := digit_head hcd.1
  rw [← hdh] at hdhw
  clear hdh hcd
  generalize List.replicate N (49 + a1 % 9).toNat.toUInt8 = dg at TD hd0 hdhw ⊢
  have HX3 := Lib.hid (HX2.out.trans hx3); clear hx3
  have HDH := Lib.hid hdhw; clear hdhw
  have HD0 := Lib.hid hd0
  have hx := app_list
  have HQH := Lib.hid (show whiteB (([77, 46] ++ wd ++ [57]).getD 0 0) = false ∧ (([77, 46] ++ wd ++ [57]).getD 0 0).toNat ≠ 35 from by simp only [List.cons_append, List.getD_cons_zero]; decide)
  have hwl : wd.length ≤ 60 := by omega
  have hdl : dg.length ≤ 60 := by omega
  clear hw0 hd0
  have i1 : (N : Int) ≤ 15 := by omega
  have i2 : (N : Int) ≤ 24 := by omega
  have i3 : (N : Int) + 1 ≤ 24 := by omega
  have HSW := Lib.hid (show scan (32 :: wd) = ⟨[⟨1, [32], wd⟩], [], 0, 0⟩ from by exact scan_blank_ok (by omega) (by rw [HW0.out]; exact hN0) (by decide) (by rw [TW.out, if_neg (by omega), HW0.out]))
  have HSD := Lib.hid (show scan (32 :: dg) = ⟨[⟨5, [32], dg⟩], [], 0, 0⟩ from by exact scan_blank_ok (by omega) (by rw [HD0.out]; exact hN0) (by decide) (by rw [TD.out, if_neg (by omega), HD0.out]))
  have HSQ := Lib.hid (show scan (77 :: 46 :: (wd ++ [57])) = ⟨[⟨3, [], 77 :: 46 :: (wd ++ [57])⟩], [], 0, 0⟩ from by show scan ([77, 46] ++ wd ++ [57]) = ⟨[⟨3, [], [77, 46] ++ wd ++ [57]⟩], [], 0, 0⟩; exact scan_ok0 (by simp; omega) (by simp) (by decide) (by rw [TQ.out, if_neg (by omega)]; have := HW0.out; simp; omega))
  go_wp2_with fail
  refine (scanL (32 :: wd) _ (by simp; omega)).mono ?_
  rintro e4 w4 ⟨v4, rfl, htr4, hx4⟩
  rw [HSW.out] at htr4 ⊢
  obtain ⟨A4, c4, rfl, _, hm4, hrow4⟩ := htr4
  unfold maxLen at hm4
  obtain ⟨bp, op, rfl, hbp, p0, p1, p2⟩ := tokRow_at hrow4 (k := 0) (by simp)
  simp only [Nat.zero_mul, Nat.add_zero, List.getElem_cons_zero] at p0 p1 p2
  have Hp4 := Lib.hid (show bp < w4.heap.size ∧ w4.cell? ⟨bp, op + 2, none⟩ = some (.string ⟨wd.toArray⟩) from ⟨hbp, p2⟩)
  clear p0 p1 p2 hbp
  have HX4 := Lib.hid (HX3.out.trans hx4); clear hx4 HX3 HSW hrow4
  go_wp2_with fail
  refine (scanL (32 :: dg) _ (by simp; omega)).mono ?_
  rintro e5 w5 ⟨v5, rfl, htr5, hx5⟩
  rw [HSD.out] at htr5 ⊢
  obtain ⟨A5, c5, rfl, _, hm5, hrow5⟩ := htr5
  unfold maxLen at hm5
  obtain ⟨bq, oq, rfl, hbq, q0, q1, q2⟩ := tokRow_at hrow5 (k := 0) (by simp)
  simp only [Nat.zero_mul, Nat.add_zero, List.getElem_cons_zero] at q0 q1 q2
  have Hq5 := Lib.hid (show bq < w5.heap.size ∧ w5.cell? ⟨bq, oq + 2, none⟩ = some (.string ⟨dg.toArray⟩) from ⟨hbq, q2⟩)
  clear q0 q1 q2 hbq
  have Hp5 := Lib.hid (cell_ext Hp4.out hx5); clear Hp4
  have HX5 := Lib.hid (HX4.out.trans hx5); clear hx5 HX4 HSD hrow5
  go_wp2_with fail
  refine (scanL (77 :: 46 :: (wd ++ [57])) _ (by simp; omega)).mono ?_
  rintro e6 w6 ⟨v6, rfl, htr6, hx6⟩
  rw [HSQ.out] at htr6 ⊢
  obtain ⟨A6, c6, rfl, _, hm6, hrow6⟩ := htr6
  unfold maxLen at hm6
  obtain ⟨br, or, rfl, hbr, r0, r1, r2⟩ := tokRow_at hrow6 (k := 0) (by simp)
  simp only [Nat.zero_mul, Nat.add_zero, List.getElem_cons_zero] at r0 r1 r2
  have Hr6 := Lib.hid (show br < w6.heap.size ∧ w6.cell? ⟨br, or, none⟩ = some (.int .i64 3) from ⟨hbr, r0⟩)
  clear r0 r1 r2 hbr
  have Hp6 := Lib.hid (cell_ext Hp5.out hx6); clear Hp5
  have Hq6 := Lib.hid (cell_ext Hq5.out hx6); clear Hq5
  have HX6 := Lib.hid (HX5.out.trans hx6); clear hx6 HX5 HSQ hrow6
  clear TW TQ TD HWH HDH HQH HW0 HD0 hx HQ
  go_wp2_with fail
  refine (awakeL _).mono ?_
  rintro e7 w7 ⟨rfl, hx7⟩
  have HX7 := Lib.hid (HX6.out.trans hx7); clear HX6
  obtain ⟨_, pc⟩ := cell_ext Hp6.out hx7; clear Hp6
  obtain ⟨_, qc⟩ := cell_ext Hq6.out hx7; clear Hq6
  obtain ⟨_, rc⟩ := cell_ext Hr6.out hx7; clear Hr6
  clear hx7
  have px : (Instr.indexAt 23 (.slice (some ⟨bp, op, none⟩) 1 c4) (.int .i64 0)).run Try.prog w7 = .ok (.pointer (some ⟨bp, op, none⟩)) w7 := by simp [go_sem]
  have pf : (Instr.fieldAt 34 (.pointer (some ⟨bp, op, none⟩)) 2).run Try.prog w7 = .ok (.pointer (some ⟨bp, op + 2, none⟩)) w7 := by simp [go_sem]
  have pl : (Instr.loadAt 9 (.pointer (some ⟨bp, op + 2, none⟩))).run Try.prog w7 = .ok (.string ⟨wd.toArray⟩) w7 := by simp [go_sem, pc]
  have qx : (Instr.indexAt 23 (.slice (some ⟨bq, oq, none⟩) 1 c5) (.int .i64 0)).run Try.prog w7 = .ok (.pointer (some ⟨bq, oq, none⟩)) w7 := by simp [go_sem]
  have qf : (Instr.fieldAt 34 (.pointer (some ⟨bq, oq, none⟩)) 2).run Try.prog w7 = .ok (.pointer (some ⟨bq, oq + 2, none⟩)) w7 := by simp [go_sem]
  have ql : (Instr.loadAt 9 (.pointer (some ⟨bq, oq + 2, none⟩))).run Try.prog w7 = .ok (.string ⟨dg.toArray⟩) w7 := by simp [go_sem, qc]
  have rx : (Instr.indexAt 23 (.slice (some ⟨br, or, none⟩) 1 c6) (.int .i64 0)).run Try.prog w7 = .ok (.pointer (some ⟨br, or, none⟩)) w7 := by simp [go_sem]
  have rf : (Instr.fieldAt 34 (.pointer (some ⟨br, or, none⟩)) 0).run Try.prog w7 = .ok (.pointer (some ⟨br, or, none⟩)) w7 := by simp [go_sem]
  have rl : (Instr.loadAt 3 (.pointer (some ⟨br, or, none⟩))).run Try.prog w7 = .ok (.int .i64 3) w7 := by simp [go_sem, rc]
  have hww : (wd == wd) = true := by simp
  have hdd : (dg == dg) = true := by simp
  simp only []
  go_step
  refine fr_in 158 rfl ?_
  intro a hf
  first | (refine st_skip hf rfl rfl ?_) | (refine st_move hf rfl rfl rfl ?_)
  clear hf a
  intro a hf
  first | (refine st_skip hf rfl rfl ?_) | (refine st_move hf rfl rfl rfl ?_)
  clear hf a
  intro a hf
  first | (refine st_skip hf rfl rfl ?_) | (refine st_eqI (c := true) hf rfl rfl rfl rfl (by decide) ?_) | (refine st_eqI (c := false) hf rfl rfl rfl rfl (by decide) ?_)
  clear hf a
  intro a hf
  first | (refine st_skip hf rfl rfl ?_) | (refine st_move hf rfl rfl rfl ?_)
  clear hf a
  intro a hf
  first | (refine st_skip hf rfl rfl ?_) | (refine st_eqB (c := true) Try.underlying4 hf rfl rfl rfl rfl rfl ?_) | (refine st_eqB (c := false) Try.underlying4 hf rfl rfl rfl rfl rfl ?_)
  clear hf a
  intro a hf
  first | (refine st_skip hf rfl rfl ?_) | (refine st_pickT hf rfl rfl rfl rfl ?_) | (refine st_pickF hf rfl rfl rfl rfl ?_)
  clear hf a
  intro a hf
  first | (refine st_skip hf rfl rfl ?_) | (refine st_move hf rfl rfl rfl ?_)
  clear hf a
  intro a hf
  first | (refine st_skip hf rfl rfl ?_) | (refine st_move hf rfl rfl rfl ?_)
  clear hf a
  intro a hf
  first | (refine st_skip hf rfl rfl ?_) | (refine st_eqI (c := true) hf rfl rfl rfl rfl (by decide) ?_) | (refine st_eqI (c := false) hf rfl rfl rfl rfl (by decide) ?_)
  clear hf a
  intro a hf
  first | (refine st_skip hf rfl rfl ?_) | (refine st_move hf rfl rfl rfl ?_)
  clear hf a
  intro a hf
  first | (refine st_skip hf rfl rfl ?_) | (refine st_eqB (c := true) Try.underlying4 hf rfl rfl rfl rfl rfl ?_) | (refine st_eqB (c := false) Try.underlying4 hf rfl rfl rfl rfl rfl ?_)
  clear hf a
  intro a hf
  first | (refine st_skip hf rfl rfl ?_) | (refine st_pickT hf rfl rfl rfl rfl ?_) | (refine st_pickF hf rfl rfl rfl rfl ?_)
  clear hf a
  intro a hf
  first | (refine st_skip hf rfl rfl ?_) | (refine st_move hf rfl rfl rfl ?_)
  clear hf a
  intro a hf
  first | (refine st_skip hf rfl rfl ?_) | (refine st_move hf rfl rfl rfl ?_)
  clear hf a
  intro a hf
  first | (refine st_skip hf rfl rfl ?_) | (refine st_eqI (c := true) hf rfl rfl rfl rfl (by decide) ?_) | (refine st_eqI (c := false) hf rfl rfl rfl rfl (by decide) ?_)
  clear hf a
  intro a hf
  first | (refine st_skip hf rfl rfl ?_) | (refine st_move hf rfl rfl rfl ?_)
  clear hf a
  intro a hf
  first | (refine st_skip hf rfl rfl ?_) | (refine st_eqB (c := true) Try.underlying4 hf rfl rfl rfl rfl rfl ?_) | (refine st_eqB (c := false) Try.underlying4 hf rfl rfl rfl rfl rfl ?_)
  clear hf a
  intro a hf
  first | (refine st_skip hf rfl rfl ?_) | (refine st_pickT hf rfl rfl rfl rfl ?_) | (refine st_pickF hf rfl rfl rfl rfl ?_)
  clear hf a
  intro a hf
  first | (refine st_skip hf rfl rfl ?_) | (refine st_move hf rfl rfl rfl ?_)
  clear hf a
  intro a hf
  first | (refine st_skip hf rfl rfl ?_) | (refine st_move hf rfl rfl rfl ?_)
  clear hf a
  intro a hf
  first | (refine st_skip hf rfl rfl ?_) | (refine st_move hf rfl rfl rfl ?_)
  clear hf a
  intro a hf
  first | (refine st_skip hf rfl rfl ?_) | (refine st_move hf rfl rfl rfl ?_)
  clear hf a
  intro a hf
  first | (refine st_skip hf rfl rfl ?_) | (refine st_eqI (c := true) hf rfl rfl rfl rfl (by decide) ?_) | (refine st_eqI (c := false) hf rfl rfl rfl rfl (by decide) ?_)
  clear hf a
  intro a hf
  first | (refine st_skip hf rfl rfl ?_) | (refine st_move hf rfl rfl rfl ?_)
  clear hf a
  intro a hf
  first | (refine st_skip hf rfl rfl ?_) | (refine st_move hf rfl rfl rfl ?_)
  clear hf a
  intro a hf
  first | (refine st_skip hf rfl rfl ?_) | (refine st_eqI (c := true) hf rfl rfl rfl rfl (by decide) ?_) | (refine st_eqI (c := false) hf rfl rfl rfl rfl (by decide) ?_)
  clear hf a
  intro a hf
  first | (refine st_skip hf rfl rfl ?_) | (refine st_pickT hf rfl rfl rfl rfl ?_) | (refine st_pickF hf rfl rfl rfl rfl ?_)
  clear hf a
  intro a hf
  first | (refine st_skip hf rfl rfl ?_) | (refine st_pickT hf rfl rfl rfl rfl ?_) | (refine st_pickF hf rfl rfl rfl rfl ?_)
  clear hf a
  intro a hf
  first | (refine st_skip hf rfl rfl ?_) | (refine st_pickT hf rfl rfl rfl rfl ?_) | (refine st_pickF hf rfl rfl rfl rfl ?_)
  clear hf a
  intro a hf
  first | (refine st_skip hf rfl rfl ?_) | (refine st_move hf rfl rfl rfl ?_)
  clear hf a
  intro a hf
  first | (refine st_skip hf rfl rfl ?_) | (refine st_move hf rfl rfl rfl ?_)
  clear hf a
  intro a hf
  first | (refine st_skip hf rfl rfl ?_) | (refine st_move hf rfl rfl rfl ?_)
  clear hf a
  intro a hf
  first | (refine st_skip hf rfl rfl ?_) | (refine st_move hf rfl rfl rfl ?_)
  clear hf a
  intro a hf
  first | (refine st_skip hf rfl rfl ?_) | (refine st_eqI (c := true) hf rfl rfl rfl rfl (by decide) ?_) | (refine st_eqI (c := false) hf rfl rfl rfl rfl (by decide) ?_)
  clear hf a
  intro a hf
  first | (refine st_skip hf rfl rfl ?_) | (refine st_move hf rfl rfl rfl ?_)
  clear hf a
  intro a hf
  first | (refine st_skip hf rfl rfl ?_) | (refine st_move hf rfl rfl rfl ?_)
  clear hf a
  intro a hf
  first | (refine st_skip hf rfl rfl ?_) | (refine st_eqI (c := true) hf rfl rfl rfl rfl (by decide) ?_) | (refine st_eqI (c := false) hf rfl rfl rfl rfl (by decide) ?_)
  clear hf a
  intro a hf
  first | (refine st_skip hf rfl rfl ?_) | (refine st_pickT hf rfl rfl rfl rfl ?_) | (refine st_pickF hf rfl rfl rfl rfl ?_)
  clear hf a
  intro a hf
  first | (refine st_skip hf rfl rfl ?_) | (refine st_pickT hf rfl rfl rfl rfl ?_) | (refine st_pickF hf rfl rfl rfl rfl ?_)
  clear hf a
  intro a hf
  first | (refine st_skip hf rfl rfl ?_) | (refine st_pickT hf rfl rfl rfl rfl ?_) | (refine st_pickF hf rfl rfl rfl rfl ?_)
  clear hf a
  intro a hf
  first | (refine st_skip hf rfl rfl ?_) | (refine st_move hf rfl rfl rfl ?_)
  clear hf a
  intro a hf
  first | (refine st_skip hf rfl rfl ?_) | (refine st_move hf rfl rfl rfl ?_)
  clear hf a
  intro a hf
  first | (refine st_skip hf rfl rfl ?_) | (refine st_not (c := true) hf rfl rfl rfl rfl ?_) | (refine st_not (c := false) hf rfl rfl rfl rfl ?_)
  clear hf a
  intro a hf
  first | (refine st_skip hf rfl rfl ?_) | (refine st_move hf rfl rfl rfl ?_)
  clear hf a
  intro a hf
  first | (refine st_skip hf rfl rfl ?_) | (refine st_move hf rfl rfl rfl ?_)
  clear hf a
  intro a hf
  first | (refine st_skip hf rfl rfl ?_) | (refine st_len Try.underlying23 hf rfl rfl rfl ?_)
  clear hf a
  intro a hf
  first | (refine st_skip hf rfl rfl ?_) | (refine st_eqI (c := true) hf rfl rfl rfl rfl (by decide) ?_) | (refine st_eqI (c := false) hf rfl rfl rfl rfl (by decide) ?_)
  clear hf a
  intro a hf
  first | (refine st_skip hf rfl rfl ?_) | (refine st_move hf rfl rfl rfl ?_)
  clear hf a
  intro a hf
  first | (refine st_skip hf rfl rfl ?_) | (refine st_move hf rfl rfl rfl ?_)
  clear hf a
  intro a hf
  first | (refine st_skip hf rfl rfl ?_) | (refine st_index qx hf rfl rfl rfl rfl ?_)
  clear hf a
  intro a hf
  first | (refine st_skip hf rfl rfl ?_) | (refine st_field qf hf rfl rfl rfl ?_)
  clear hf a
  intro a hf
  first | (refine st_skip hf rfl rfl ?_) | (refine st_load (fun _ => ql) hf rfl rfl rfl ?_)
  clear hf a
  intro a hf
  first | (refine st_skip hf rfl rfl ?_) | (refine st_move hf rfl rfl rfl ?_)
  clear hf a
  intro a hf
  first | (refine st_skip hf rfl rfl ?_) | (refine st_eqS (c := true) hf rfl rfl rfl rfl hww ?_) | (refine st_eqS (c := true) hf rfl rfl rfl rfl hdd ?_)
  clear hf a
  intro a hf
  first | (refine st_skip hf rfl rfl ?_) | (refine st_pickT hf rfl rfl rfl rfl ?_) | (refine st_pickF hf rfl rfl rfl rfl ?_)
  clear hf a
  intro a hf
  first | (refine st_skip hf rfl rfl ?_) | (refine st_pickT hf rfl rfl rfl rfl ?_) | (refine st_pickF hf rfl rfl rfl rfl ?_)
  clear hf a
  intro a hf
  first | (refine st_skip hf rfl rfl ?_) | (refine st_pickT hf rfl rfl rfl rfl ?_) | (refine st_pickF hf rfl rfl rfl rfl ?_)
  clear hf a
  intro a hf
  first | (refine st_skip hf rfl rfl ?_) | (refine st_move hf rfl rfl rfl ?_)
  clear hf a
  intro a hf
  first | (refine st_skip hf rfl rfl ?_) | (refine st_move hf rfl rfl rfl ?_)
  clear hf a
  intro a hf
  first | (refine st_skip hf rfl rfl ?_) | (refine st_not (c := true) hf rfl rfl rfl rfl ?_) | (refine st_not (c := false) hf rfl rfl rfl rfl ?_)
  clear hf a
  intro a hf
  first | (refine st_skip hf rfl rfl ?_) | (refine st_move hf rfl rfl rfl ?_)
  clear hf a
  intro a hf
  first | (refine st_skip hf rfl rfl ?_) | (refine st_move hf rfl rfl rfl ?_)
  clear hf a
  intro a hf
  first | (refine st_skip hf rfl rfl ?_) | (refine st_len Try.underlying23 hf rfl rfl rfl ?_)
  clear hf a
  intro a hf
  first | (refine st_skip hf rfl rfl ?_) | (refine st_eqI (c := true) hf rfl rfl rfl rfl (by decide) ?_) | (refine st_eqI (c := false) hf rfl rfl rfl rfl (by decide) ?_)
  clear hf a
  intro a hf
  first | (refine st_skip hf rfl rfl ?_) | (refine st_move hf rfl rfl rfl ?_)
  clear hf a
  intro a hf
  first | (refine st_skip hf rfl rfl ?_) | (refine st_move hf rfl rfl rfl ?_)
  clear hf a
  intro a hf
  first | (refine st_skip hf rfl rfl ?_) | (refine st_index px hf rfl rfl rfl rfl ?_)
  clear hf a
  intro a hf
  first | (refine st_skip hf rfl rfl ?_) | (refine st_field pf hf rfl rfl rfl ?_)
  clear hf a
  intro a hf
  first | (refine st_skip hf rfl rfl ?_) | (refine st_load (fun _ => pl) hf rfl rfl rfl ?_)
  clear hf a
  intro a hf
  first | (refine st_skip hf rfl rfl ?_) | (refine st_move hf rfl rfl rfl ?_)
  clear hf a
  intro a hf
  first | (refine st_skip hf rfl rfl ?_) | (refine st_eqS (c := true) hf rfl rfl rfl rfl hww ?_) | (refine st_eqS (c := true) hf rfl rfl rfl rfl hdd ?_)
  clear hf a
  intro a hf
  first | (refine st_skip hf rfl rfl ?_) | (refine st_pickT hf rfl rfl rfl rfl ?_) | (refine st_pickF hf rfl rfl rfl rfl ?_)
  clear hf a
  intro a hf
  first | (refine st_skip hf rfl rfl ?_) | (refine st_pickT hf rfl rfl rfl rfl ?_) | (refine st_pickF hf rfl rfl rfl rfl ?_)
  clear hf a
  intro a hf
  first | (refine st_skip hf rfl rfl ?_) | (refine st_pickT hf rfl rfl rfl rfl ?_) | (refine st_pickF hf rfl rfl rfl rfl ?_)
  clear hf a
  intro a hf
  first | (refine st_skip hf rfl rfl ?_) | (refine st_move hf rfl rfl rfl ?_)
  clear hf a
  intro a hf
  first | (refine st_skip hf rfl rfl ?_) | (refine st_move hf rfl rfl rfl ?_)
  clear hf a
  intro a hf
  first | (refine st_skip hf rfl rfl ?_) | (refine st_not (c := true) hf rfl rfl rfl rfl ?_) | (refine st_not (c := false) hf rfl rfl rfl rfl ?_)
  clear hf a
  intro a hf
  first | (refine st_skip hf rfl rfl ?_) | (refine st_move hf rfl rfl rfl ?_)
  clear hf a
  intro a hf
  first | (refine st_skip hf rfl rfl ?_) | (refine st_move hf rfl rfl rfl ?_)
  clear hf a
  intro a hf
  first | (refine st_skip hf rfl rfl ?_) | (refine st_len Try.underlying23 hf rfl rfl rfl ?_)
  clear hf a
  intro a hf
  first | (refine st_skip hf rfl rfl ?_) | (refine st_eqI (c := true) hf rfl rfl rfl rfl (by decide) ?_) | (refine st_eqI (c := false) hf rfl rfl rfl rfl (by decide) ?_)
  clear hf a
  intro a hf
  first | (refine st_skip hf rfl rfl ?_) | (refine st_move hf rfl rfl rfl ?_)
  clear hf a
  intro a hf
  first | (refine st_skip hf rfl rfl ?_) | (refine st_move hf rfl rfl rfl ?_)
  clear hf a
  intro a hf
  first | (refine st_skip hf rfl rfl ?_) | (refine st_index rx hf rfl rfl rfl rfl ?_)
  clear hf a
  intro a hf
  first | (refine st_skip hf rfl rfl ?_) | (refine st_field rf hf rfl rfl rfl ?_)
  clear hf a
  intro a hf
  first | (refine st_skip hf rfl rfl ?_) | (refine st_load (fun _ => rl) hf rfl rfl rfl ?_)
  clear hf a
  intro a hf
  first | (refine st_skip hf rfl rfl ?_) | (refine st_eqI (c := true) hf rfl rfl rfl rfl (by decide) ?_) | (refine st_eqI (c := false) hf rfl rfl rfl rfl (by decide) ?_)
  clear hf a
  intro a hf
  first | (refine st_skip hf rfl rfl ?_) | (refine st_pickT hf rfl rfl rfl rfl ?_) | (refine st_pickF hf rfl rfl rfl rfl ?_)
  clear hf a
  intro a hf
  first | (refine st_skip hf rfl rfl ?_) | (refine st_pickT hf rfl rfl rfl rfl ?_) | (refine st_pickF hf rfl rfl rfl rfl ?_)
  clear hf a
  intro a hf
  first | (refine st_skip hf rfl rfl ?_) | (refine st_pickT hf rfl rfl rfl rfl ?_) | (refine st_pickF hf rfl rfl rfl rfl ?_)
  clear hf a
  intro a hf
  first | (refine st_skip hf rfl rfl ?_) | (refine st_assign hf rfl rfl rfl ?_)
  clear hf a
  intro a hf
  refine wpList_nil ?_
  go_step
  go_step
  go_step
  refine bodyPost_ret (fn := Try.f6) (v := .bool true) (hf.results (t := 4) rfl rfl _ _) hf.defers ⟨rfl, HX7.out⟩
set_option maxRecDepth 100000 in
set_option maxHeartbeats 8000000 in
theorem limitsW1 (a0 a1 : Int) (hc : 15 < 1 + a0 % 60 ∧ 1 + a0 % 60 ≤ 23) (w : World) (h10 : 0 ≤ a1) (h11 : a1 ≤ 255) : Calls Try.prog 6 #[.int .i64 a0, .int .u8 a1] w fun e w' => e = .returned (.bool true) ∧ Ext w w' := by
  obtain ⟨q, hq⟩ : ∃ q, a0 % 60 = q := ⟨_, rfl⟩
  have hq0 : 0 ≤ q := by omega
  have hq1 : q < 60 := by omega
  rw [hq] at hc
  have HQ := Lib.hid hq; clear hq
  obtain ⟨N, hN⟩ : ∃ N : Nat, (1 : Int) + q = N := ⟨(1 + q).toNat, by omega⟩
  have hN0 : 0 < N := by omega
  have hr : 15 < N ∧ N ≤ 23 := by omega
  clear hc
  have hN1 : N ≤ 60 := by omega
  go_enter Try.func6, Try.ntmps6
  go_wp2_with fail
  refine (modC _ _ _ (by omega) (by omega)).mono ?_
  rintro e1 w1 ⟨rfl, rfl⟩
  rw [HQ.out]
  go_wp2_with fail
  refine (manyC _ N _ rfl _ (by omega) (by omega) hN0 (by omega)).mono ?_
  rintro e2 w2 ⟨rfl, hx2⟩
  have hcw : lowerB (97 + a1 % 26).toNat.toUInt8 = true := by
    have : ((97 + a1 % 26).toNat.toUInt8).toNat = (97 + a1 % 26).toNat := by simp; omega
    unfold lowerB; rw [this]; simp; omega
  have TW := Lib.hid (tok_word hN0 hcw)
  have TQ := Lib.hid (tok_pair hN0 hcw)
  have hw0 : (List.replicate N (97 + a1 % 26).toNat.toUInt8).length = N := by simp
  have hwh : (List.replicate N (97 + a1 % 26).toNat.toUInt8).getD 0 0 = (97 + a1 % 26).toNat.toUInt8 := getD_rep hN0
  have hwhw := lower_head hcw
  rw [← hwh] at hwhw
  clear hwh hcw
  generalize List.replicate N (97 + a1 % 26).toNat.toUInt8 = wd at TW TQ hw0 hwhw ⊢
  have HX2 := Lib.hid hx2; clear hx2
  have HWH := Lib.hid hwhw; clear hwhw
  have HW0 := Lib.hid hw0
  go_wp2_with fail
  refine (manyC _ N _ rfl _ (by omega) (by omega) hN0 (by omega)).mono ?_
  rintro e3 w3 ⟨rfl, hx3⟩
  have hcd : digitB (49 + a1 % 9).toNat.toUInt8 = true ∧ ((49 + a1 % 9).toNat.toUInt8).toNat ≠ 48 := by
    have : ((49 + a1 % 9).toNat.toUInt8).toNat = (49 + a1 % 9).toNat := by simp; omega
    unfold digitB; rw [this]; simp; omega
  have TD := Lib.hid (tok_digits hN0 hcd.1 hcd.2)
  have hd0 : (List.replicate N (49 + a1 % 9).toNat.toUInt8).length = N := by simp
  have hdh : (List.replicate N (49 + a1 % 9).toNat.toUInt8).getD 0 0 = (49 + a1 % 9).toNat.toUInt8 := getD_rep hN0
  have hdhw := digit_head hcd.1
  rw [← hdh] at hdhw
  clear hdh hcd
  generalize List.replicate N (49 + a1 % 9).toNat.toUInt8 = dg at TD hd0 hdhw ⊢
  have HX3 := Lib.hid (HX2.out.trans hx3); clear hx3
  have HDH := Lib.hid hdhw; clear hdhw
  have HD0 := Lib.hid hd0
  have hx := app_list
  have HQH := Lib.hid (show whiteB (([77, 46] ++ wd ++ [57]).getD 0 0) = false ∧ (([77, 46] ++ wd ++ [57]).getD 0 0).toNat ≠ 35 from by simp only [List.cons_append, List.getD_cons_zero]; decide)
  have hwl : wd.length ≤ 60 := by omega
  have hdl : dg.length ≤ 60 := by omega
  clear hw0 hd0
  have i1 : decide ((N : Int) ≤ 15) = false := by simp; omega
  have i2 : (N : Int) ≤ 24 := by omega
  have i3 : (N : Int) + 1 ≤ 24 := by omega
  have HSW := Lib.hid (show scan (32 :: wd) = ⟨[⟨1, [32], wd⟩], [], 0, 0⟩ from by exact scan_blank_ok (by omega) (by rw [HW0.out]; exact hN0) (by decide) (by rw [TW.out, if_neg (by omega), HW0.out]))
  have HSD := Lib.hid (show scan (32 :: dg) = ⟨[], [], 1, 3⟩ from by exact scan_blank_err (by omega) (by rw [HD0.out]; exact hN0) HDH.out.1 HDH.out.2 (by rw [TD.out, if_pos (by omega)]) (by decide))
  have HSQ := Lib.hid (show scan (77 :: 46 :: (wd ++ [57])) = ⟨[⟨3, [], 77 :: 46 :: (wd ++ [57])⟩], [], 0, 0⟩ from by show scan ([77, 46] ++ wd ++ [57]) = ⟨[⟨3, [], [77, 46] ++ wd ++ [57]⟩], [], 0, 0⟩; exact scan_ok0 (by simp; omega) (by simp) (by decide) (by rw [TQ.out, if_neg (by omega)]; have := HW0.out; simp; omega))
  go_wp2_with fail
  refine (scanL (32 :: wd) _ (by simp; omega)).mono ?_
  rintro e4 w4 ⟨v4, rfl, htr4, hx4⟩
  rw [HSW.out] at htr4 ⊢
  obtain ⟨A4, c4, rfl, _, hm4, hrow4⟩ := htr4
  unfold maxLen at hm4
  obtain ⟨bp, op, rfl, hbp, p0, p1, p2⟩ := tokRow_at hrow4 (k := 0) (by simp)
  simp only [Nat.zero_mul, Nat.add_zero, List.getElem_cons_zero] at p0 p1 p2
  have Hp4 := Lib.hid (show bp < w4.heap.size ∧ w4.cell? ⟨bp, op + 2, none⟩ = some (.string ⟨wd.toArray⟩) from ⟨hbp, p2⟩)
  clear p0 p1 p2 hbp
  have HX4 := Lib.hid (HX3.out.trans hx4); clear hx4 HX3 HSW hrow4
  go_wp2_with fail
  refine (scanL (32 :: dg) _ (by simp; omega)).mono ?_
  rintro e5 w5 ⟨v5, rfl, htr5, hx5⟩
  rw [HSD.out] at htr5 ⊢
  obtain ⟨A5, c5, rfl, _, hm5, hrow5⟩ := htr5
  unfold maxLen at hm5
  have Hp5 := Lib.hid (cell_ext Hp4.out hx5); clear Hp4
  have HX5 := Lib.hid (HX4.out.trans hx5); clear hx5 HX4 HSD hrow5
  go_wp2_with fail
  refine (scanL (77 :: 46 :: (wd ++ [57])) _ (by simp; omega)).mono ?_
  rintro e6 w6 ⟨v6, rfl, htr6, hx6⟩
  rw [HSQ.out] at htr6 ⊢
  obtain ⟨A6, c6, rfl, _, hm6, hrow6⟩ := htr6
  unfold maxLen at hm6
  obtain ⟨br, or, rfl, hbr, r0, r1, r2⟩ := tokRow_at hrow6 (k := 0) (by simp)
  simp only [Nat.zero_mul, Nat.add_zero, List.getElem_cons_zero] at r0 r1 r2
  have Hr6 := Lib.hid (show br < w6.heap.size ∧ w6.cell? ⟨br, or, none⟩ = some (.int .i64 3) from ⟨hbr, r0⟩)
  clear r0 r1 r2 hbr
  have Hp6 := Lib.hid (cell_ext Hp5.out hx6); clear Hp5
  have HX6 := Lib.hid (HX5.out.trans hx6); clear hx6 HX5 HSQ hrow6
  clear TW TQ TD HWH HDH HQH HW0 HD0 hx HQ
  go_wp2_with fail
  refine (awakeL _).mono ?_
  rintro e7 w7 ⟨rfl, hx7⟩
  have HX7 := Lib.hid (HX6.out.trans hx7); clear HX6
  obtain ⟨_, pc⟩ := cell_ext Hp6.out hx7; clear Hp6
  obtain ⟨_, rc⟩ := cell_ext Hr6.out hx7; clear Hr6
  clear hx7
  have px : (Instr.indexAt 23 (.slice (some ⟨bp, op, none⟩) 1 c4) (.int .i64 0)).run Try.prog w7 = .ok (.pointer (some ⟨bp, op, none⟩)) w7 := by simp [go_sem]
  have pf : (Instr.fieldAt 34 (.pointer (some ⟨bp, op, none⟩)) 2).run Try.prog w7 = .ok (.pointer (some ⟨bp, op + 2, none⟩)) w7 := by simp [go_sem]
  have pl : (Instr.loadAt 9 (.pointer (some ⟨bp, op + 2, none⟩))).run Try.prog w7 = .ok (.string ⟨wd.toArray⟩) w7 := by simp [go_sem, pc]
  have rx : (Instr.indexAt 23 (.slice (some ⟨br, or, none⟩) 1 c6) (.int .i64 0)).run Try.prog w7 = .ok (.pointer (some ⟨br, or, none⟩)) w7 := by simp [go_sem]
  have rf : (Instr.fieldAt 34 (.pointer (some ⟨br, or, none⟩)) 0).run Try.prog w7 = .ok (.pointer (some ⟨br, or, none⟩)) w7 := by simp [go_sem]
  have rl : (Instr.loadAt 3 (.pointer (some ⟨br, or, none⟩))).run Try.prog w7 = .ok (.int .i64 3) w7 := by simp [go_sem, rc]
  have hww : (wd == wd) = true := by simp
  have hdd : (dg == dg) = true := by simp
  simp only []
  go_step
  refine fr_in 158 rfl ?_
  intro a hf
  first | (refine st_skip hf rfl rfl ?_) | (refine st_move hf rfl rfl rfl ?_)
  clear hf a
  intro a hf
  first | (refine st_skip hf rfl rfl ?_) | (refine st_move hf rfl rfl rfl ?_)
  clear hf a
  intro a hf
  first | (refine st_skip hf rfl rfl ?_) | (refine st_eqI (c := true) hf rfl rfl rfl rfl (by decide) ?_) | (refine st_eqI (c := false) hf rfl rfl rfl rfl (by decide) ?_)
  clear hf a
  intro a hf
  first | (refine st_skip hf rfl rfl ?_) | (refine st_move hf rfl rfl rfl ?_)
  clear hf a
  intro a hf
  first | (refine st_skip hf rfl rfl ?_) | (refine st_eqB (c := true) Try.underlying4 hf rfl rfl rfl rfl rfl ?_) | (refine st_eqB (c := false) Try.underlying4 hf rfl rfl rfl rfl rfl ?_)
  clear hf a
  intro a hf
  first | (refine st_skip hf rfl rfl ?_) | (refine st_pickT hf rfl rfl rfl rfl ?_) | (refine st_pickF hf rfl rfl rfl rfl ?_)
  clear hf a
  intro a hf
  first | (refine st_skip hf rfl rfl ?_) | (refine st_move hf rfl rfl rfl ?_)
  clear hf a
  intro a hf
  first | (refine st_skip hf rfl rfl ?_) | (refine st_move hf rfl rfl rfl ?_)
  clear hf a
  intro a hf
  first | (refine st_skip hf rfl rfl ?_) | (refine st_eqI (c := true) hf rfl rfl rfl rfl (by decide) ?_) | (refine st_eqI (c := false) hf rfl rfl rfl rfl (by decide) ?_)
  clear hf a
  intro a hf
  first | (refine st_skip hf rfl rfl ?_) | (refine st_move hf rfl rfl rfl ?_)
  clear hf a
  intro a hf
  first | (refine st_skip hf rfl rfl ?_) | (refine st_eqB (c := true) Try.underlying4 hf rfl rfl rfl rfl rfl ?_) | (refine st_eqB (c := false) Try.underlying4 hf rfl rfl rfl rfl rfl ?_)
  clear hf a
  intro a hf
  first | (refine st_skip hf rfl rfl ?_) | (refine st_pickT hf rfl rfl rfl rfl ?_) | (refine st_pickF hf rfl rfl rfl rfl ?_)
  clear hf a
  intro a hf
  first | (refine st_skip hf rfl rfl ?_) | (refine st_move hf rfl rfl rfl ?_)
  clear hf a
  intro a hf
  first | (refine st_skip hf rfl rfl ?_) | (refine st_move hf rfl rfl rfl ?_)
  clear hf a
  intro a hf
  first | (refine st_skip hf rfl rfl ?_) | (refine st_eqI (c := true) hf rfl rfl rfl rfl (by decide) ?_) | (refine st_eqI (c := false) hf rfl rfl rfl rfl (by decide) ?_)
  clear hf a
  intro a hf
  first | (refine st_skip hf rfl rfl ?_) | (refine st_move hf rfl rfl rfl ?_)
  clear hf a
  intro a hf
  first | (refine st_skip hf rfl rfl ?_) | (refine st_eqB (c := true) Try.underlying4 hf rfl rfl rfl rfl rfl ?_) | (refine st_eqB (c := false) Try.underlying4 hf rfl rfl rfl rfl rfl ?_)
  clear hf a
  intro a hf
  first | (refine st_skip hf rfl rfl ?_) | (refine st_pickT hf rfl rfl rfl rfl ?_) | (refine st_pickF hf rfl rfl rfl rfl ?_)
  clear hf a
  intro a hf
  first | (refine st_skip hf rfl rfl ?_) | (refine st_move hf rfl rfl rfl ?_)
  clear hf a
  intro a hf
  first | (refine st_skip hf rfl rfl ?_) | (refine st_move hf rfl rfl rfl ?_)
  clear hf a
  intro a hf
  first | (refine st_skip hf rfl rfl ?_) | (refine st_move hf rfl rfl rfl ?_)
  clear hf a
  intro a hf
  first | (refine st_skip hf rfl rfl ?_) | (refine st_move hf rfl rfl rfl ?_)
  clear hf a
  intro a hf
  first | (refine st_skip hf rfl rfl ?_) | (refine st_eqI (c := true) hf rfl rfl rfl rfl (by decide) ?_) | (refine st_eqI (c := false) hf rfl rfl rfl rfl (by decide) ?_)
  clear hf a
  intro a hf
  first | (refine st_skip hf rfl rfl ?_) | (refine st_move hf rfl rfl rfl ?_)
  clear hf a
  intro a hf
  first | (refine st_skip hf rfl rfl ?_) | (refine st_move hf rfl rfl rfl ?_)
  clear hf a
  intro a hf
  first | (refine st_skip hf rfl rfl ?_) | (refine st_eqI (c := true) hf rfl rfl rfl rfl (by decide) ?_) | (refine st_eqI (c := false) hf rfl rfl rfl rfl (by decide) ?_)
  clear hf a
  intro a hf
  first | (refine st_skip hf rfl rfl ?_) | (refine st_pickT hf rfl rfl rfl rfl ?_) | (refine st_pickF hf rfl rfl rfl rfl ?_)
  clear hf a
  intro a hf
  first | (refine st_skip hf rfl rfl ?_) | (refine st_pickT hf rfl rfl rfl rfl ?_) | (refine st_pickF hf rfl rfl rfl rfl ?_)
  clear hf a
  intro a hf
  first | (refine st_skip hf rfl rfl ?_) | (refine st_pickT hf rfl rfl rfl rfl ?_) | (refine st_pickF hf rfl rfl rfl rfl ?_)
  clear hf a
  intro a hf
  first | (refine st_skip hf rfl rfl ?_) | (refine st_move hf rfl rfl rfl ?_)
  clear hf a
  intro a hf
  first | (refine st_skip hf rfl rfl ?_) | (refine st_move hf rfl rfl rfl ?_)
  clear hf a
  intro a hf
  first | (refine st_skip hf rfl rfl ?_) | (refine st_move hf rfl rfl rfl ?_)
  clear hf a
  intro a hf
  first | (refine st_skip hf rfl rfl ?_) | (refine st_move hf rfl rfl rfl ?_)
  clear hf a
  intro a hf
  first | (refine st_skip hf rfl rfl ?_) | (refine st_eqI (c := true) hf rfl rfl rfl rfl (by decide) ?_) | (refine st_eqI (c := false) hf rfl rfl rfl rfl (by decide) ?_)
  clear hf a
  intro a hf
  first | (refine st_skip hf rfl rfl ?_) | (refine st_move hf rfl rfl rfl ?_)
  clear hf a
  intro a hf
  first | (refine st_skip hf rfl rfl ?_) | (refine st_move hf rfl rfl rfl ?_)
  clear hf a
  intro a hf
  first | (refine st_skip hf rfl rfl ?_) | (refine st_eqI (c := true) hf rfl rfl rfl rfl (by decide) ?_) | (refine st_eqI (c := false) hf rfl rfl rfl rfl (by decide) ?_)
  clear hf a
  intro a hf
  first | (refine st_skip hf rfl rfl ?_) | (refine st_pickT hf rfl rfl rfl rfl ?_) | (refine st_pickF hf rfl rfl rfl rfl ?_)
  clear hf a
  intro a hf
  first | (refine st_skip hf rfl rfl ?_) | (refine st_pickT hf rfl rfl rfl rfl ?_) | (refine st_pickF hf rfl rfl rfl rfl ?_)
  clear hf a
  intro a hf
  first | (refine st_skip hf rfl rfl ?_) | (refine st_pickT hf rfl rfl rfl rfl ?_) | (refine st_pickF hf rfl rfl rfl rfl ?_)
  clear hf a
  intro a hf
  first | (refine st_skip hf rfl rfl ?_) | (refine st_move hf rfl rfl rfl ?_)
  clear hf a
  intro a hf
  first | (refine st_skip hf rfl rfl ?_) | (refine st_move hf rfl rfl rfl ?_)
  clear hf a
  intro a hf
  first | (refine st_skip hf rfl rfl ?_) | (refine st_not (c := true) hf rfl rfl rfl rfl ?_) | (refine st_not (c := false) hf rfl rfl rfl rfl ?_)
  clear hf a
  intro a hf
  first | (refine st_skip hf rfl rfl ?_) | (refine st_move hf rfl rfl rfl ?_)
  clear hf a
  intro a hf
  first | (refine st_skip hf rfl rfl ?_) | (refine st_move hf rfl rfl rfl ?_)
  clear hf a
  intro a hf
  first | (refine st_skip hf rfl rfl ?_) | (refine st_len Try.underlying23 hf rfl rfl rfl ?_)
  clear hf a
  intro a hf
  first | (refine st_skip hf rfl rfl ?_) | (refine st_eqI (c := true) hf rfl rfl rfl rfl (by decide) ?_) | (refine st_eqI (c := false) hf rfl rfl rfl rfl (by decide) ?_)
  clear hf a
  intro a hf
  first | (refine st_skip hf rfl rfl ?_) | (refine st_move hf rfl rfl rfl ?_)
  clear hf a
  intro a hf
  first | (refine st_skip hf rfl rfl ?_) | (refine st_move hf rfl rfl rfl ?_)
  clear hf a
  intro a hf
  first | (refine st_skip hf rfl rfl ?_)
  clear hf a
  intro a hf
  first | (refine st_skip hf rfl rfl ?_)
  clear hf a
  intro a hf
  first | (refine st_skip hf rfl rfl ?_)
  clear hf a
  intro a hf
  first | (refine st_skip hf rfl rfl ?_) | (refine st_move hf rfl rfl rfl ?_)
  clear hf a
  intro a hf
  first | (refine st_skip hf rfl rfl ?_) | (refine st_eqS (c := true) hf rfl rfl rfl rfl hww ?_) | (refine st_eqS (c := true) hf rfl rfl rfl rfl hdd ?_)
  clear hf a
  intro a hf
  first | (refine st_skip hf rfl rfl ?_) | (refine st_pickT hf rfl rfl rfl rfl ?_) | (refine st_pickF hf rfl rfl rfl rfl ?_)
  clear hf a
  intro a hf
  first | (refine st_skip hf rfl rfl ?_) | (refine st_pickT hf rfl rfl rfl rfl ?_) | (refine st_pickF hf rfl rfl rfl rfl ?_)
  clear hf a
  intro a hf
  first | (refine st_skip hf rfl rfl ?_) | (refine st_pickT hf rfl rfl rfl rfl ?_) | (refine st_pickF hf rfl rfl rfl rfl ?_)
  clear hf a
  intro a hf
  first | (refine st_skip hf rfl rfl ?_) | (refine st_move hf rfl rfl rfl ?_)
  clear hf a
  intro a hf
  first | (refine st_skip hf rfl rfl ?_) | (refine st_move hf rfl rfl rfl ?_)
  clear hf a
  intro a hf
  first | (refine st_skip hf rfl rfl ?_) | (refine st_not (c := true) hf rfl rfl rfl rfl ?_) | (refine st_not (c := false) hf rfl rfl rfl rfl ?_)
  clear hf a
  intro a hf
  first | (refine st_skip hf rfl rfl ?_) | (refine st_move hf rfl rfl rfl ?_)
  clear hf a
  intro a hf
  first | (refine st_skip hf rfl rfl ?_) | (refine st_move hf rfl rfl rfl ?_)
  clear hf a
  intro a hf
  first | (refine st_skip hf rfl rfl ?_) | (refine st_len Try.underlying23 hf rfl rfl rfl ?_)
  clear hf a
  intro a hf
  first | (refine st_skip hf rfl rfl ?_) | (refine st_eqI (c := true) hf rfl rfl rfl rfl (by decide) ?_) | (refine st_eqI (c := false) hf rfl rfl rfl rfl (by decide) ?_)
  clear hf a
  intro a hf
  first | (refine st_skip hf rfl rfl ?_) | (refine st_move hf rfl rfl rfl ?_)
  clear hf a
  intro a hf
  first | (refine st_skip hf rfl rfl ?_) | (refine st_move hf rfl rfl rfl ?_)
  clear hf a
  intro a hf
  first | (refine st_skip hf rfl rfl ?_) | (refine st_index px hf rfl rfl rfl rfl ?_)
  clear hf a
  intro a hf
  first | (refine st_skip hf rfl rfl ?_) | (refine st_field pf hf rfl rfl rfl ?_)
  clear hf a
  intro a hf
  first | (refine st_skip hf rfl rfl ?_) | (refine st_load (fun _ => pl) hf rfl rfl rfl ?_)
  clear hf a
  intro a hf
  first | (refine st_skip hf rfl rfl ?_) | (refine st_move hf rfl rfl rfl ?_)
  clear hf a
  intro a hf
  first | (refine st_skip hf rfl rfl ?_) | (refine st_eqS (c := true) hf rfl rfl rfl rfl hww ?_) | (refine st_eqS (c := true) hf rfl rfl rfl rfl hdd ?_)
  clear hf a
  intro a hf
  first | (refine st_skip hf rfl rfl ?_) | (refine st_pickT hf rfl rfl rfl rfl ?_) | (refine st_pickF hf rfl rfl rfl rfl ?_)
  clear hf a
  intro a hf
  first | (refine st_skip hf rfl rfl ?_) | (refine st_pickT hf rfl rfl rfl rfl ?_) | (refine st_pickF hf rfl rfl rfl rfl ?_)
  clear hf a
  intro a hf
  first | (refine st_skip hf rfl rfl ?_) | (refine st_pickT hf rfl rfl rfl rfl ?_) | (refine st_pickF hf rfl rfl rfl rfl ?_)
  clear hf a
  intro a hf
  first | (refine st_skip hf rfl rfl ?_) | (refine st_move hf rfl rfl rfl ?_)
  clear hf a
  intro a hf
  first | (refine st_skip hf rfl rfl ?_) | (refine st_move hf rfl rfl rfl ?_)
  clear hf a
  intro a hf
  first | (refine st_skip hf rfl rfl ?_) | (refine st_not (c := true) hf rfl rfl rfl rfl ?_) | (refine st_not (c := false) hf rfl rfl rfl rfl ?_)
  clear hf a
  intro a hf
  first | (refine st_skip hf rfl rfl ?_) | (refine st_move hf rfl rfl rfl ?_)
  clear hf a
  intro a hf
  first | (refine st_skip hf rfl rfl ?_) | (refine st_move hf rfl rfl rfl ?_)
  clear hf a
  intro a hf
  first | (refine st_skip hf rfl rfl ?_) | (refine st_len Try.underlying23 hf rfl rfl rfl ?_)
  clear hf a
  intro a hf
  first | (refine st_skip hf rfl rfl ?_) | (refine st_eqI (c := true) hf rfl rfl rfl rfl (by decide) ?_) | (refine st_eqI (c := false) hf rfl rfl rfl rfl (by decide) ?_)
  clear hf a
  intro a hf
  first | (refine st_skip hf rfl rfl ?_) | (refine st_move hf rfl rfl rfl ?_)
  clear hf a
  intro a hf
  first | (refine st_skip hf rfl rfl ?_) | (refine st_move hf rfl rfl rfl ?_)
  clear hf a
  intro a hf
  first | (refine st_skip hf rfl rfl ?_) | (refine st_index rx hf rfl rfl rfl rfl ?_)
  clear hf a
  intro a hf
  first | (refine st_skip hf rfl rfl ?_) | (refine st_field rf hf rfl rfl rfl ?_)
  clear hf a
  intro a hf
  first | (refine st_skip hf rfl rfl ?_) | (refine st_load (fun _ => rl) hf rfl rfl rfl ?_)
  clear hf a
  intro a hf
  first | (refine st_skip hf rfl rfl ?_) | (refine st_eqI (c := true) hf rfl rfl rfl rfl (by decide) ?_) | (refine st_eqI (c := false) hf rfl rfl rfl rfl (by decide) ?_)
  clear hf a
  intro a hf
  first | (refine st_skip hf rfl rfl ?_) | (refine st_pickT hf rfl rfl rfl rfl ?_) | (refine st_pickF hf rfl rfl rfl rfl ?_)
  clear hf a
  intro a hf
  first | (refine st_skip hf rfl rfl ?_) | (refine st_pickT hf rfl rfl rfl rfl ?_) | (refine st_pickF hf rfl rfl rfl rfl ?_)
  clear hf a
  intro a hf
  first | (refine st_skip hf rfl rfl ?_) | (refine st_pickT hf rfl rfl rfl rfl ?_) | (refine st_pickF hf rfl rfl rfl rfl ?_)
  clear hf a
  intro a hf
  first | (refine st_skip hf rfl rfl ?_) | (refine st_assign hf rfl rfl rfl ?_)
  clear hf a
  intro a hf
  refine wpList_nil ?_
  go_step
  go_step
  go_step
  refine bodyPost_ret (fn := Try.f6) (v := .bool true) (hf.results (t := 4) rfl rfl _ _) hf.defers ⟨rfl, HX7.out⟩
set_option maxRecDepth 100000 in
set_option maxHeartbeats 8000000 in
theorem limitsW2 (a0 a1 : Int) (hc : 24 ≤ 1 + a0 % 60 ∧ 1 + a0 % 60 ≤ 24) (w : World) (h10 : 0 ≤ a1) (h11 : a1 ≤ 255) : Calls Try.prog 6 #[.int .i64 a0, .int .u8 a1] w fun e w' => e = .returned (.bool true) ∧ Ext w w' := by
  obtain ⟨q, hq⟩ : ∃ q, a0 % 60 = q := ⟨_, rfl⟩
  have hq0 : 0 ≤ q := by omega
  have hq1 : q < 60 := by omega
  rw [hq] at hc
  have HQ := Lib.hid hq; clear hq
  obtain ⟨N, hN⟩ : ∃ N : Nat, (1 : Int) + q = N := ⟨(1 + q).toNat, by omega⟩
  have hN0 : 0 < N := by omega
  have hr : 24 ≤ N ∧ N ≤ 24 := by omega
  clear hc
  have hN1 : N ≤ 60 := by omega
  go_enter Try.func6, Try.ntmps6
  go_wp2_with fail
  refine (modC _ _ _ (by omega) (by omega)).mono ?_
  rintro e1 w1 ⟨rfl, rfl⟩
  rw [HQ.out]
  go_wp2_with fail
  refine (manyC _ N _ rfl _ (by omega) (by omega) hN0 (by omega)).mono ?_
  rintro e2 w2 ⟨rfl, hx2⟩
  have hcw : lowerB (97 + a1 % 26).toNat.toUInt8 = true := by
    have : ((97 + a1 % 26).toNat.toUInt8).toNat = (97 + a1 % 26).toNat := by simp; omega
    unfold lowerB; rw [this]; simp; omega
  have TW := Lib.hid (tok_word hN0 hcw)
  have TQ := Lib.hid (tok_pair hN0 hcw)
  have hw0 : (List.replicate N (97 + a1 % 26).toNat.toUInt8).length = N := by simp
  have hwh : (List.replicate N (97 + a1 % 26).toNat.toUInt8).getD 0 0 = (97 + a1 % 26).toNat.toUInt8 := getD_rep hN0
  have hwhw := lower_head hcw
  rw [← hwh] at hwhw
  clear hwh hcw
  generalize List.replicate N (97 + a1 % 26).toNat.toUInt8 = wd at TW TQ hw0 hwhw ⊢
  have HX2 := Lib.hid hx2; clear hx2
  have HWH := Lib.hid hwhw; clear hwhw
  have HW0 := Lib.hid hw0
  go_wp2_with fail
  refine (manyC _ N _ rfl _ (by omega) (by omega) hN0 (by omega)).mono ?_
  rintro e3 w3 ⟨rfl, hx3⟩
  have hcd : digitB (49 + a1 % 9).toNat.toUInt8 = true ∧ ((49 + a1 % 9).toNat.toUInt8).toNat ≠ 48 := by
    have : ((49 + a1 % 9).toNat.toUInt8).toNat = (49 + a1 % 9).toNat := by simp; omega
    unfold digitB; rw [this]; simp; omega
  have TD := Lib.hid (tok_digits hN0 hcd.1 hcd.2)
  have hd0 : (List.replicate N (49 + a1 % 9).toNat.toUInt8).length = N := by simp
  have hdh : (List.replicate N (49 + a1 % 9).toNat.toUInt8).getD 0 0 = (49 + a1 % 9).toNat.toUInt8 := getD_rep hN0
  have hdhw := digit_head hcd.1
  rw [← hdh] at hdhw
  clear hdh hcd
  generalize List.replicate N (49 + a1 % 9).toNat.toUInt8 = dg at TD hd0 hdhw ⊢
  have HX3 := Lib.hid (HX2.out.trans hx3); clear hx3
  have HDH := Lib.hid hdhw; clear hdhw
  have HD0 := Lib.hid hd0
  have hx := app_list
  have HQH := Lib.hid (show whiteB (([77, 46] ++ wd ++ [57]).getD 0 0) = false ∧ (([77, 46] ++ wd ++ [57]).getD 0 0).toNat ≠ 35 from by simp only [List.cons_append, List.getD_cons_zero]; decide)
  have hwl : wd.length ≤ 60 := by omega
  have hdl : dg.length ≤ 60 := by omega
  clear hw0 hd0
  have i1 : decide ((N : Int) ≤ 15) = false := by simp; omega
  have i2 : (N : Int) ≤ 24 := by omega
  have i3 : decide ((N : Int) + 1 ≤ 24) = false := by simp; omega
  have HSW := Lib.hid (show scan (32 :: wd) = ⟨[⟨1, [32], wd⟩], [], 0, 0⟩ from by exact scan_blank_ok (by omega) (by rw [HW0.out]; exact hN0) (by decide) (by rw [TW.out, if_neg (by omega), HW0.out]))
  have HSD := Lib.hid (show scan (32 :: dg) = ⟨[], [], 1, 3⟩ from by exact scan_blank_err (by omega) (by rw [HD0.out]; exact hN0) HDH.out.1 HDH.out.2 (by rw [TD.out, if_pos (by omega)]) (by decide))
  have HSQ := Lib.hid (show scan (77 :: 46 :: (wd ++ [57])) = ⟨[], [], 0, 3⟩ from by show scan ([77, 46] ++ wd ++ [57]) = ⟨[], [], 0, 3⟩; exact scan_err0 (by simp; omega) (by simp) HQH.out.1 HQH.out.2 (by rw [TQ.out, if_pos (by omega)]) (by decide))
  go_wp2_with fail
  refine (scanL (32 :: wd) _ (by simp; omega)).mono ?_
  rintro e4 w4 ⟨v4, rfl, htr4, hx4⟩
  rw [HSW.out] at htr4 ⊢
  obtain ⟨A4, c4, rfl, _, hm4, hrow4⟩ := htr4
  unfold maxLen at hm4
  obtain ⟨bp, op, rfl, hbp, p0, p1, p2⟩ := tokRow_at hrow4 (k := 0) (by simp)
  simp only [Nat.zero_mul, Nat.add_zero, List.getElem_cons_zero] at p0 p1 p2
  have Hp4 := Lib.hid (show bp < w4.heap.size ∧ w4.cell? ⟨bp, op + 2, none⟩ = some (.string ⟨wd.toArray⟩) from ⟨hbp, p2⟩)
  clear p0 p1 p2 hbp
  have HX4 := Lib.hid (HX3.out.trans hx4); clear hx4 HX3 HSW hrow4
  go_wp2_with fail
  refine (scanL (32 :: dg) _ (by simp; omega)).mono ?_
  rintro e5 w5 ⟨v5, rfl, htr5, hx5⟩
  rw [HSD.out] at htr5 ⊢
  obtain ⟨A5, c5, rfl, _, hm5, hrow5⟩ := htr5
  unfold maxLen at hm5
  have Hp5 := Lib.hid (cell_ext Hp4.out hx5); clear Hp4
  have HX5 := Lib.hid (HX4.out.trans hx5); clear hx5 HX4 HSD hrow5
  go_wp2_with fail
  refine (scanL (77 :: 46 :: (wd ++ [57])) _ (by simp; omega)).mono ?_
  rintro e6 w6 ⟨v6, rfl, htr6, hx6⟩
  rw [HSQ.out] at htr6 ⊢
  obtain ⟨A6, c6, rfl, _, hm6, hrow6⟩ := htr6
  unfold maxLen at hm6
  have Hp6 := Lib.hid (cell_ext Hp5.out hx6); clear Hp5
  have HX6 := Lib.hid (HX5.out.trans hx6); clear hx6 HX5 HSQ hrow6
  clear TW TQ TD HWH HDH HQH HW0 HD0 hx HQ
  go_wp2_with fail
  refine (awakeL _).mono ?_
  rintro e7 w7 ⟨rfl, hx7⟩
  have HX7 := Lib.hid (HX6.out.trans hx7); clear HX6
  obtain ⟨_, pc⟩ := cell_ext Hp6.out hx7; clear Hp6
  clear hx7
  have px : (Instr.indexAt 23 (.slice (some ⟨bp, op, none⟩) 1 c4) (.int .i64 0)).run Try.prog w7 = .ok (.pointer (some ⟨bp, op, none⟩)) w7 := by simp [go_sem]
  have pf : (Instr.fieldAt 34 (.pointer (some ⟨bp, op, none⟩)) 2).run Try.prog w7 = .ok (.pointer (some ⟨bp, op + 2, none⟩)) w7 := by simp [go_sem]
  have pl : (Instr.loadAt 9 (.pointer (some ⟨bp, op + 2, none⟩))).run Try.prog w7 = .ok (.string ⟨wd.toArray⟩) w7 := by simp [go_sem, pc]
  have hww : (wd == wd) = true := by simp
  have hdd : (dg == dg) = true := by simp
  simp only []
  go_step
  refine fr_in 158 rfl ?_
  intro a hf
  first | (refine st_skip hf rfl rfl ?_) | (refine st_move hf rfl rfl rfl ?_)
  clear hf a
  intro a hf
  first | (refine st_skip hf rfl rfl ?_) | (refine st_move hf rfl rfl rfl ?_)
  clear hf a
  intro a hf
  first | (refine st_skip hf rfl rfl ?_) | (refine st_eqI (c := true) hf rfl rfl rfl rfl (by decide) ?_) | (refine st_eqI (c := false) hf rfl rfl rfl rfl (by decide) ?_)
  clear hf a
  intro a hf
  first | (refine st_skip hf rfl rfl ?_) | (refine st_move hf rfl rfl rfl ?_)
  clear hf a
  intro a hf
  first | (refine st_skip hf rfl rfl ?_) | (refine st_eqB (c := true) Try.underlying4 hf rfl rfl rfl rfl rfl ?_) | (refine st_eqB (c := false) Try.underlying4 hf rfl rfl rfl rfl rfl ?_)
  clear hf a
  intro a hf
  first | (refine st_skip hf rfl rfl ?_) | (refine st_pickT hf rfl rfl rfl rfl ?_) | (refine st_pickF hf rfl rfl rfl rfl ?_)
  clear hf a
  intro a hf
  first | (refine st_skip hf rfl rfl ?_) | (refine st_move hf rfl rfl rfl ?_)
  clear hf a
  intro a hf
  first | (refine st_skip hf rfl rfl ?_) | (refine st_move hf rfl rfl rfl ?_)
  clear hf a
  intro a hf
  first | (refine st_skip hf rfl rfl ?_) | (refine st_eqI (c := true) hf rfl rfl rfl rfl (by decide) ?_) | (refine st_eqI (c := false) hf rfl rfl rfl rfl (by decide) ?_)
  clear hf a
  intro a hf
  first | (refine st_skip hf rfl rfl ?_) | (refine st_move hf rfl rfl rfl ?_)
  clear hf a
  intro a hf
  first | (refine st_skip hf rfl rfl ?_) | (refine st_eqB (c := true) Try.underlying4 hf rfl rfl rfl rfl rfl ?_) | (refine st_eqB (c := false) Try.underlying4 hf rfl rfl rfl rfl rfl ?_)
  clear hf a
  intro a hf
  first | (refine st_skip hf rfl rfl ?_) | (refine st_pickT hf rfl rfl rfl rfl ?_) | (refine st_pickF hf rfl rfl rfl rfl ?_)
  clear hf a
  intro a hf
  first | (refine st_skip hf rfl rfl ?_) | (refine st_move hf rfl rfl rfl ?_)
  clear hf a
  intro a hf
  first | (refine st_skip hf rfl rfl ?_) | (refine st_move hf rfl rfl rfl ?_)
  clear hf a
  intro a hf
  first | (refine st_skip hf rfl rfl ?_) | (refine st_eqI (c := true) hf rfl rfl rfl rfl (by decide) ?_) | (refine st_eqI (c := false) hf rfl rfl rfl rfl (by decide) ?_)
  clear hf a
  intro a hf
  first | (refine st_skip hf rfl rfl ?_) | (refine st_move hf rfl rfl rfl ?_)
  clear hf a
  intro a hf
  first | (refine st_skip hf rfl rfl ?_) | (refine st_eqB (c := true) Try.underlying4 hf rfl rfl rfl rfl rfl ?_) | (refine st_eqB (c := false) Try.underlying4 hf rfl rfl rfl rfl rfl ?_)
  clear hf a
  intro a hf
  first | (refine st_skip hf rfl rfl ?_) | (refine st_pickT hf rfl rfl rfl rfl ?_) | (refine st_pickF hf rfl rfl rfl rfl ?_)
  clear hf a
  intro a hf
  first | (refine st_skip hf rfl rfl ?_) | (refine st_move hf rfl rfl rfl ?_)
  clear hf a
  intro a hf
  first | (refine st_skip hf rfl rfl ?_) | (refine st_move hf rfl rfl rfl ?_)
  clear hf a
  intro a hf
  first | (refine st_skip hf rfl rfl ?_) | (refine st_move hf rfl rfl rfl ?_)
  clear hf a
  intro a hf
  first | (refine st_skip hf rfl rfl ?_) | (refine st_move hf rfl rfl rfl ?_)
  clear hf a
  intro a hf
  first | (refine st_skip hf rfl rfl ?_) | (refine st_eqI (c := true) hf rfl rfl rfl rfl (by decide) ?_) | (refine st_eqI (c := false) hf rfl rfl rfl rfl (by decide) ?_)
  clear hf a
  intro a hf
  first | (refine st_skip hf rfl rfl ?_) | (refine st_move hf rfl rfl rfl ?_)
  clear hf a
  intro a hf
  first | (refine st_skip hf rfl rfl ?_) | (refine st_move hf rfl rfl rfl ?_)
  clear hf a
  intro a hf
  first | (refine st_skip hf rfl rfl ?_) | (refine st_eqI (c := true) hf rfl rfl rfl rfl (by decide) ?_) | (refine st_eqI (c := false) hf rfl rfl rfl rfl (by decide) ?_)
  clear hf a
  intro a hf
  first | (refine st_skip hf rfl rfl ?_) | (refine st_pickT hf rfl rfl rfl rfl ?_) | (refine st_pickF hf rfl rfl rfl rfl ?_)
  clear hf a
  intro a hf
  first | (refine st_skip hf rfl rfl ?_) | (refine st_pickT hf rfl rfl rfl rfl ?_) | (refine st_pickF hf rfl rfl rfl rfl ?_)
  clear hf a
  intro a hf
  first | (refine st_skip hf rfl rfl ?_) | (refine st_pickT hf rfl rfl rfl rfl ?_) | (refine st_pickF hf rfl rfl rfl rfl ?_)
  clear hf a
  intro a hf
  first | (refine st_skip hf rfl rfl ?_) | (refine st_move hf rfl rfl rfl ?_)
  clear hf a
  intro a hf
  first | (refine st_skip hf rfl rfl ?_) | (refine st_move hf rfl rfl rfl ?_)
  clear hf a
  intro a hf
  first | (refine st_skip hf rfl rfl ?_) | (refine st_move hf rfl rfl rfl ?_)
  clear hf a
  intro a hf
  first | (refine st_skip hf rfl rfl ?_) | (refine st_move hf rfl rfl rfl ?_)
  clear hf a
  intro a hf
  first | (refine st_skip hf rfl rfl ?_) | (refine st_eqI (c := true) hf rfl rfl rfl rfl (by decide) ?_) | (refine st_eqI (c := false) hf rfl rfl rfl rfl (by decide) ?_)
  clear hf a
  intro a hf
  first | (refine st_skip hf rfl rfl ?_) | (refine st_move hf rfl rfl rfl ?_)
  clear hf a
  intro a hf
  first | (refine st_skip hf rfl rfl ?_) | (refine st_move hf rfl rfl rfl ?_)
  clear hf a
  intro a hf
  first | (refine st_skip hf rfl rfl ?_) | (refine st_eqI (c := true) hf rfl rfl rfl rfl (by decide) ?_) | (refine st_eqI (c := false) hf rfl rfl rfl rfl (by decide) ?_)
  clear hf a
  intro a hf
  first | (refine st_skip hf rfl rfl ?_) | (refine st_pickT hf rfl rfl rfl rfl ?_) | (refine st_pickF hf rfl rfl rfl rfl ?_)
  clear hf a
  intro a hf
  first | (refine st_skip hf rfl rfl ?_) | (refine st_pickT hf rfl rfl rfl rfl ?_) | (refine st_pickF hf rfl rfl rfl rfl ?_)
  clear hf a
  intro a hf
  first | (refine st_skip hf rfl rfl ?_) | (refine st_pickT hf rfl rfl rfl rfl ?_) | (refine st_pickF hf rfl rfl rfl rfl ?_)
  clear hf a
  intro a hf
  first | (refine st_skip hf rfl rfl ?_) | (refine st_move hf rfl rfl rfl ?_)
  clear hf a
  intro a hf
  first | (refine st_skip hf rfl rfl ?_) | (refine st_move hf rfl rfl rfl ?_)
  clear hf a
  intro a hf
  first | (refine st_skip hf rfl rfl ?_) | (refine st_not (c := true) hf rfl rfl rfl rfl ?_) | (refine st_not (c := false) hf rfl rfl rfl rfl ?_)
  clear hf a
  intro a hf
  first | (refine st_skip hf rfl rfl ?_) | (refine st_move hf rfl rfl rfl ?_)
  clear hf a
  intro a hf
  first | (refine st_skip hf rfl rfl ?_) | (refine st_move hf rfl rfl rfl ?_)
  clear hf a
  intro a hf
  first | (refine st_skip hf rfl rfl ?_) | (refine st_len Try.underlying23 hf rfl rfl rfl ?_)
  clear hf a
  intro a hf
  first | (refine st_skip hf rfl rfl ?_) | (refine st_eqI (c := true) hf rfl rfl rfl rfl (by decide) ?_) | (refine st_eqI (c := false) hf rfl rfl rfl rfl (by decide) ?_)
  clear hf a
  intro a hf
  first | (refine st_skip hf rfl rfl ?_) | (refine st_move hf rfl rfl rfl ?_)
  clear hf a
  intro a hf
  first | (refine st_skip hf rfl rfl ?_) | (refine st_move hf rfl rfl rfl ?_)
  clear hf a
  intro a hf
  first | (refine st_skip hf rfl rfl ?_)
  clear hf a
  intro a hf
  first | (refine st_skip hf rfl rfl ?_)
  clear hf a
  intro a hf
  first | (refine st_skip hf rfl rfl ?_)
  clear hf a
  intro a hf
  first | (refine st_skip hf rfl rfl ?_) | (refine st_move hf rfl rfl rfl ?_)
  clear hf a
  intro a hf
  first | (refine st_skip hf rfl rfl ?_) | (refine st_eqS (c := true) hf rfl rfl rfl rfl hww ?_) | (refine st_eqS (c := true) hf rfl rfl rfl rfl hdd ?_)
  clear hf a
  intro a hf
  first | (refine st_skip hf rfl rfl ?_) | (refine st_pickT hf rfl rfl rfl rfl ?_) | (refine st_pickF hf rfl rfl rfl rfl ?_)
  clear hf a
  intro a hf
  first | (refine st_skip hf rfl rfl ?_) | (refine st_pickT hf rfl rfl rfl rfl ?_) | (refine st_pickF hf rfl rfl rfl rfl ?_)
  clear hf a
  intro a hf
  first | (refine st_skip hf rfl rfl ?_) | (refine st_pickT hf rfl rfl rfl rfl ?_) | (refine st_pickF hf rfl rfl rfl rfl ?_)
  clear hf a
  intro a hf
  first | (refine st_skip hf rfl rfl ?_) | (refine st_move hf rfl rfl rfl ?_)
  clear hf a
  intro a hf
  first | (refine st_skip hf rfl rfl ?_) | (refine st_move hf rfl rfl rfl ?_)
  clear hf a
  intro a hf
  first | (refine st_skip hf rfl rfl ?_) | (refine st_not (c := true) hf rfl rfl rfl rfl ?_) | (refine st_not (c := false) hf rfl rfl rfl rfl ?_)
  clear hf a
  intro a hf
  first | (refine st_skip hf rfl rfl ?_) | (refine st_move hf rfl rfl rfl ?_)
  clear hf a
  intro a hf
  first | (refine st_skip hf rfl rfl ?_) | (refine st_move hf rfl rfl rfl ?_)
  clear hf a
  intro a hf
  first | (refine st_skip hf rfl rfl ?_) | (refine st_len Try.underlying23 hf rfl rfl rfl ?_)
  clear hf a
  intro a hf
  first | (refine st_skip hf rfl rfl ?_) | (refine st_eqI (c := true) hf rfl rfl rfl rfl (by decide) ?_) | (refine st_eqI (c := false) hf rfl rfl rfl rfl (by decide) ?_)
  clear hf a
  intro a hf
  first | (refine st_skip hf rfl rfl ?_) | (refine st_move hf rfl rfl rfl ?_)
  clear hf a
  intro a hf
  first | (refine st_skip hf rfl rfl ?_) | (refine st_move hf rfl rfl rfl ?_)
  clear hf a
  intro a hf
  first | (refine st_skip hf rfl rfl ?_) | (refine st_index px hf rfl rfl rfl rfl ?_)
  clear hf a
  intro a hf
  first | (refine st_skip hf rfl rfl ?_) | (refine st_field pf hf rfl rfl rfl ?_)
  clear hf a
  intro a hf
  first | (refine st_skip hf rfl rfl ?_) | (refine st_load (fun _ => pl) hf rfl rfl rfl ?_)
  clear hf a
  intro a hf
  first | (refine st_skip hf rfl rfl ?_) | (refine st_move hf rfl rfl rfl ?_)
  clear hf a
  intro a hf
  first | (refine st_skip hf rfl rfl ?_) | (refine st_eqS (c := true) hf rfl rfl rfl rfl hww ?_) | (refine st_eqS (c := true) hf rfl rfl rfl rfl hdd ?_)
  clear hf a
  intro a hf
  first | (refine st_skip hf rfl rfl ?_) | (refine st_pickT hf rfl rfl rfl rfl ?_) | (refine st_pickF hf rfl rfl rfl rfl ?_)
  clear hf a
  intro a hf
  first | (refine st_skip hf rfl rfl ?_) | (refine st_pickT hf rfl rfl rfl rfl ?_) | (refine st_pickF hf rfl rfl rfl rfl ?_)
  clear hf a
  intro a hf
  first | (refine st_skip hf rfl rfl ?_) | (refine st_pickT hf rfl rfl rfl rfl ?_) | (refine st_pickF hf rfl rfl rfl rfl ?_)
  clear hf a
  intro a hf
  first | (refine st_skip hf rfl rfl ?_) | (refine st_move hf rfl rfl rfl ?_)
  clear hf a
  intro a hf
  first | (refine st_skip hf rfl rfl ?_) | (refine st_move hf rfl rfl rfl ?_)
  clear hf a
  intro a hf
  first | (refine st_skip hf rfl rfl ?_) | (refine st_not (c := true) hf rfl rfl rfl rfl ?_) | (refine st_not (c := false) hf rfl rfl rfl rfl ?_)
  clear hf a
  intro a hf
  first | (refine st_skip hf rfl rfl ?_) | (refine st_move hf rfl rfl rfl ?_)
  clear hf a
  intro a hf
  first | (refine st_skip hf rfl rfl ?_) | (refine st_move hf rfl rfl rfl ?_)
  clear hf a
  intro a hf
  first | (refine st_skip hf rfl rfl ?_) | (refine st_len Try.underlying23 hf rfl rfl rfl ?_)
  clear hf a
  intro a hf
  first | (refine st_skip hf rfl rfl ?_) | (refine st_eqI (c := true) hf rfl rfl rfl rfl (by decide) ?_) | (refine st_eqI (c := false) hf rfl rfl rfl rfl (by decide) ?_)
  clear hf a
  intro a hf
  first | (refine st_skip hf rfl rfl ?_) | (refine st_move hf rfl rfl rfl ?_)
  clear hf a
  intro a hf
  first | (refine st_skip hf rfl rfl ?_) | (refine st_move hf rfl rfl rfl ?_)
  clear hf a
  intro a hf
  first | (refine st_skip hf rfl rfl ?_)
  clear hf a
  intro a hf
  first | (refine st_skip hf rfl rfl ?_)
  clear hf a
  intro a hf
  first | (refine st_skip hf rfl rfl ?_)
  clear hf a
  intro a hf
  first | (refine st_skip hf rfl rfl ?_) | (refine st_eqI (c := true) hf rfl rfl rfl rfl (by decide) ?_) | (refine st_eqI (c := false) hf rfl rfl rfl rfl (by decide) ?_)
  clear hf a
  intro a hf
  first | (refine st_skip hf rfl rfl ?_) | (refine st_pickT hf rfl rfl rfl rfl ?_) | (refine st_pickF hf rfl rfl rfl rfl ?_)
  clear hf a
  intro a hf
  first | (refine st_skip hf rfl rfl ?_) | (refine st_pickT hf rfl rfl rfl rfl ?_) | (refine st_pickF hf rfl rfl rfl rfl ?_)
  clear hf a
  intro a hf
  first | (refine st_skip hf rfl rfl ?_) | (refine st_pickT hf rfl rfl rfl rfl ?_) | (refine st_pickF hf rfl rfl rfl rfl ?_)
  clear hf a
  intro a hf
  first | (refine st_skip hf rfl rfl ?_) | (refine st_assign hf rfl rfl rfl ?_)
  clear hf a
  intro a hf
  refine wpList_nil ?_
  go_step
  go_step
  go_step
  refine bodyPost_ret (fn := Try.f6) (v := .bool true) (hf.results (t := 4) rfl rfl _ _) hf.defers ⟨rfl, HX7.out⟩
set_option maxRecDepth 100000 in
set_option maxHeartbeats 8000000 in
theorem limitsW3 (a0 a1 : Int) (hc : 24 < 1 + a0 % 60) (w : World) (h10 : 0 ≤ a1) (h11 : a1 ≤ 255) : Calls Try.prog 6 #[.int .i64 a0, .int .u8 a1] w fun e w' => e = .returned (.bool true) ∧ Ext w w' := by
  obtain ⟨q, hq⟩ : ∃ q, a0 % 60 = q := ⟨_, rfl⟩
  have hq0 : 0 ≤ q := by omega
  have hq1 : q < 60 := by omega
  rw [hq] at hc
  have HQ := Lib.hid hq; clear hq
  obtain ⟨N, hN⟩ : ∃ N : Nat, (1 : Int) + q = N := ⟨(1 + q).toNat, by omega⟩
  have hN0 : 0 < N := by omega
  have hr : 24 < N := by omega
  clear hc
  have hN1 : N ≤ 60 := by omega
  go_enter Try.func6, Try.ntmps6
  go_wp2_with fail
  refine (modC _ _ _ (by omega) (by omega)).mono ?_
  rintro e1 w1 ⟨rfl, rfl⟩
  rw [HQ.out]
  go_wp2_with fail
  refine (manyC _ N _ rfl _ (by omega) (by omega) hN0 (by omega)).mono ?_
  rintro e2 w2 ⟨rfl, hx2⟩
  have hcw : lowerB (97 + a1 % 26).toNat.toUInt8 = true := by
    have : ((97 + a1 % 26).toNat.toUInt8).toNat = (97 + a1 % 26).toNat := by simp; omega
    unfold lowerB; rw [this]; simp; omega
  have TW := Lib.hid (tok_word hN0 hcw)
  have TQ := Lib.hid (tok_pair hN0 hcw)
  have hw0 : (List.replicate N (97 + a1 % 26).toNat.toUInt8).length = N := by simp
  have hwh : (List.replicate N (97 + a1 % 26).toNat.toUInt8).getD 0 0 = (97 + a1 % 26).toNat.toUInt8 := getD_rep hN0
  have hwhw := lower_head hcw
  rw [← hwh] at hwhw
  clear hwh hcw
  generalize List.replicate N (97 + a1 % 26).toNat.toUInt8 = wd at TW TQ hw0 hwhw ⊢
  have HX2 := Lib.hid hx2; clear hx2
  have HWH := Lib.hid hwhw; clear hwhw
  have HW0 := Lib.hid hw0
  go_wp2_with fail
  refine (manyC _ N _ rfl _ (by omega) (by omega) hN0 (by omega)).mono ?_
  rintro e3 w3 ⟨rfl, hx3⟩
  have hcd : digitB (49 + a1 % 9).toNat.toUInt8 = true ∧ ((49 + a1 % 9).toNat.toUInt8).toNat ≠ 48 := by
    have : ((49 + a1 % 9).toNat.toUInt8).toNat = (49 + a1 % 9).toNat := by simp; omega
    unfold digitB; rw [this]; simp; omega
  have TD := Lib.hid (tok_digits hN0 hcd.1 hcd.2)
  have hd0 : (List.replicate N (49 + a1 % 9).toNat.toUInt8).length = N := by simp
  have hdh : (List.replicate N (49 + a1 % 9).toNat.toUInt8).getD 0 0 = (49 + a1 % 9).toNat.toUInt8 := getD_rep hN0
  have hdhw := digit_head hcd.1
  rw [← hdh] at hdhw
  clear hdh hcd
  generalize List.replicate N (49 + a1 % 9).toNat.toUInt8 = dg at TD hd0 hdhw ⊢
  have HX3 := Lib.hid (HX2.out.trans hx3); clear hx3
  have HDH := Lib.hid hdhw; clear hdhw
  have HD0 := Lib.hid hd0
  have hx := app_list
  have HQH := Lib.hid (show whiteB (([77, 46] ++ wd ++ [57]).getD 0 0) = false ∧ (([77, 46] ++ wd ++ [57]).getD 0 0).toNat ≠ 35 from by simp only [List.cons_append, List.getD_cons_zero]; decide)
  have hwl : wd.length ≤ 60 := by omega
  have hdl : dg.length ≤ 60 := by omega
  clear hw0 hd0
  have i1 : decide ((N : Int) ≤ 15) = false := by simp; omega
  have i2 : decide ((N : Int) ≤ 24) = false := by simp; omega
  have i3 : decide ((N : Int) + 1 ≤ 24) = false := by simp; omega
  have HSW := Lib.hid (show scan (32 :: wd) = ⟨[], [], 1, 3⟩ from by exact scan_blank_err (by omega) (by rw [HW0.out]; exact hN0) HWH.out.1 HWH.out.2 (by rw [TW.out, if_pos (by omega)]) (by decide))
  have HSD := Lib.hid (show scan (32 :: dg) = ⟨[], [], 1, 3⟩ from by exact scan_blank_err (by omega) (by rw [HD0.out]; exact hN0) HDH.out.1 HDH.out.2 (by rw [TD.out, if_pos (by omega)]) (by decide))
  have HSQ := Lib.hid (show scan (77 :: 46 :: (wd ++ [57])) = ⟨[], [], 0, 3⟩ from by show scan ([77, 46] ++ wd ++ [57]) = ⟨[], [], 0, 3⟩; exact scan_err0 (by simp; omega) (by simp) HQH.out.1 HQH.out.2 (by rw [TQ.out, if_pos (by omega)]) (by decide))
  go_wp2_with fail
  refine (scanL (32 :: wd) _ (by simp; omega)).mono ?_
  rintro e4 w4 ⟨v4, rfl, htr4, hx4⟩
  rw [HSW.out] at htr4 ⊢
  obtain ⟨A4, c4, rfl, _, hm4, hrow4⟩ := htr4
  unfold maxLen at hm4
  have HX4 := Lib.hid (HX3.out.trans hx4); clear hx4 HX3 HSW hrow4
  go_wp2_with fail
  refine (scanL (32 :: dg) _ (by simp; omega)).mono ?_
  rintro e5 w5 ⟨v5, rfl, htr5, hx5⟩
  rw [HSD.out] at htr5 ⊢
  obtain ⟨A5, c5, rfl, _, hm5, hrow5⟩ := htr5
  unfold maxLen at hm5
  have HX5 := Lib.hid (HX4.out.trans hx5); clear hx5 HX4 HSD hrow5
  go_wp2_with fail
  refine (scanL (77 :: 46 :: (wd ++ [57])) _ (by simp; omega)).mono ?_
  rintro e6 w6 ⟨v6, rfl, htr6, hx6⟩
  rw [HSQ.out] at htr6 ⊢
  obtain ⟨A6, c6, rfl, _, hm6, hrow6⟩ := htr6
  unfold maxLen at hm6
  have HX6 := Lib.hid (HX5.out.trans hx6); clear hx6 HX5 HSQ hrow6
  clear TW TQ TD HWH HDH HQH HW0 HD0 hx HQ
  go_wp2_with fail
  refine (awakeL _).mono ?_
  rintro e7 w7 ⟨rfl, hx7⟩
  have HX7 := Lib.hid (HX6.out.trans hx7); clear HX6
  clear hx7
  have hww : (wd == wd) = true := by simp
  have hdd : (dg == dg) = true := by simp
  simp only []
  go_step
  refine fr_in 158 rfl ?_
  intro a hf
  first | (refine st_skip hf rfl rfl ?_) | (refine st_move hf rfl rfl rfl ?_)
  clear hf a
  intro a hf
  first | (refine st_skip hf rfl rfl ?_) | (refine st_move hf rfl rfl rfl ?_)
  clear hf a
  intro a hf
  first | (refine st_skip hf rfl rfl ?_) | (refine st_eqI (c := true) hf rfl rfl rfl rfl (by decide) ?_) | (refine st_eqI (c := false) hf rfl rfl rfl rfl (by decide) ?_)
  clear hf a
  intro a hf
  first | (refine st_skip hf rfl rfl ?_) | (refine st_move hf rfl rfl rfl ?_)
  clear hf a
  intro a hf
  first | (refine st_skip hf rfl rfl ?_) | (refine st_eqB (c := true) Try.underlying4 hf rfl rfl rfl rfl rfl ?_) | (refine st_eqB (c := false) Try.underlying4 hf rfl rfl rfl rfl rfl ?_)
  clear hf a
  intro a hf
  first | (refine st_skip hf rfl rfl ?_) | (refine st_pickT hf rfl rfl rfl rfl ?_) | (refine st_pickF hf rfl rfl rfl rfl ?_)
  clear hf a
  intro a hf
  first | (refine st_skip hf rfl rfl ?_) | (refine st_move hf rfl rfl rfl ?_)
  clear hf a
  intro a hf
  first | (refine st_skip hf rfl rfl ?_) | (refine st_move hf rfl rfl rfl ?_)
  clear hf a
  intro a hf
  first | (refine st_skip hf rfl rfl ?_) | (refine st_eqI (c := true) hf rfl rfl rfl rfl (by decide) ?_) | (refine st_eqI (c := false) hf rfl rfl rfl rfl (by decide) ?_)
  clear hf a
  intro a hf
  first | (refine st_skip hf rfl rfl ?_) | (refine st_move hf rfl rfl rfl ?_)
  clear hf a
  intro a hf
  first | (refine st_skip hf rfl rfl ?_) | (refine st_eqB (c := true) Try.underlying4 hf rfl rfl rfl rfl rfl ?_) | (refine st_eqB (c := false) Try.underlying4 hf rfl rfl rfl rfl rfl ?_)
  clear hf a
  intro a hf
  first | (refine st_skip hf rfl rfl ?_) | (refine st_pickT hf rfl rfl rfl rfl ?_) | (refine st_pickF hf rfl rfl rfl rfl ?_)
  clear hf a
  intro a hf
  first | (refine st_skip hf rfl rfl ?_) | (refine st_move hf rfl rfl rfl ?_)
  clear hf a
  intro a hf
  first | (refine st_skip hf rfl rfl ?_) | (refine st_move hf rfl rfl rfl ?_)
  clear hf a
  intro a hf
  first | (refine st_skip hf rfl rfl ?_) | (refine st_eqI (c := true) hf rfl rfl rfl rfl (by decide) ?_) | (refine st_eqI (c := false) hf rfl rfl rfl rfl (by decide) ?_)
  clear hf a
  intro a hf
  first | (refine st_skip hf rfl rfl ?_) | (refine st_move hf rfl rfl rfl ?_)
  clear hf a
  intro a hf
  first | (refine st_skip hf rfl rfl ?_) | (refine st_eqB (c := true) Try.underlying4 hf rfl rfl rfl rfl rfl ?_) | (refine st_eqB (c := false) Try.underlying4 hf rfl rfl rfl rfl rfl ?_)
  clear hf a
  intro a hf
  first | (refine st_skip hf rfl rfl ?_) | (refine st_pickT hf rfl rfl rfl rfl ?_) | (refine st_pickF hf rfl rfl rfl rfl ?_)
  clear hf a
  intro a hf
  first | (refine st_skip hf rfl rfl ?_) | (refine st_move hf rfl rfl rfl ?_)
  clear hf a
  intro a hf
  first | (refine st_skip hf rfl rfl ?_) | (refine st_move hf rfl rfl rfl ?_)
  clear hf a
  intro a hf
  first | (refine st_skip hf rfl rfl ?_) | (refine st_move hf rfl rfl rfl ?_)
  clear hf a
  intro a hf
  first | (refine st_skip hf rfl rfl ?_) | (refine st_move hf rfl rfl rfl ?_)
  clear hf a
  intro a hf
  first | (refine st_skip hf rfl rfl ?_) | (refine st_eqI (c := true) hf rfl rfl rfl rfl (by decide) ?_) | (refine st_eqI (c := false) hf rfl rfl rfl rfl (by decide) ?_)
  clear hf a
  intro a hf
  first | (refine st_skip hf rfl rfl ?_) | (refine st_move hf rfl rfl rfl ?_)
  clear hf a
  intro a hf
  first | (refine st_skip hf rfl rfl ?_) | (refine st_move hf rfl rfl rfl ?_)
  clear hf a
  intro a hf
  first | (refine st_skip hf rfl rfl ?_) | (refine st_eqI (c := true) hf rfl rfl rfl rfl (by decide) ?_) | (refine st_eqI (c := false) hf rfl rfl rfl rfl (by decide) ?_)
  clear hf a
  intro a hf
  first | (refine st_skip hf rfl rfl ?_) | (refine st_pickT hf rfl rfl rfl rfl ?_) | (refine st_pickF hf rfl rfl rfl rfl ?_)
  clear hf a
  intro a hf
  first | (refine st_skip hf rfl rfl ?_) | (refine st_pickT hf rfl rfl rfl rfl ?_) | (refine st_pickF hf rfl rfl rfl rfl ?_)
  clear hf a
  intro a hf
  first | (refine st_skip hf rfl rfl ?_) | (refine st_pickT hf rfl rfl rfl rfl ?_) | (refine st_pickF hf rfl rfl rfl rfl ?_)
  clear hf a
  intro a hf
  first | (refine st_skip hf rfl rfl ?_) | (refine st_move hf rfl rfl rfl ?_)
  clear hf a
  intro a hf
  first | (refine st_skip hf rfl rfl ?_) | (refine st_move hf rfl rfl rfl ?_)
  clear hf a
  intro a hf
  first | (refine st_skip hf rfl rfl ?_) | (refine st_move hf rfl rfl rfl ?_)
  clear hf a
  intro a hf
  first | (refine st_skip hf rfl rfl ?_) | (refine st_move hf rfl rfl rfl ?_)
  clear hf a
  intro a hf
  first | (refine st_skip hf rfl rfl ?_) | (refine st_eqI (c := true) hf rfl rfl rfl rfl (by decide) ?_) | (refine st_eqI (c := false) hf rfl rfl rfl rfl (by decide) ?_)
  clear hf a
  intro a hf
  first | (refine st_skip hf rfl rfl ?_) | (refine st_move hf rfl rfl rfl ?_)
  clear hf a
  intro a hf
  first | (refine st_skip hf rfl rfl ?_) | (refine st_move hf rfl rfl rfl ?_)
  clear hf a
  intro a hf
  first | (refine st_skip hf rfl rfl ?_) | (refine st_eqI (c := true) hf rfl rfl rfl rfl (by decide) ?_) | (refine st_eqI (c := false) hf rfl rfl rfl rfl (by decide) ?_)
  clear hf a
  intro a hf
  first | (refine st_skip hf rfl rfl ?_) | (refine st_pickT hf rfl rfl rfl rfl ?_) | (refine st_pickF hf rfl rfl rfl rfl ?_)
  clear hf a
  intro a hf
  first | (refine st_skip hf rfl rfl ?_) | (refine st_pickT hf rfl rfl rfl rfl ?_) | (refine st_pickF hf rfl rfl rfl rfl ?_)
  clear hf a
  intro a hf
  first | (refine st_skip hf rfl rfl ?_) | (refine st_pickT hf rfl rfl rfl rfl ?_) | (refine st_pickF hf rfl rfl rfl rfl ?_)
  clear hf a
  intro a hf
  first | (refine st_skip hf rfl rfl ?_) | (refine st_move hf rfl rfl rfl ?_)
  clear hf a
  intro a hf
  first | (refine st_skip hf rfl rfl ?_) | (refine st_move hf rfl rfl rfl ?_)
  clear hf a
  intro a hf
  first | (refine st_skip hf rfl rfl ?_) | (refine st_not (c := true) hf rfl rfl rfl rfl ?_) | (refine st_not (c := false) hf rfl rfl rfl rfl ?_)
  clear hf a
  intro a hf
  first | (refine st_skip hf rfl rfl ?_) | (refine st_move hf rfl rfl rfl ?_)
  clear hf a
  intro a hf
  first | (refine st_skip hf rfl rfl ?_) | (refine st_move hf rfl rfl rfl ?_)
  clear hf a
  intro a hf
  first | (refine st_skip hf rfl rfl ?_) | (refine st_len Try.underlying23 hf rfl rfl rfl ?_)
  clear hf a
  intro a hf
  first | (refine st_skip hf rfl rfl ?_) | (refine st_eqI (c := true) hf rfl rfl rfl rfl (by decide) ?_) | (refine st_eqI (c := false) hf rfl rfl rfl rfl (by decide) ?_)
  clear hf a
  intro a hf
  first | (refine st_skip hf rfl rfl ?_) | (refine st_move hf rfl rfl rfl ?_)
  clear hf a
  intro a hf
  first | (refine st_skip hf rfl rfl ?_) | (refine st_move hf rfl rfl rfl ?_)
  clear hf a
  intro a hf
  first | (refine st_skip hf rfl rfl ?_)
  clear hf a
  intro a hf
  first | (refine st_skip hf rfl rfl ?_)
  clear hf a
  intro a hf
  first | (refine st_skip hf rfl rfl ?_)
  clear hf a
  intro a hf
  first | (refine st_skip hf rfl rfl ?_) | (refine st_move hf rfl rfl rfl ?_)
  clear hf a
  intro a hf
  first | (refine st_skip hf rfl rfl ?_) | (refine st_eqS (c := true) hf rfl rfl rfl rfl hww ?_) | (refine st_eqS (c := true) hf rfl rfl rfl rfl hdd ?_)
  clear hf a
  intro a hf
  first | (refine st_skip hf rfl rfl ?_) | (refine st_pickT hf rfl rfl rfl rfl ?_) | (refine st_pickF hf rfl rfl rfl rfl ?_)
  clear hf a
  intro a hf
  first | (refine st_skip hf rfl rfl ?_) | (refine st_pickT hf rfl rfl rfl rfl ?_) | (refine st_pickF hf rfl rfl rfl rfl ?_)
  clear hf a
  intro a hf
  first | (refine st_skip hf rfl rfl ?_) | (refine st_pickT hf rfl rfl rfl rfl ?_) | (refine st_pickF hf rfl rfl rfl rfl ?_)
  clear hf a
  intro a hf
  first | (refine st_skip hf rfl rfl ?_) | (refine st_move hf rfl rfl rfl ?_)
  clear hf a
  intro a hf
  first | (refine st_skip hf rfl rfl ?_) | (refine st_move hf rfl rfl rfl ?_)
  clear hf a
  intro a hf
  first | (refine st_skip hf rfl rfl ?_) | (refine st_not (c := true) hf rfl rfl rfl rfl ?_) | (refine st_not (c := false) hf rfl rfl rfl rfl ?_)
  clear hf a
  intro a hf
  first | (refine st_skip hf rfl rfl ?_) | (refine st_move hf rfl rfl rfl ?_)
  clear hf a
  intro a hf
  first | (refine st_skip hf rfl rfl ?_) | (refine st_move hf rfl rfl rfl ?_)
  clear hf a
  intro a hf
  first | (refine st_skip hf rfl rfl ?_) | (refine st_len Try.underlying23 hf rfl rfl rfl ?_)
  clear hf a
  intro a hf
  first | (refine st_skip hf rfl rfl ?_) | (refine st_eqI (c := true) hf rfl rfl rfl rfl (by decide) ?_) | (refine st_eqI (c := false) hf rfl rfl rfl rfl (by decide) ?_)
  clear hf a
  intro a hf
  first | (refine st_skip hf rfl rfl ?_) | (refine st_move hf rfl rfl rfl ?_)
  clear hf a
  intro a hf
  first | (refine st_skip hf rfl rfl ?_) | (refine st_move hf rfl rfl rfl ?_)
  clear hf a
  intro a hf
  first | (refine st_skip hf rfl rfl ?_)
  clear hf a
  intro a hf
  first | (refine st_skip hf rfl rfl ?_)
  clear hf a
  intro a hf
  first | (refine st_skip hf rfl rfl ?_)
  clear hf a
  intro a hf
  first | (refine st_skip hf rfl rfl ?_) | (refine st_move hf rfl rfl rfl ?_)
  clear hf a
  intro a hf
  first | (refine st_skip hf rfl rfl ?_) | (refine st_eqS (c := true) hf rfl rfl rfl rfl hww ?_) | (refine st_eqS (c := true) hf rfl rfl rfl rfl hdd ?_)
  clear hf a
  intro a hf
  first | (refine st_skip hf rfl rfl ?_) | (refine st_pickT hf rfl rfl rfl rfl ?_) | (refine st_pickF hf rfl rfl rfl rfl ?_)
  clear hf a
  intro a hf
  first | (refine st_skip hf rfl rfl ?_) | (refine st_pickT hf rfl rfl rfl rfl ?_) | (refine st_pickF hf rfl rfl rfl rfl ?_)
  clear hf a
  intro a hf
  first | (refine st_skip hf rfl rfl ?_) | (refine st_pickT hf rfl rfl rfl rfl ?_) | (refine st_pickF hf rfl rfl rfl rfl ?_)
  clear hf a
  intro a hf
  first | (refine st_skip hf rfl rfl ?_) | (refine st_move hf rfl rfl rfl ?_)
  clear hf a
  intro a hf
  first | (refine st_skip hf rfl rfl ?_) | (refine st_move hf rfl rfl rfl ?_)
  clear hf a
  intro a hf
  first | (refine st_skip hf rfl rfl ?_) | (refine st_not (c := true) hf rfl rfl rfl rfl ?_) | (refine st_not (c := false) hf rfl rfl rfl rfl ?_)
  clear hf a
  intro a hf
  first | (refine st_skip hf rfl rfl ?_) | (refine st_move hf rfl rfl rfl ?_)
  clear hf a
  intro a hf
  first | (refine st_skip hf rfl rfl ?_) | (refine st_move hf rfl rfl rfl ?_)
  clear hf a
  intro a hf
  first | (refine st_skip hf rfl rfl ?_) | (refine st_len Try.underlying23 hf rfl rfl rfl ?_)
  clear hf a
  intro a hf
  first | (refine st_skip hf rfl rfl ?_) | (refine st_eqI (c := true) hf rfl rfl rfl rfl (by decide) ?_) | (refine st_eqI (c := false) hf rfl rfl rfl rfl (by decide) ?_)
  clear hf a
  intro a hf
  first | (refine st_skip hf rfl rfl ?_) | (refine st_move hf rfl rfl rfl ?_)
  clear hf a
  intro a hf
  first | (refine st_skip hf rfl rfl ?_) | (refine st_move hf rfl rfl rfl ?_)
  clear hf a
  intro a hf
  first | (refine st_skip hf rfl rfl ?_)
  clear hf a
  intro a hf
  first | (refine st_skip hf rfl rfl ?_)
  clear hf a
  intro a hf
  first | (refine st_skip hf rfl rfl ?_)
  clear hf a
  intro a hf
  first | (refine st_skip hf rfl rfl ?_) | (refine st_eqI (c := true) hf rfl rfl rfl rfl (by decide) ?_) | (refine st_eqI (c := false) hf rfl rfl rfl rfl (by decide) ?_)
  clear hf a
  intro a hf
  first | (refine st_skip hf rfl rfl ?_) | (refine st_pickT hf rfl rfl rfl rfl ?_) | (refine st_pickF hf rfl rfl rfl rfl ?_)
  clear hf a
  intro a hf
  first | (refine st_skip hf rfl rfl ?_) | (refine st_pickT hf rfl rfl rfl rfl ?_) | (refine st_pickF hf rfl rfl rfl rfl ?_)
  clear hf a
  intro a hf
  first | (refine st_skip hf rfl rfl ?_) | (refine st_pickT hf rfl rfl rfl rfl ?_) | (refine st_pickF hf rfl rfl rfl rfl ?_)
  clear hf a
  intro a hf
  first | (refine st_skip hf rfl rfl ?_) | (refine st_assign hf rfl rfl rfl ?_)
  clear hf a
  intro a hf
  refine wpList_nil ?_
  go_step
  go_step
  go_step
  refine bodyPost_ret (fn := Try.f6) (v := .bool true) (hf.results (t := 4) rfl rfl _ _) hf.defers ⟨rfl, HX7.out⟩

theorem limitsW (a0 a1 : Int) (w : World) (h10 : 0 ≤ a1) (h11 : a1 ≤ 255) : Calls Try.prog 6 #[.int .i64 a0, .int .u8 a1] w fun e w' => e = .returned (.bool true) ∧ Ext w w' := by
  rcases (by omega : 1 + a0 % 60 ≤ 15 ∨ (15 < 1 + a0 % 60 ∧ 1 + a0 % 60 ≤ 23) ∨ (24 ≤ 1 + a0 % 60 ∧ 1 + a0 % 60 ≤ 24) ∨ 24 < 1 + a0 % 60) with h | h | h | h
  · exact limitsW0 a0 a1 h w h10 h11
  · exact limitsW1 a0 a1 h w h10 h11
  · exact limitsW2 a0 a1 h w h10 h11
  · exact limitsW3 a0 a1 h w h10 h11
end Go.Proofs.Ytoknigfjgoaoaaa
