/- Contracts of the functions that the law reaches, part 5. -/
import Derived.Test.YthpjpngfghcmcaaSh4
set_option linter.unusedVariables false
set_option linter.unusedSimpArgs false
namespace Go.Proofs.Ythpjpngfghcmcaa
open Go.RowKit Lx Sx
set_option maxRecDepth 100000
set_option maxHeartbeats 4000000
def LimitsOk (N : Nat) : Prop := ∀ (t : Tree) (S : Nat → Prop) (w : World) (c0 c1 c2 c3 : Value), tsize t ≤ N → tbulk t ≤ 1000000000 → TreeIs S w t [c0, c1, c2, c3] → Calls Try.prog 44 [.agg #[c0, c1, c2, c3]].toArray w fun e w' => e = .returned (.bool (smallT t)) ∧ Chg [] w w'
theorem limits_step {N : Nat} (ih : LimitsOk N) : LimitsOk (N + 1) := by
  intro t S w c0 c1 c2 c3 hN hd hT
  obtain ⟨k, tx, ls, ks⟩ := t
  simp only [TreeIs] at hT
  obtain ⟨A, m0, B, n, hc, _, _, hb1, hb2, hrowL, cs, hkids, hrow⟩ := hT
  simp only [List.cons.injEq, and_true] at hc
  obtain ⟨rfl, rfl, rfl, rfl⟩ := hc
  simp only [tsize] at hN
  simp only [tbulk] at hd
  have hkl := kbulk_len ks
  have hll := lsum_len ls
  refine rE 54 Try.func44 rfl rfl rfl ?_
  intro a hf
  have hE := Chg.refl [] w
  refine rR 2 hf rfl ?_
  clear hf a; intro a hf
  obtain ⟨w1, b2, he, hB3, hx4, eb5, lb6⟩ := ef_box (P := Try.prog) (t := 26) (x := (.tmp 0)) hf rfl rfl w 0
  refine rV hf rfl he ?_
  clear he hf a; intro a hf
  have ge_b2 := ge_new hE eb5
  replace hE := hE.t0 hx4
  clear eb5 lb6
  refine rR 6 hf rfl ?_
  clear hf a; intro a hf
  refine rV hf rfl (ex_loadB hf rfl (by kernel_rfl) hB3 rfl) ?_
  clear hf a; intro a hf
  refine rV hf rfl (ex_len hf Try.underlying24 rfl) ?_
  clear hf a; intro a hf
  refine rR 7 hf rfl ?_
  clear hf a; intro a hf
  refine rV hf rfl (ex_loadB hf rfl (by kernel_rfl) hB3 rfl) ?_
  clear hf a; intro a hf
  refine rB hf rfl (fun c hc => ex_eqI hf rfl rfl hc) ?_ ?_
  clear hf a; intro h10 a hf
  refine rR 2 hf rfl ?_
  clear hf a; intro a hf
  refine rB hf rfl (fun c hc => ex_gtI hf rfl rfl hc) ?_ ?_
  clear hf a; intro h13 a hf
  refine rR 38 hf rfl ?_
  clear hf a; intro a hf
  exact rT (rs := [.tmp 2]) hf rfl ⟨_, _, rfl, rfl, rfl⟩ ⟨ret_b (by simp only [qA, qB, qC, qD, qE, qF, ne_eq, Int.not_lt, Int.not_le, Decidable.not_not] at h10 h13; simp [smallT, fewT, h10, h13] <;> omega), hE⟩
  clear hf a; intro h13 a hf
  refine rR 3 hf rfl ?_
  clear hf a; intro a hf
  refine rV hf rfl (ex_loadB hf rfl (by kernel_rfl) hB3 rfl) ?_
  clear hf a; intro a hf
  refine rB hf rfl (fun c hc => ex_eqI hf rfl rfl hc) ?_ ?_
  clear hf a; intro h18 a hf
  refine rR 2 hf rfl ?_
  clear hf a; intro a hf
  refine rB hf rfl (fun c hc => ex_gtI hf rfl rfl hc) ?_ ?_
  clear hf a; intro h21 a hf
  refine rR 30 hf rfl ?_
  clear hf a; intro a hf
  exact rT (rs := [.tmp 2]) hf rfl ⟨_, _, rfl, rfl, rfl⟩ ⟨ret_b (by simp only [qA, qB, qC, qD, qE, qF, ne_eq, Int.not_lt, Int.not_le, Decidable.not_not] at h10 h13 h18 h21; simp [smallT, fewT, h10, h13, h18, h21] <;> omega), hE⟩
  clear hf a; intro h21 a hf
  refine rR 4 hf rfl ?_
  clear hf a; intro a hf
  refine rV hf rfl (ex_loadB hf rfl (by kernel_rfl) hB3 rfl) ?_
  clear hf a; intro a hf
  refine rB hf rfl (fun c hc => ex_eqI hf rfl rfl hc) ?_ ?_
  clear hf a; intro h27 a hf
  refine rR 2 hf rfl ?_
  clear hf a; intro a hf
  refine rB hf rfl (fun c hc => ex_gtI hf rfl rfl hc) ?_ ?_
  clear hf a; intro h30 a hf
  refine rR 21 hf rfl ?_
  clear hf a; intro a hf
  exact rT (rs := [.tmp 2]) hf rfl ⟨_, _, rfl, rfl, rfl⟩ ⟨ret_b (by simp only [qA, qB, qC, qD, qE, qF, ne_eq, Int.not_lt, Int.not_le, Decidable.not_not] at h10 h13 h18 h21 h27 h30; simp [smallT, fewT, h10, h13, h18, h21, h27, h30] <;> omega), hE⟩
  clear hf a; intro h30 a hf
  refine rR 4 hf rfl ?_
  clear hf a; intro a hf
  refine rV hf rfl (ex_loadB hf rfl (by kernel_rfl) hB3 rfl) ?_
  clear hf a; intro a hf
  refine rB hf rfl (fun c hc => ex_eqI hf rfl rfl hc) ?_ ?_
  clear hf a; intro h36 a hf
  refine rR 2 hf rfl ?_
  clear hf a; intro a hf
  refine rB hf rfl (fun c hc => ex_gtI hf rfl rfl hc) ?_ ?_
  clear hf a; intro h39 a hf
  refine rR 12 hf rfl ?_
  clear hf a; intro a hf
  exact rT (rs := [.tmp 2]) hf rfl ⟨_, _, rfl, rfl, rfl⟩ ⟨ret_b (by simp only [qA, qB, qC, qD, qE, qF, ne_eq, Int.not_lt, Int.not_le, Decidable.not_not] at h10 h13 h18 h21 h27 h30 h36 h39; simp [smallT, fewT, h10, h13, h18, h21, h27, h30, h36, h39] <;> omega), hE⟩
  clear hf a; intro h39 a hf
  refine rR 14 hf rfl ?_
  clear hf a; intro a hf
  have hfew : fewT k ks.length = true := by simp only [qA, qB, qC, qD, qE, qF, ne_eq, Int.not_lt, Int.not_le, Decidable.not_not] at h10 h13 h18 h21 h27 h30 h36 h39; simp [fewT, h10, h13, h18, h21, h27, h30, h36, h39] <;> omega
  refine rL (fun g a w' => ∃ i, Fr a 54 (fm [(1, .pointer (some ⟨b2, 0, none⟩)), (4, .int .i64 (i : Nat)), (3, .int .i64 (ks.length : Nat))]) ∧ Chg [] w w' ∧ Blk w' b2 26 [.int .i64 k, strV tx, .slice A ls.length m0, .slice B ks.length n] ∧ i ≤ ks.length ∧ g = ks.length - i ∧ smallsT (ks.drop i) = smallsT ks) _ ⟨0, hf.pick ⟨rfl, rfl, rfl, trivial⟩, hE, hB3, Nat.zero_le _, rfl, rfl⟩ ?_
  obtain ⟨b1, eb1⟩ : ∃ x, b2 = x := ⟨_, rfl⟩
  rw [eb1]
  have ge_b1 : w.heap.size ≤ b1 := eb1 ▸ ge_b2
  clear eb1 hf a
  intro g0 a w' hI
  obtain ⟨i, hf, hE, hB1, hi, rfl, hm⟩ := hI
  by_cases hlt : i < ks.length
  obtain ⟨kb, ko, rfl, _, hkb, hcell⟩ := hrow.2 (by omega)
  obtain ⟨d0, d1, d2, d3, hT, hK⟩ := kid_cells hkids hkb hcell hlt hE
  have on_T := hT.one
  have htt := kbulk_at hlt
  have hts := tsize_at hlt
  have lt_kb := hE.lt hkb
  have hmm := smallsT_step hlt
  refine rR 5 hf rfl ?_
  clear hf a; intro a hf
  refine rV hf rfl (ex_ltI (c := true) hf rfl rfl (by simp; omega)) ?_
  clear hf a; intro a hf
  refine rR 10 hf rfl ?_
  clear hf a; intro a hf
  refine rV hf rfl (ex_loadB hf rfl (by kernel_rfl) hB1 rfl) ?_
  clear hf a; intro a hf
  refine rR 1 hf rfl ?_
  clear hf a; intro a hf
  refine rV hf rfl (ex_index (sz := 4) (k := i) (r := ko + i * 4) hf Try.underlying24 (by kernel_rfl) rfl rfl rfl hlt rfl) ?_
  clear hf a; intro a hf
  refine rV hf rfl (ex_loadN (cs := [d0, d1, d2, d3]) (m := 4) hf rfl (by kernel_rfl) rfl hK) ?_
  clear hf a; intro a hf
  rcases Bool.eq_false_or_eq_true (smallT ks[i]) with hbk | hbk
  refine rC hf rfl rfl (by kernel_rfl) (bool_is (ih _ _ _ _ _ _ _ (by omega) (by omega) hT) hbk) ?_
  rintro _ w8 ⟨rfl, hx7⟩
  refine ⟨_, rfl, ?_⟩
  clear hf a; intro a hf
  replace hB1 := hB1.c0 hx7
  replace hT := hT.t0 hx7
  replace hK := fun j hj => (hx7.cell lt_kb nm0).trans (hK j hj)
  replace lt_kb := hx7.lt lt_kb
  replace hE := hE.t0 hx7
  refine rR 9 hf rfl ?_
  clear hf a; intro a hf
  refine rV hf rfl (ex_addI hf rfl rfl rfl (by omega)) ?_
  clear hf a; intro a hf
  refine rR 2 hf rfl ?_
  clear hf a; intro a hf
  exact rX ⟨_, (by omega : ks.length - (i + 1) < ks.length - i), i + 1, hf.pick ⟨rfl, rfl, rfl, trivial⟩, hE, hB1, by omega, rfl, by rw [← hm, hmm, hbk]; rfl⟩
  refine rC hf rfl rfl (by kernel_rfl) (bool_is (ih _ _ _ _ _ _ _ (by omega) (by omega) hT) hbk) ?_
  rintro _ w9 ⟨rfl, hx7⟩
  refine ⟨_, rfl, ?_⟩
  clear hf a; intro a hf
  replace hB1 := hB1.c0 hx7
  replace hT := hT.t0 hx7
  replace hK := fun j hj => (hx7.cell lt_kb nm0).trans (hK j hj)
  replace lt_kb := hx7.lt lt_kb
  replace hE := hE.t0 hx7
  refine rR 12 hf rfl ?_
  clear hf a; intro a hf
  refine rOr ?_
  refine rR 2 hf rfl ?_
  clear hf a; intro a hf
  exact rT (rs := [.tmp 2]) hf rfl ⟨_, _, rfl, rfl, rfl⟩ ⟨ret_b (by rw [smallT, ← hm, hmm, hbk]; simp), hE⟩
  have hz : ks.drop i = [] := List.drop_of_length_le (by omega)
  rw [hz, smallsT] at hm
  refine rR 5 hf rfl ?_
  clear hf a; intro a hf
  refine rV hf rfl (ex_ltI (c := false) hf rfl rfl (by simp; omega)) ?_
  clear hf a; intro a hf
  refine rR 5 hf rfl ?_
  clear hf a; intro a hf
  refine rO ?_
  refine rR 8 hf rfl ?_
  clear hf a; intro a hf
  exact rT (rs := [.tmp 2]) hf rfl ⟨_, _, rfl, rfl, rfl⟩ ⟨ret_b (by rw [smallT, ← hm, hfew]; rfl), hE⟩
  clear hf a; intro h36 a hf
  refine rR 17 hf rfl ?_
  clear hf a; intro a hf
  have hfew : fewT k ks.length = true := by simp only [qA, qB, qC, qD, qE, qF, ne_eq, Int.not_lt, Int.not_le, Decidable.not_not] at h10 h13 h18 h21 h27 h30 h36; simp [fewT, h10, h13, h18, h21, h27, h30, h36] <;> omega
  refine rL (fun g a w' => ∃ i, Fr a 54 (fm [(1, .pointer (some ⟨b2, 0, none⟩)), (4, .int .i64 (i : Nat)), (3, .int .i64 (ks.length : Nat))]) ∧ Chg [] w w' ∧ Blk w' b2 26 [.int .i64 k, strV tx, .slice A ls.length m0, .slice B ks.length n] ∧ i ≤ ks.length ∧ g = ks.length - i ∧ smallsT (ks.drop i) = smallsT ks) _ ⟨0, hf.pick ⟨rfl, rfl, rfl, trivial⟩, hE, hB3, Nat.zero_le _, rfl, rfl⟩ ?_
  obtain ⟨b1, eb1⟩ : ∃ x, b2 = x := ⟨_, rfl⟩
  rw [eb1]
  have ge_b1 : w.heap.size ≤ b1 := eb1 ▸ ge_b2
  clear eb1 hf a
  intro g0 a w' hI
  obtain ⟨i, hf, hE, hB1, hi, rfl, hm⟩ := hI
  by_cases hlt : i < ks.length
  obtain ⟨kb, ko, rfl, _, hkb, hcell⟩ := hrow.2 (by omega)
  obtain ⟨d0, d1, d2, d3, hT, hK⟩ := kid_cells hkids hkb hcell hlt hE
  have on_T := hT.one
  have htt := kbulk_at hlt
  have hts := tsize_at hlt
  have lt_kb := hE.lt hkb
  have hmm := smallsT_step hlt
  refine rR 5 hf rfl ?_
  clear hf a; intro a hf
  refine rV hf rfl (ex_ltI (c := true) hf rfl rfl (by simp; omega)) ?_
  clear hf a; intro a hf
  refine rR 10 hf rfl ?_
  clear hf a; intro a hf
  refine rV hf rfl (ex_loadB hf rfl (by kernel_rfl) hB1 rfl) ?_
  clear hf a; intro a hf
  refine rR 1 hf rfl ?_
  clear hf a; intro a hf
  refine rV hf rfl (ex_index (sz := 4) (k := i) (r := ko + i * 4) hf Try.underlying24 (by kernel_rfl) rfl rfl rfl hlt rfl) ?_
  clear hf a; intro a hf
  refine rV hf rfl (ex_loadN (cs := [d0, d1, d2, d3]) (m := 4) hf rfl (by kernel_rfl) rfl hK) ?_
  clear hf a; intro a hf
  rcases Bool.eq_false_or_eq_true (smallT ks[i]) with hbk | hbk
  refine rC hf rfl rfl (by kernel_rfl) (bool_is (ih _ _ _ _ _ _ _ (by omega) (by omega) hT) hbk) ?_
  rintro _ w11 ⟨rfl, hx10⟩
  refine ⟨_, rfl, ?_⟩
  clear hf a; intro a hf
  replace hB1 := hB1.c0 hx10
  replace hT := hT.t0 hx10
  replace hK := fun j hj => (hx10.cell lt_kb nm0).trans (hK j hj)
  replace lt_kb := hx10.lt lt_kb
  replace hE := hE.t0 hx10
  refine rR 9 hf rfl ?_
  clear hf a; intro a hf
  refine rV hf rfl (ex_addI hf rfl rfl rfl (by omega)) ?_
  clear hf a; intro a hf
  refine rR 2 hf rfl ?_
  clear hf a; intro a hf
  exact rX ⟨_, (by omega : ks.length - (i + 1) < ks.length - i), i + 1, hf.pick ⟨rfl, rfl, rfl, trivial⟩, hE, hB1, by omega, rfl, by rw [← hm, hmm, hbk]; rfl⟩
  refine rC hf rfl rfl (by kernel_rfl) (bool_is (ih _ _ _ _ _ _ _ (by omega) (by omega) hT) hbk) ?_
  rintro _ w12 ⟨rfl, hx10⟩
  refine ⟨_, rfl, ?_⟩
  clear hf a; intro a hf
  replace hB1 := hB1.c0 hx10
  replace hT := hT.t0 hx10
  replace hK := fun j hj => (hx10.cell lt_kb nm0).trans (hK j hj)
  replace lt_kb := hx10.lt lt_kb
  replace hE := hE.t0 hx10
  refine rR 12 hf rfl ?_
  clear hf a; intro a hf
  refine rOr ?_
  refine rR 2 hf rfl ?_
  clear hf a; intro a hf
  exact rT (rs := [.tmp 2]) hf rfl ⟨_, _, rfl, rfl, rfl⟩ ⟨ret_b (by rw [smallT, ← hm, hmm, hbk]; simp), hE⟩
  have hz : ks.drop i = [] := List.drop_of_length_le (by omega)
  rw [hz, smallsT] at hm
  refine rR 5 hf rfl ?_
  clear hf a; intro a hf
  refine rV hf rfl (ex_ltI (c := false) hf rfl rfl (by simp; omega)) ?_
  clear hf a; intro a hf
  refine rR 5 hf rfl ?_
  clear hf a; intro a hf
  refine rO ?_
  refine rR 8 hf rfl ?_
  clear hf a; intro a hf
  exact rT (rs := [.tmp 2]) hf rfl ⟨_, _, rfl, rfl, rfl⟩ ⟨ret_b (by rw [smallT, ← hm, hfew]; rfl), hE⟩
  clear hf a; intro h27 a hf
  refine rR 7 hf rfl ?_
  clear hf a; intro a hf
  refine rV hf rfl (ex_loadB hf rfl (by kernel_rfl) hB3 rfl) ?_
  clear hf a; intro a hf
  refine rB hf rfl (fun c hc => ex_eqI hf rfl rfl hc) ?_ ?_
  clear hf a; intro h36 a hf
  refine rR 2 hf rfl ?_
  clear hf a; intro a hf
  refine rB hf rfl (fun c hc => ex_gtI hf rfl rfl hc) ?_ ?_
  clear hf a; intro h39 a hf
  refine rR 12 hf rfl ?_
  clear hf a; intro a hf
  exact rT (rs := [.tmp 2]) hf rfl ⟨_, _, rfl, rfl, rfl⟩ ⟨ret_b (by simp only [qA, qB, qC, qD, qE, qF, ne_eq, Int.not_lt, Int.not_le, Decidable.not_not] at h10 h13 h18 h21 h27 h36 h39; simp [smallT, fewT, h10, h13, h18, h21, h27, h36, h39] <;> omega), hE⟩
  clear hf a; intro h39 a hf
  refine rR 14 hf rfl ?_
  clear hf a; intro a hf
  have hfew : fewT k ks.length = true := by simp only [qA, qB, qC, qD, qE, qF, ne_eq, Int.not_lt, Int.not_le, Decidable.not_not] at h10 h13 h18 h21 h27 h36 h39; simp [fewT, h10, h13, h18, h21, h27, h36, h39] <;> omega
  refine rL (fun g a w' => ∃ i, Fr a 54 (fm [(1, .pointer (some ⟨b2, 0, none⟩)), (4, .int .i64 (i : Nat)), (3, .int .i64 (ks.length : Nat))]) ∧ Chg [] w w' ∧ Blk w' b2 26 [.int .i64 k, strV tx, .slice A ls.length m0, .slice B ks.length n] ∧ i ≤ ks.length ∧ g = ks.length - i ∧ smallsT (ks.drop i) = smallsT ks) _ ⟨0, hf.pick ⟨rfl, rfl, rfl, trivial⟩, hE, hB3, Nat.zero_le _, rfl, rfl⟩ ?_
  obtain ⟨b1, eb1⟩ : ∃ x, b2 = x := ⟨_, rfl⟩
  rw [eb1]
  have ge_b1 : w.heap.size ≤ b1 := eb1 ▸ ge_b2
  clear eb1 hf a
  intro g0 a w' hI
  obtain ⟨i, hf, hE, hB1, hi, rfl, hm⟩ := hI
  by_cases hlt : i < ks.length
  obtain ⟨kb, ko, rfl, _, hkb, hcell⟩ := hrow.2 (by omega)
  obtain ⟨d0, d1, d2, d3, hT, hK⟩ := kid_cells hkids hkb hcell hlt hE
  have on_T := hT.one
  have htt := kbulk_at hlt
  have hts := tsize_at hlt
  have lt_kb := hE.lt hkb
  have hmm := smallsT_step hlt
  refine rR 5 hf rfl ?_
  clear hf a; intro a hf
  refine rV hf rfl (ex_ltI (c := true) hf rfl rfl (by simp; omega)) ?_
  clear hf a; intro a hf
  refine rR 10 hf rfl ?_
  clear hf a; intro a hf
  refine rV hf rfl (ex_loadB hf rfl (by kernel_rfl) hB1 rfl) ?_
  clear hf a; intro a hf
  refine rR 1 hf rfl ?_
  clear hf a; intro a hf
  refine rV hf rfl (ex_index (sz := 4) (k := i) (r := ko + i * 4) hf Try.underlying24 (by kernel_rfl) rfl rfl rfl hlt rfl) ?_
  clear hf a; intro a hf
  refine rV hf rfl (ex_loadN (cs := [d0, d1, d2, d3]) (m := 4) hf rfl (by kernel_rfl) rfl hK) ?_
  clear hf a; intro a hf
  rcases Bool.eq_false_or_eq_true (smallT ks[i]) with hbk | hbk
  refine rC hf rfl rfl (by kernel_rfl) (bool_is (ih _ _ _ _ _ _ _ (by omega) (by omega) hT) hbk) ?_
  rintro _ w14 ⟨rfl, hx13⟩
  refine ⟨_, rfl, ?_⟩
  clear hf a; intro a hf
  replace hB1 := hB1.c0 hx13
  replace hT := hT.t0 hx13
  replace hK := fun j hj => (hx13.cell lt_kb nm0).trans (hK j hj)
  replace lt_kb := hx13.lt lt_kb
  replace hE := hE.t0 hx13
  refine rR 9 hf rfl ?_
  clear hf a; intro a hf
  refine rV hf rfl (ex_addI hf rfl rfl rfl (by omega)) ?_
  clear hf a; intro a hf
  refine rR 2 hf rfl ?_
  clear hf a; intro a hf
  exact rX ⟨_, (by omega : ks.length - (i + 1) < ks.length - i), i + 1, hf.pick ⟨rfl, rfl, rfl, trivial⟩, hE, hB1, by omega, rfl, by rw [← hm, hmm, hbk]; rfl⟩
  refine rC hf rfl rfl (by kernel_rfl) (bool_is (ih _ _ _ _ _ _ _ (by omega) (by omega) hT) hbk) ?_
  rintro _ w15 ⟨rfl, hx13⟩
  refine ⟨_, rfl, ?_⟩
  clear hf a; intro a hf
  replace hB1 := hB1.c0 hx13
  replace hT := hT.t0 hx13
  replace hK := fun j hj => (hx13.cell lt_kb nm0).trans (hK j hj)
  replace lt_kb := hx13.lt lt_kb
  replace hE := hE.t0 hx13
  refine rR 12 hf rfl ?_
  clear hf a; intro a hf
  refine rOr ?_
  refine rR 2 hf rfl ?_
  clear hf a; intro a hf
  exact rT (rs := [.tmp 2]) hf rfl ⟨_, _, rfl, rfl, rfl⟩ ⟨ret_b (by rw [smallT, ← hm, hmm, hbk]; simp), hE⟩
  have hz : ks.drop i = [] := List.drop_of_length_le (by omega)
  rw [hz, smallsT] at hm
  refine rR 5 hf rfl ?_
  clear hf a; intro a hf
  refine rV hf rfl (ex_ltI (c := false) hf rfl rfl (by simp; omega)) ?_
  clear hf a; intro a hf
  refine rR 5 hf rfl ?_
  clear hf a; intro a hf
  refine rO ?_
  refine rR 8 hf rfl ?_
  clear hf a; intro a hf
  exact rT (rs := [.tmp 2]) hf rfl ⟨_, _, rfl, rfl, rfl⟩ ⟨ret_b (by rw [smallT, ← hm, hfew]; rfl), hE⟩
  clear hf a; intro h36 a hf
  refine rR 17 hf rfl ?_
  clear hf a; intro a hf
  have hfew : fewT k ks.length = true := by simp only [qA, qB, qC, qD, qE, qF, ne_eq, Int.not_lt, Int.not_le, Decidable.not_not] at h10 h13 h18 h21 h27 h36; simp [fewT, h10, h13, h18, h21, h27, h36] <;> omega
  refine rL (fun g a w' => ∃ i, Fr a 54 (fm [(1, .pointer (some ⟨b2, 0, none⟩)), (4, .int .i64 (i : Nat)), (3, .int .i64 (ks.length : Nat))]) ∧ Chg [] w w' ∧ Blk w' b2 26 [.int .i64 k, strV tx, .slice A ls.length m0, .slice B ks.length n] ∧ i ≤ ks.length ∧ g = ks.length - i ∧ smallsT (ks.drop i) = smallsT ks) _ ⟨0, hf.pick ⟨rfl, rfl, rfl, trivial⟩, hE, hB3, Nat.zero_le _, rfl, rfl⟩ ?_
  obtain ⟨b1, eb1⟩ : ∃ x, b2 = x := ⟨_, rfl⟩
  rw [eb1]
  have ge_b1 : w.heap.size ≤ b1 := eb1 ▸ ge_b2
  clear eb1 hf a
  intro g0 a w' hI
  obtain ⟨i, hf, hE, hB1, hi, rfl, hm⟩ := hI
  by_cases hlt : i < ks.length
  obtain ⟨kb, ko, rfl, _, hkb, hcell⟩ := hrow.2 (by omega)
  obtain ⟨d0, d1, d2, d3, hT, hK⟩ := kid_cells hkids hkb hcell hlt hE
  have on_T := hT.one
  have htt := kbulk_at hlt
  have hts := tsize_at hlt
  have lt_kb := hE.lt hkb
  have hmm := smallsT_step hlt
  refine rR 5 hf rfl ?_
  clear hf a; intro a hf
  refine rV hf rfl (ex_ltI (c := true) hf rfl rfl (by simp; omega)) ?_
  clear hf a; intro a hf
  refine rR 10 hf rfl ?_
  clear hf a; intro a hf
  refine rV hf rfl (ex_loadB hf rfl (by kernel_rfl) hB1 rfl) ?_
  clear hf a; intro a hf
  refine rR 1 hf rfl ?_
  clear hf a; intro a hf
  refine rV hf rfl (ex_index (sz := 4) (k := i) (r := ko + i * 4) hf Try.underlying24 (by kernel_rfl) rfl rfl rfl hlt rfl) ?_
  clear hf a; intro a hf
  refine rV hf rfl (ex_loadN (cs := [d0, d1, d2, d3]) (m := 4) hf rfl (by kernel_rfl) rfl hK) ?_
  clear hf a; intro a hf
  rcases Bool.eq_false_or_eq_true (smallT ks[i]) with hbk | hbk
  refine rC hf rfl rfl (by kernel_rfl) (bool_is (ih _ _ _ _ _ _ _ (by omega) (by omega) hT) hbk) ?_
  rintro _ w17 ⟨rfl, hx16⟩
  refine ⟨_, rfl, ?_⟩
  clear hf a; intro a hf
  replace hB1 := hB1.c0 hx16
  replace hT := hT.t0 hx16
  replace hK := fun j hj => (hx16.cell lt_kb nm0).trans (hK j hj)
  replace lt_kb := hx16.lt lt_kb
  replace hE := hE.t0 hx16
  refine rR 9 hf rfl ?_
  clear hf a; intro a hf
  refine rV hf rfl (ex_addI hf rfl rfl rfl (by omega)) ?_
  clear hf a; intro a hf
  refine rR 2 hf rfl ?_
  clear hf a; intro a hf
  exact rX ⟨_, (by omega : ks.length - (i + 1) < ks.length - i), i + 1, hf.pick ⟨rfl, rfl, rfl, trivial⟩, hE, hB1, by omega, rfl, by rw [← hm, hmm, hbk]; rfl⟩
  refine rC hf rfl rfl (by kernel_rfl) (bool_is (ih _ _ _ _ _ _ _ (by omega) (by omega) hT) hbk) ?_
  rintro _ w18 ⟨rfl, hx16⟩
  refine ⟨_, rfl, ?_⟩
  clear hf a; intro a hf
  replace hB1 := hB1.c0 hx16
  replace hT := hT.t0 hx16
  replace hK := fun j hj => (hx16.cell lt_kb nm0).trans (hK j hj)
  replace lt_kb := hx16.lt lt_kb
  replace hE := hE.t0 hx16
  refine rR 12 hf rfl ?_
  clear hf a; intro a hf
  refine rOr ?_
  refine rR 2 hf rfl ?_
  clear hf a; intro a hf
  exact rT (rs := [.tmp 2]) hf rfl ⟨_, _, rfl, rfl, rfl⟩ ⟨ret_b (by rw [smallT, ← hm, hmm, hbk]; simp), hE⟩
  have hz : ks.drop i = [] := List.drop_of_length_le (by omega)
  rw [hz, smallsT] at hm
  refine rR 5 hf rfl ?_
  clear hf a; intro a hf
  refine rV hf rfl (ex_ltI (c := false) hf rfl rfl (by simp; omega)) ?_
  clear hf a; intro a hf
  refine rR 5 hf rfl ?_
  clear hf a; intro a hf
  refine rO ?_
  refine rR 8 hf rfl ?_
  clear hf a; intro a hf
  exact rT (rs := [.tmp 2]) hf rfl ⟨_, _, rfl, rfl, rfl⟩ ⟨ret_b (by rw [smallT, ← hm, hfew]; rfl), hE⟩
  clear hf a; intro h18 a hf
  refine rR 7 hf rfl ?_
  clear hf a; intro a hf
  refine rV hf rfl (ex_loadB hf rfl (by kernel_rfl) hB3 rfl) ?_
  clear hf a; intro a hf
  refine rB hf rfl (fun c hc => ex_eqI hf rfl rfl hc) ?_ ?_
  clear hf a; intro h27 a hf
  refine rR 2 hf rfl ?_
  clear hf a; intro a hf
  refine rB hf rfl (fun c hc => ex_gtI hf rfl rfl hc) ?_ ?_
  clear hf a; intro h30 a hf
  refine rR 21 hf rfl ?_
  clear hf a; intro a hf
  exact rT (rs := [.tmp 2]) hf rfl ⟨_, _, rfl, rfl, rfl⟩ ⟨ret_b (by simp only [qA, qB, qC, qD, qE, qF, ne_eq, Int.not_lt, Int.not_le, Decidable.not_not] at h10 h13 h18 h27 h30; simp [smallT, fewT, h10, h13, h18, h27, h30] <;> omega), hE⟩
  clear hf a; intro h30 a hf
  refine rR 4 hf rfl ?_
  clear hf a; intro a hf
  refine rV hf rfl (ex_loadB hf rfl (by kernel_rfl) hB3 rfl) ?_
  clear hf a; intro a hf
  refine rB hf rfl (fun c hc => ex_eqI hf rfl rfl hc) ?_ ?_
  clear hf a; intro h36 a hf
  refine rR 2 hf rfl ?_
  clear hf a; intro a hf
  refine rB hf rfl (fun c hc => ex_gtI hf rfl rfl hc) ?_ ?_
  clear hf a; intro h39 a hf
  refine rR 12 hf rfl ?_
  clear hf a; intro a hf
  exact rT (rs := [.tmp 2]) hf rfl ⟨_, _, rfl, rfl, rfl⟩ ⟨ret_b (by simp only [qA, qB, qC, qD, qE, qF, ne_eq, Int.not_lt, Int.not_le, Decidable.not_not] at h10 h13 h18 h27 h30 h36 h39; simp [smallT, fewT, h10, h13, h18, h27, h30, h36, h39] <;> omega), hE⟩
  clear hf a; intro h39 a hf
  refine rR 14 hf rfl ?_
  clear hf a; intro a hf
  have hfew : fewT k ks.length = true := by simp only [qA, qB, qC, qD, qE, qF, ne_eq, Int.not_lt, Int.not_le, Decidable.not_not] at h10 h13 h18 h27 h30 h36 h39; simp [fewT, h10, h13, h18, h27, h30, h36, h39] <;> omega
  refine rL (fun g a w' => ∃ i, Fr a 54 (fm [(1, .pointer (some ⟨b2, 0, none⟩)), (4, .int .i64 (i : Nat)), (3, .int .i64 (ks.length : Nat))]) ∧ Chg [] w w' ∧ Blk w' b2 26 [.int .i64 k, strV tx, .slice A ls.length m0, .slice B ks.length n] ∧ i ≤ ks.length ∧ g = ks.length - i ∧ smallsT (ks.drop i) = smallsT ks) _ ⟨0, hf.pick ⟨rfl, rfl, rfl, trivial⟩, hE, hB3, Nat.zero_le _, rfl, rfl⟩ ?_
  obtain ⟨b1, eb1⟩ : ∃ x, b2 = x := ⟨_, rfl⟩
  rw [eb1]
  have ge_b1 : w.heap.size ≤ b1 := eb1 ▸ ge_b2
  clear eb1 hf a
  intro g0 a w' hI
  obtain ⟨i, hf, hE, hB1, hi, rfl, hm⟩ := hI
  by_cases hlt : i < ks.length
  obtain ⟨kb, ko, rfl, _, hkb, hcell⟩ := hrow.2 (by omega)
  obtain ⟨d0, d1, d2, d3, hT, hK⟩ := kid_cells hkids hkb hcell hlt hE
  have on_T := hT.one
  have htt := kbulk_at hlt
  have hts := tsize_at hlt
  have lt_kb := hE.lt hkb
  have hmm := smallsT_step hlt
  refine rR 5 hf rfl ?_
  clear hf a; intro a hf
  refine rV hf rfl (ex_ltI (c := true) hf rfl rfl (by simp; omega)) ?_
  clear hf a; intro a hf
  refine rR 10 hf rfl ?_
  clear hf a; intro a hf
  refine rV hf rfl (ex_loadB hf rfl (by kernel_rfl) hB1 rfl) ?_
  clear hf a; intro a hf
  refine rR 1 hf rfl ?_
  clear hf a; intro a hf
  refine rV hf rfl (ex_index (sz := 4) (k := i) (r := ko + i * 4) hf Try.underlying24 (by kernel_rfl) rfl rfl rfl hlt rfl) ?_
  clear hf a; intro a hf
  refine rV hf rfl (ex_loadN (cs := [d0, d1, d2, d3]) (m := 4) hf rfl (by kernel_rfl) rfl hK) ?_
  clear hf a; intro a hf
  rcases Bool.eq_false_or_eq_true (smallT ks[i]) with hbk | hbk
  refine rC hf rfl rfl (by kernel_rfl) (bool_is (ih _ _ _ _ _ _ _ (by omega) (by omega) hT) hbk) ?_
  rintro _ w20 ⟨rfl, hx19⟩
  refine ⟨_, rfl, ?_⟩
  clear hf a; intro a hf
  replace hB1 := hB1.c0 hx19
  replace hT := hT.t0 hx19
  replace hK := fun j hj => (hx19.cell lt_kb nm0).trans (hK j hj)
  replace lt_kb := hx19.lt lt_kb
  replace hE := hE.t0 hx19
  refine rR 9 hf rfl ?_
  clear hf a; intro a hf
  refine rV hf rfl (ex_addI hf rfl rfl rfl (by omega)) ?_
  clear hf a; intro a hf
  refine rR 2 hf rfl ?_
  clear hf a; intro a hf
  exact rX ⟨_, (by omega : ks.length - (i + 1) < ks.length - i), i + 1, hf.pick ⟨rfl, rfl, rfl, trivial⟩, hE, hB1, by omega, rfl, by rw [← hm, hmm, hbk]; rfl⟩
  refine rC hf rfl rfl (by kernel_rfl) (bool_is (ih _ _ _ _ _ _ _ (by omega) (by omega) hT) hbk) ?_
  rintro _ w21 ⟨rfl, hx19⟩
  refine ⟨_, rfl, ?_⟩
  clear hf a; intro a hf
  replace hB1 := hB1.c0 hx19
  replace hT := hT.t0 hx19
  replace hK := fun j hj => (hx19.cell lt_kb nm0).trans (hK j hj)
  replace lt_kb := hx19.lt lt_kb
  replace hE := hE.t0 hx19
  refine rR 12 hf rfl ?_
  clear hf a; intro a hf
  refine rOr ?_
  refine rR 2 hf rfl ?_
  clear hf a; intro a hf
  exact rT (rs := [.tmp 2]) hf rfl ⟨_, _, rfl, rfl, rfl⟩ ⟨ret_b (by rw [smallT, ← hm, hmm, hbk]; simp), hE⟩
  have hz : ks.drop i = [] := List.drop_of_length_le (by omega)
  rw [hz, smallsT] at hm
  refine rR 5 hf rfl ?_
  clear hf a; intro a hf
  refine rV hf rfl (ex_ltI (c := false) hf rfl rfl (by simp; omega)) ?_
  clear hf a; intro a hf
  refine rR 5 hf rfl ?_
  clear hf a; intro a hf
  refine rO ?_
  refine rR 8 hf rfl ?_
  clear hf a; intro a hf
  exact rT (rs := [.tmp 2]) hf rfl ⟨_, _, rfl, rfl, rfl⟩ ⟨ret_b (by rw [smallT, ← hm, hfew]; rfl), hE⟩
  clear hf a; intro h36 a hf
  refine rR 17 hf rfl ?_
  clear hf a; intro a hf
  have hfew : fewT k ks.length = true := by simp only [qA, qB, qC, qD, qE, qF, ne_eq, Int.not_lt, Int.not_le, Decidable.not_not] at h10 h13 h18 h27 h30 h36; simp [fewT, h10, h13, h18, h27, h30, h36] <;> omega
  refine rL (fun g a w' => ∃ i, Fr a 54 (fm [(1, .pointer (some ⟨b2, 0, none⟩)), (4, .int .i64 (i : Nat)), (3, .int .i64 (ks.length : Nat))]) ∧ Chg [] w w' ∧ Blk w' b2 26 [.int .i64 k, strV tx, .slice A ls.length m0, .slice B ks.length n] ∧ i ≤ ks.length ∧ g = ks.length - i ∧ smallsT (ks.drop i) = smallsT ks) _ ⟨0, hf.pick ⟨rfl, rfl, rfl, trivial⟩, hE, hB3, Nat.zero_le _, rfl, rfl⟩ ?_
  obtain ⟨b1, eb1⟩ : ∃ x, b2 = x := ⟨_, rfl⟩
  rw [eb1]
  have ge_b1 : w.heap.size ≤ b1 := eb1 ▸ ge_b2
  clear eb1 hf a
  intro g0 a w' hI
  obtain ⟨i, hf, hE, hB1, hi, rfl, hm⟩ := hI
  by_cases hlt : i < ks.length
  obtain ⟨kb, ko, rfl, _, hkb, hcell⟩ := hrow.2 (by omega)
  obtain ⟨d0, d1, d2, d3, hT, hK⟩ := kid_cells hkids hkb hcell hlt hE
  have on_T := hT.one
  have htt := kbulk_at hlt
  have hts := tsize_at hlt
  have lt_kb := hE.lt hkb
  have hmm := smallsT_step hlt
  refine rR 5 hf rfl ?_
  clear hf a; intro a hf
  refine rV hf rfl (ex_ltI (c := true) hf rfl rfl (by simp; omega)) ?_
  clear hf a; intro a hf
  refine rR 10 hf rfl ?_
  clear hf a; intro a hf
  refine rV hf rfl (ex_loadB hf rfl (by kernel_rfl) hB1 rfl) ?_
  clear hf a; intro a hf
  refine rR 1 hf rfl ?_
  clear hf a; intro a hf
  refine rV hf rfl (ex_index (sz := 4) (k := i) (r := ko + i * 4) hf Try.underlying24 (by kernel_rfl) rfl rfl rfl hlt rfl) ?_
  clear hf a; intro a hf
  refine rV hf rfl (ex_loadN (cs := [d0, d1, d2, d3]) (m := 4) hf rfl (by kernel_rfl) rfl hK) ?_
  clear hf a; intro a hf
  rcases Bool.eq_false_or_eq_true (smallT ks[i]) with hbk | hbk
  refine rC hf rfl rfl (by kernel_rfl) (bool_is (ih _ _ _ _ _ _ _ (by omega) (by omega) hT) hbk) ?_
  rintro _ w23 ⟨rfl, hx22⟩
  refine ⟨_, rfl, ?_⟩
  clear hf a; intro a hf
  replace hB1 := hB1.c0 hx22
  replace hT := hT.t0 hx22
  replace hK := fun j hj => (hx22.cell lt_kb nm0).trans (hK j hj)
  replace lt_kb := hx22.lt lt_kb
  replace hE := hE.t0 hx22
  refine rR 9 hf rfl ?_
  clear hf a; intro a hf
  refine rV hf rfl (ex_addI hf rfl rfl rfl (by omega)) ?_
  clear hf a; intro a hf
  refine rR 2 hf rfl ?_
  clear hf a; intro a hf
  exact rX ⟨_, (by omega : ks.length - (i + 1) < ks.length - i), i + 1, hf.pick ⟨rfl, rfl, rfl, trivial⟩, hE, hB1, by omega, rfl, by rw [← hm, hmm, hbk]; rfl⟩
  refine rC hf rfl rfl (by kernel_rfl) (bool_is (ih _ _ _ _ _ _ _ (by omega) (by omega) hT) hbk) ?_
  rintro _ w24 ⟨rfl, hx22⟩
  refine ⟨_, rfl, ?_⟩
  clear hf a; intro a hf
  replace hB1 := hB1.c0 hx22
  replace hT := hT.t0 hx22
  replace hK := fun j hj => (hx22.cell lt_kb nm0).trans (hK j hj)
  replace lt_kb := hx22.lt lt_kb
  replace hE := hE.t0 hx22
  refine rR 12 hf rfl ?_
  clear hf a; intro a hf
  refine rOr ?_
  refine rR 2 hf rfl ?_
  clear hf a; intro a hf
  exact rT (rs := [.tmp 2]) hf rfl ⟨_, _, rfl, rfl, rfl⟩ ⟨ret_b (by rw [smallT, ← hm, hmm, hbk]; simp), hE⟩
  have hz : ks.drop i = [] := List.drop_of_length_le (by omega)
  rw [hz, smallsT] at hm
  refine rR 5 hf rfl ?_
  clear hf a; intro a hf
  refine rV hf rfl (ex_ltI (c := false) hf rfl rfl (by simp; omega)) ?_
  clear hf a; intro a hf
  refine rR 5 hf rfl ?_
  clear hf a; intro a hf
  refine rO ?_
  refine rR 8 hf rfl ?_
  clear hf a; intro a hf
  exact rT (rs := [.tmp 2]) hf rfl ⟨_, _, rfl, rfl, rfl⟩ ⟨ret_b (by rw [smallT, ← hm, hfew]; rfl), hE⟩
  clear hf a; intro h27 a hf
  refine rR 7 hf rfl ?_
  clear hf a; intro a hf
  refine rV hf rfl (ex_loadB hf rfl (by kernel_rfl) hB3 rfl) ?_
  clear hf a; intro a hf
  refine rB hf rfl (fun c hc => ex_eqI hf rfl rfl hc) ?_ ?_
  clear hf a; intro h36 a hf
  refine rR 2 hf rfl ?_
  clear hf a; intro a hf
  refine rB hf rfl (fun c hc => ex_gtI hf rfl rfl hc) ?_ ?_
  clear hf a; intro h39 a hf
  refine rR 12 hf rfl ?_
  clear hf a; intro a hf
  exact rT (rs := [.tmp 2]) hf rfl ⟨_, _, rfl, rfl, rfl⟩ ⟨ret_b (by simp only [qA, qB, qC, qD, qE, qF, ne_eq, Int.not_lt, Int.not_le, Decidable.not_not] at h10 h13 h18 h27 h36 h39; simp [smallT, fewT, h10, h13, h18, h27, h36, h39] <;> omega), hE⟩
  clear hf a; intro h39 a hf
  refine rR 14 hf rfl ?_
  clear hf a; intro a hf
  have hfew : fewT k ks.length = true := by simp only [qA, qB, qC, qD, qE, qF, ne_eq, Int.not_lt, Int.not_le, Decidable.not_not] at h10 h13 h18 h27 h36 h39; simp [fewT, h10, h13, h18, h27, h36, h39] <;> omega
  refine rL (fun g a w' => ∃ i, Fr a 54 (fm [(1, .pointer (some ⟨b2, 0, none⟩)), (4, .int .i64 (i : Nat)), (3, .int .i64 (ks.length : Nat))]) ∧ Chg [] w w' ∧ Blk w' b2 26 [.int .i64 k, strV tx, .slice A ls.length m0, .slice B ks.length n] ∧ i ≤ ks.length ∧ g = ks.length - i ∧ smallsT (ks.drop i) = smallsT ks) _ ⟨0, hf.pick ⟨rfl, rfl, rfl, trivial⟩, hE, hB3, Nat.zero_le _, rfl, rfl⟩ ?_
  obtain ⟨b1, eb1⟩ : ∃ x, b2 = x := ⟨_, rfl⟩
  rw [eb1]
  have ge_b1 : w.heap.size ≤ b1 := eb1 ▸ ge_b2
  clear eb1 hf a
  intro g0 a w' hI
  obtain ⟨i, hf, hE, hB1, hi, rfl, hm⟩ := hI
  by_cases hlt : i < ks.length
  obtain ⟨kb, ko, rfl, _, hkb, hcell⟩ := hrow.2 (by omega)
  obtain ⟨d0, d1, d2, d3, hT, hK⟩ := kid_cells hkids hkb hcell hlt hE
  have on_T := hT.one
  have htt := kbulk_at hlt
  have hts := tsize_at hlt
  have lt_kb := hE.lt hkb
  have hmm := smallsT_step hlt
  refine rR 5 hf rfl ?_
  clear hf a; intro a hf
  refine rV hf rfl (ex_ltI (c := true) hf rfl rfl (by simp; omega)) ?_
  clear hf a; intro a hf
  refine rR 10 hf rfl ?_
  clear hf a; intro a hf
  refine rV hf rfl (ex_loadB hf rfl (by kernel_rfl) hB1 rfl) ?_
  clear hf a; intro a hf
  refine rR 1 hf rfl ?_
  clear hf a; intro a hf
  refine rV hf rfl (ex_index (sz := 4) (k := i) (r := ko + i * 4) hf Try.underlying24 (by kernel_rfl) rfl rfl rfl hlt rfl) ?_
  clear hf a; intro a hf
  refine rV hf rfl (ex_loadN (cs := [d0, d1, d2, d3]) (m := 4) hf rfl (by kernel_rfl) rfl hK) ?_
  clear hf a; intro a hf
  rcases Bool.eq_false_or_eq_true (smallT ks[i]) with hbk | hbk
  refine rC hf rfl rfl (by kernel_rfl) (bool_is (ih _ _ _ _ _ _ _ (by omega) (by omega) hT) hbk) ?_
  rintro _ w26 ⟨rfl, hx25⟩
  refine ⟨_, rfl, ?_⟩
  clear hf a; intro a hf
  replace hB1 := hB1.c0 hx25
  replace hT := hT.t0 hx25
  replace hK := fun j hj => (hx25.cell lt_kb nm0).trans (hK j hj)
  replace lt_kb := hx25.lt lt_kb
  replace hE := hE.t0 hx25
  refine rR 9 hf rfl ?_
  clear hf a; intro a hf
  refine rV hf rfl (ex_addI hf rfl rfl rfl (by omega)) ?_
  clear hf a; intro a hf
  refine rR 2 hf rfl ?_
  clear hf a; intro a hf
  exact rX ⟨_, (by omega : ks.length - (i + 1) < ks.length - i), i + 1, hf.pick ⟨rfl, rfl, rfl, trivial⟩, hE, hB1, by omega, rfl, by rw [← hm, hmm, hbk]; rfl⟩
  refine rC hf rfl rfl (by kernel_rfl) (bool_is (ih _ _ _ _ _ _ _ (by omega) (by omega) hT) hbk) ?_
  rintro _ w27 ⟨rfl, hx25⟩
  refine ⟨_, rfl, ?_⟩
  clear hf a; intro a hf
  replace hB1 := hB1.c0 hx25
  replace hT := hT.t0 hx25
  replace hK := fun j hj => (hx25.cell lt_kb nm0).trans (hK j hj)
  replace lt_kb := hx25.lt lt_kb
  replace hE := hE.t0 hx25
  refine rR 12 hf rfl ?_
  clear hf a; intro a hf
  refine rOr ?_
  refine rR 2 hf rfl ?_
  clear hf a; intro a hf
  exact rT (rs := [.tmp 2]) hf rfl ⟨_, _, rfl, rfl, rfl⟩ ⟨ret_b (by rw [smallT, ← hm, hmm, hbk]; simp), hE⟩
  have hz : ks.drop i = [] := List.drop_of_length_le (by omega)
  rw [hz, smallsT] at hm
  refine rR 5 hf rfl ?_
  clear hf a; intro a hf
  refine rV hf rfl (ex_ltI (c := false) hf rfl rfl (by simp; omega)) ?_
  clear hf a; intro a hf
  refine rR 5 hf rfl ?_
  clear hf a; intro a hf
  refine rO ?_
  refine rR 8 hf rfl ?_
  clear hf a; intro a hf
  exact rT (rs := [.tmp 2]) hf rfl ⟨_, _, rfl, rfl, rfl⟩ ⟨ret_b (by rw [smallT, ← hm, hfew]; rfl), hE⟩
  clear hf a; intro h36 a hf
  refine rR 17 hf rfl ?_
  clear hf a; intro a hf
  have hfew : fewT k ks.length = true := by simp only [qA, qB, qC, qD, qE, qF, ne_eq, Int.not_lt, Int.not_le, Decidable.not_not] at h10 h13 h18 h27 h36; simp [fewT, h10, h13, h18, h27, h36] <;> omega
  refine rL (fun g a w' => ∃ i, Fr a 54 (fm [(1, .pointer (some ⟨b2, 0, none⟩)), (4, .int .i64 (i : Nat)), (3, .int .i64 (ks.length : Nat))]) ∧ Chg [] w w' ∧ Blk w' b2 26 [.int .i64 k, strV tx, .slice A ls.length m0, .slice B ks.length n] ∧ i ≤ ks.length ∧ g = ks.length - i ∧ smallsT (ks.drop i) = smallsT ks) _ ⟨0, hf.pick ⟨rfl, rfl, rfl, trivial⟩, hE, hB3, Nat.zero_le _, rfl, rfl⟩ ?_
  obtain ⟨b1, eb1⟩ : ∃ x, b2 = x := ⟨_, rfl⟩
  rw [eb1]
  have ge_b1 : w.heap.size ≤ b1 := eb1 ▸ ge_b2
  clear eb1 hf a
  intro g0 a w' hI
  obtain ⟨i, hf, hE, hB1, hi, rfl, hm⟩ := hI
  by_cases hlt : i < ks.length
  obtain ⟨kb, ko, rfl, _, hkb, hcell⟩ := hrow.2 (by omega)
  obtain ⟨d0, d1, d2, d3, hT, hK⟩ := kid_cells hkids hkb hcell hlt hE
  have on_T := hT.one
  have htt := kbulk_at hlt
  have hts := tsize_at hlt
  have lt_kb := hE.lt hkb
  have hmm := smallsT_step hlt
  refine rR 5 hf rfl ?_
  clear hf a; intro a hf
  refine rV hf rfl (ex_ltI (c := true) hf rfl rfl (by simp; omega)) ?_
  clear hf a; intro a hf
  refine rR 10 hf rfl ?_
  clear hf a; intro a hf
  refine rV hf rfl (ex_loadB hf rfl (by kernel_rfl) hB1 rfl) ?_
  clear hf a; intro a hf
  refine rR 1 hf rfl ?_
  clear hf a; intro a hf
  refine rV hf rfl (ex_index (sz := 4) (k := i) (r := ko + i * 4) hf Try.underlying24 (by kernel_rfl) rfl rfl rfl hlt rfl) ?_
  clear hf a; intro a hf
  refine rV hf rfl (ex_loadN (cs := [d0, d1, d2, d3]) (m := 4) hf rfl (by kernel_rfl) rfl hK) ?_
  clear hf a; intro a hf
  rcases Bool.eq_false_or_eq_true (smallT ks[i]) with hbk | hbk
  refine rC hf rfl rfl (by kernel_rfl) (bool_is (ih _ _ _ _ _ _ _ (by omega) (by omega) hT) hbk) ?_
  rintro _ w29 ⟨rfl, hx28⟩
  refine ⟨_, rfl, ?_⟩
  clear hf a; intro a hf
  replace hB1 := hB1.c0 hx28
  replace hT := hT.t0 hx28
  replace hK := fun j hj => (hx28.cell lt_kb nm0).trans (hK j hj)
  replace lt_kb := hx28.lt lt_kb
  replace hE := hE.t0 hx28
  refine rR 9 hf rfl ?_
  clear hf a; intro a hf
  refine rV hf rfl (ex_addI hf rfl rfl rfl (by omega)) ?_
  clear hf a; intro a hf
  refine rR 2 hf rfl ?_
  clear hf a; intro a hf
  exact rX ⟨_, (by omega : ks.length - (i + 1) < ks.length - i), i + 1, hf.pick ⟨rfl, rfl, rfl, trivial⟩, hE, hB1, by omega, rfl, by rw [← hm, hmm, hbk]; rfl⟩
  refine rC hf rfl rfl (by kernel_rfl) (bool_is (ih _ _ _ _ _ _ _ (by omega) (by omega) hT) hbk) ?_
  rintro _ w30 ⟨rfl, hx28⟩
  refine ⟨_, rfl, ?_⟩
  clear hf a; intro a hf
  replace hB1 := hB1.c0 hx28
  replace hT := hT.t0 hx28
  replace hK := fun j hj => (hx28.cell lt_kb nm0).trans (hK j hj)
  replace lt_kb := hx28.lt lt_kb
  replace hE := hE.t0 hx28
  refine rR 12 hf rfl ?_
  clear hf a; intro a hf
  refine rOr ?_
  refine rR 2 hf rfl ?_
  clear hf a; intro a hf
  exact rT (rs := [.tmp 2]) hf rfl ⟨_, _, rfl, rfl, rfl⟩ ⟨ret_b (by rw [smallT, ← hm, hmm, hbk]; simp), hE⟩
  have hz : ks.drop i = [] := List.drop_of_length_le (by omega)
  rw [hz, smallsT] at hm
  refine rR 5 hf rfl ?_
  clear hf a; intro a hf
  refine rV hf rfl (ex_ltI (c := false) hf rfl rfl (by simp; omega)) ?_
  clear hf a; intro a hf
  refine rR 5 hf rfl ?_
  clear hf a; intro a hf
  refine rO ?_
  refine rR 8 hf rfl ?_
  clear hf a; intro a hf
  exact rT (rs := [.tmp 2]) hf rfl ⟨_, _, rfl, rfl, rfl⟩ ⟨ret_b (by rw [smallT, ← hm, hfew]; rfl), hE⟩
  clear hf a; intro h10 a hf
  refine rR 6 hf rfl ?_
  clear hf a; intro a hf
  refine rV hf rfl (ex_loadB hf rfl (by kernel_rfl) hB3 rfl) ?_
  clear hf a; intro a hf
  refine rB hf rfl (fun c hc => ex_eqI hf rfl rfl hc) ?_ ?_
  clear hf a; intro h18 a hf
  refine rR 2 hf rfl ?_
  clear hf a; intro a hf
  refine rB hf rfl (fun c hc => ex_gtI hf rfl rfl hc) ?_ ?_
  clear hf a; intro h21 a hf
  refine rR 30 hf rfl ?_
  clear hf a; intro a hf
  exact rT (rs := [.tmp 2]) hf rfl ⟨_, _, rfl, rfl, rfl⟩ ⟨ret_b (by simp only [qA, qB, qC, qD, qE, qF, ne_eq, Int.not_lt, Int.not_le, Decidable.not_not] at h10 h18 h21; simp [smallT, fewT, h10, h18, h21] <;> omega), hE⟩
  clear hf a; intro h21 a hf
  refine rR 4 hf rfl ?_
  clear hf a; intro a hf
  refine rV hf rfl (ex_loadB hf rfl (by kernel_rfl) hB3 rfl) ?_
  clear hf a; intro a hf
  refine rB hf rfl (fun c hc => ex_eqI hf rfl rfl hc) ?_ ?_
  clear hf a; intro h27 a hf
  refine rR 2 hf rfl ?_
  clear hf a; intro a hf
  refine rB hf rfl (fun c hc => ex_gtI hf rfl rfl hc) ?_ ?_
  clear hf a; intro h30 a hf
  refine rR 21 hf rfl ?_
  clear hf a; intro a hf
  exact rT (rs := [.tmp 2]) hf rfl ⟨_, _, rfl, rfl, rfl⟩ ⟨ret_b (by simp only [qA, qB, qC, qD, qE, qF, ne_eq, Int.not_lt, Int.not_le, Decidable.not_not] at h10 h18 h21 h27 h30; simp [smallT, fewT, h10, h18, h21, h27, h30] <;> omega), hE⟩
  clear hf a; intro h30 a hf
  refine rR 4 hf rfl ?_
  clear hf a; intro a hf
  refine rV hf rfl (ex_loadB hf rfl (by kernel_rfl) hB3 rfl) ?_
  clear hf a; intro a hf
  refine rB hf rfl (fun c hc => ex_eqI hf rfl rfl hc) ?_ ?_
  clear hf a; intro h36 a hf
  refine rR 2 hf rfl ?_
  clear hf a; intro a hf
  refine rB hf rfl (fun c hc => ex_gtI hf rfl rfl hc) ?_ ?_
  clear hf a; intro h39 a hf
  refine rR 12 hf rfl ?_
  clear hf a; intro a hf
  exact rT (rs := [.tmp 2]) hf rfl ⟨_, _, rfl, rfl, rfl⟩ ⟨ret_b (by simp only [qA, qB, qC, qD, qE, qF, ne_eq, Int.not_lt, Int.not_le, Decidable.not_not] at h10 h18 h21 h27 h30 h36 h39; simp [smallT, fewT, h10, h18, h21, h27, h30, h36, h39] <;> omega), hE⟩
  clear hf a; intro h39 a hf
  refine rR 14 hf rfl ?_
  clear hf a; intro a hf
  have hfew : fewT k ks.length = true := by simp only [qA, qB, qC, qD, qE, qF, ne_eq, Int.not_lt, Int.not_le, Decidable.not_not] at h10 h18 h21 h27 h30 h36 h39; simp [fewT, h10, h18, h21, h27, h30, h36, h39] <;> omega
  refine rL (fun g a w' => ∃ i, Fr a 54 (fm [(1, .pointer (some ⟨b2, 0, none⟩)), (4, .int .i64 (i : Nat)), (3, .int .i64 (ks.length : Nat))]) ∧ Chg [] w w' ∧ Blk w' b2 26 [.int .i64 k, strV tx, .slice A ls.length m0, .slice B ks.length n] ∧ i ≤ ks.length ∧ g = ks.length - i ∧ smallsT (ks.drop i) = smallsT ks) _ ⟨0, hf.pick ⟨rfl, rfl, rfl, trivial⟩, hE, hB3, Nat.zero_le _, rfl, rfl⟩ ?_
  obtain ⟨b1, eb1⟩ : ∃ x, b2 = x := ⟨_, rfl⟩
  rw [eb1]
  have ge_b1 : w.heap.size ≤ b1 := eb1 ▸ ge_b2
  clear eb1 hf a
  intro g0 a w' hI
  obtain ⟨i, hf, hE, hB1, hi, rfl, hm⟩ := hI
  by_cases hlt : i < ks.length
  obtain ⟨kb, ko, rfl, _, hkb, hcell⟩ := hrow.2 (by omega)
  obtain ⟨d0, d1, d2, d3, hT, hK⟩ := kid_cells hkids hkb hcell hlt hE
  have on_T := hT.one
  have htt := kbulk_at hlt
  have hts := tsize_at hlt
  have lt_kb := hE.lt hkb
  have hmm := smallsT_step hlt
  refine rR 5 hf rfl ?_
  clear hf a; intro a hf
  refine rV hf rfl (ex_ltI (c := true) hf rfl rfl (by simp; omega)) ?_
  clear hf a; intro a hf
  refine rR 10 hf rfl ?_
  clear hf a; intro a hf
  refine rV hf rfl (ex_loadB hf rfl (by kernel_rfl) hB1 rfl) ?_
  clear hf a; intro a hf
  refine rR 1 hf rfl ?_
  clear hf a; intro a hf
  refine rV hf rfl (ex_index (sz := 4) (k := i) (r := ko + i * 4) hf Try.underlying24 (by kernel_rfl) rfl rfl rfl hlt rfl) ?_
  clear hf a; intro a hf
  refine rV hf rfl (ex_loadN (cs := [d0, d1, d2, d3]) (m := 4) hf rfl (by kernel_rfl) rfl hK) ?_
  clear hf a; intro a hf
  rcases Bool.eq_false_or_eq_true (smallT ks[i]) with hbk | hbk
  refine rC hf rfl rfl (by kernel_rfl) (bool_is (ih _ _ _ _ _ _ _ (by omega) (by omega) hT) hbk) ?_
  rintro _ w32 ⟨rfl, hx31⟩
  refine ⟨_, rfl, ?_⟩
  clear hf a; intro a hf
  replace hB1 := hB1.c0 hx31
  replace hT := hT.t0 hx31
  replace hK := fun j hj => (hx31.cell lt_kb nm0).trans (hK j hj)
  replace lt_kb := hx31.lt lt_kb
  replace hE := hE.t0 hx31
  refine rR 9 hf rfl ?_
  clear hf a; intro a hf
  refine rV hf rfl (ex_addI hf rfl rfl rfl (by omega)) ?_
  clear hf a; intro a hf
  refine rR 2 hf rfl ?_
  clear hf a; intro a hf
  exact rX ⟨_, (by omega : ks.length - (i + 1) < ks.length - i), i + 1, hf.pick ⟨rfl, rfl, rfl, trivial⟩, hE, hB1, by omega, rfl, by rw [← hm, hmm, hbk]; rfl⟩
  refine rC hf rfl rfl (by kernel_rfl) (bool_is (ih _ _ _ _ _ _ _ (by omega) (by omega) hT) hbk) ?_
  rintro _ w33 ⟨rfl, hx31⟩
  refine ⟨_, rfl, ?_⟩
  clear hf a; intro a hf
  replace hB1 := hB1.c0 hx31
  replace hT := hT.t0 hx31
  replace hK := fun j hj => (hx31.cell lt_kb nm0).trans (hK j hj)
  replace lt_kb := hx31.lt lt_kb
  replace hE := hE.t0 hx31
  refine rR 12 hf rfl ?_
  clear hf a; intro a hf
  refine rOr ?_
  refine rR 2 hf rfl ?_
  clear hf a; intro a hf
  exact rT (rs := [.tmp 2]) hf rfl ⟨_, _, rfl, rfl, rfl⟩ ⟨ret_b (by rw [smallT, ← hm, hmm, hbk]; simp), hE⟩
  have hz : ks.drop i = [] := List.drop_of_length_le (by omega)
  rw [hz, smallsT] at hm
  refine rR 5 hf rfl ?_
  clear hf a; intro a hf
  refine rV hf rfl (ex_ltI (c := false) hf rfl rfl (by simp; omega)) ?_
  clear hf a; intro a hf
  refine rR 5 hf rfl ?_
  clear hf a; intro a hf
  refine rO ?_
  refine rR 8 hf rfl ?_
  clear hf a; intro a hf
  exact rT (rs := [.tmp 2]) hf rfl ⟨_, _, rfl, rfl, rfl⟩ ⟨ret_b (by rw [smallT, ← hm, hfew]; rfl), hE⟩
  clear hf a; intro h36 a hf
  refine rR 17 hf rfl ?_
  clear hf a; intro a hf
  have hfew : fewT k ks.length = true := by simp only [qA, qB, qC, qD, qE, qF, ne_eq, Int.not_lt, Int.not_le, Decidable.not_not] at h10 h18 h21 h27 h30 h36; simp [fewT, h10, h18, h21, h27, h30, h36] <;> omega
  refine rL (fun g a w' => ∃ i, Fr a 54 (fm [(1, .pointer (some ⟨b2, 0, none⟩)), (4, .int .i64 (i : Nat)), (3, .int .i64 (ks.length : Nat))]) ∧ Chg [] w w' ∧ Blk w' b2 26 [.int .i64 k, strV tx, .slice A ls.length m0, .slice B ks.length n] ∧ i ≤ ks.length ∧ g = ks.length - i ∧ smallsT (ks.drop i) = smallsT ks) _ ⟨0, hf.pick ⟨rfl, rfl, rfl, trivial⟩, hE, hB3, Nat.zero_le _, rfl, rfl⟩ ?_
  obtain ⟨b1, eb1⟩ : ∃ x, b2 = x := ⟨_, rfl⟩
  rw [eb1]
  have ge_b1 : w.heap.size ≤ b1 := eb1 ▸ ge_b2
  clear eb1 hf a
  intro g0 a w' hI
  obtain ⟨i, hf, hE, hB1, hi, rfl, hm⟩ := hI
  by_cases hlt : i < ks.length
  obtain ⟨kb, ko, rfl, _, hkb, hcell⟩ := hrow.2 (by omega)
  obtain ⟨d0, d1, d2, d3, hT, hK⟩ := kid_cells hkids hkb hcell hlt hE
  have on_T := hT.one
  have htt := kbulk_at hlt
  have hts := tsize_at hlt
  have lt_kb := hE.lt hkb
  have hmm := smallsT_step hlt
  refine rR 5 hf rfl ?_
  clear hf a; intro a hf
  refine rV hf rfl (ex_ltI (c := true) hf rfl rfl (by simp; omega)) ?_
  clear hf a; intro a hf
  refine rR 10 hf rfl ?_
  clear hf a; intro a hf
  refine rV hf rfl (ex_loadB hf rfl (by kernel_rfl) hB1 rfl) ?_
  clear hf a; intro a hf
  refine rR 1 hf rfl ?_
  clear hf a; intro a hf
  refine rV hf rfl (ex_index (sz := 4) (k := i) (r := ko + i * 4) hf Try.underlying24 (by kernel_rfl) rfl rfl rfl hlt rfl) ?_
  clear hf a; intro a hf
  refine rV hf rfl (ex_loadN (cs := [d0, d1, d2, d3]) (m := 4) hf rfl (by kernel_rfl) rfl hK) ?_
  clear hf a; intro a hf
  rcases Bool.eq_false_or_eq_true (smallT ks[i]) with hbk | hbk
  refine rC hf rfl rfl (by kernel_rfl) (bool_is (ih _ _ _ _ _ _ _ (by omega) (by omega) hT) hbk) ?_
  rintro _ w35 ⟨rfl, hx34⟩
  refine ⟨_, rfl, ?_⟩
  clear hf a; intro a hf
  replace hB1 := hB1.c0 hx34
  replace hT := hT.t0 hx34
  replace hK := fun j hj => (hx34.cell lt_kb nm0).trans (hK j hj)
  replace lt_kb := hx34.lt lt_kb
  replace hE := hE.t0 hx34
  refine rR 9 hf rfl ?_
  clear hf a; intro a hf
  refine rV hf rfl (ex_addI hf rfl rfl rfl (by omega)) ?_
  clear hf a; intro a hf
  refine rR 2 hf rfl ?_
  clear hf a; intro a hf
  exact rX ⟨_, (by omega : ks.length - (i + 1) < ks.length - i), i + 1, hf.pick ⟨rfl, rfl, rfl, trivial⟩, hE, hB1, by omega, rfl, by rw [← hm, hmm, hbk]; rfl⟩
  refine rC hf rfl rfl (by kernel_rfl) (bool_is (ih _ _ _ _ _ _ _ (by omega) (by omega) hT) hbk) ?_
  rintro _ w36 ⟨rfl, hx34⟩
  refine ⟨_, rfl, ?_⟩
  clear hf a; intro a hf
  replace hB1 := hB1.c0 hx34
  replace hT := hT.t0 hx34
  replace hK := fun j hj => (hx34.cell lt_kb nm0).trans (hK j hj)
  replace lt_kb := hx34.lt lt_kb
  replace hE := hE.t0 hx34
  refine rR 12 hf rfl ?_
  clear hf a; intro a hf
  refine rOr ?_
  refine rR 2 hf rfl ?_
  clear hf a; intro a hf
  exact rT (rs := [.tmp 2]) hf rfl ⟨_, _, rfl, rfl, rfl⟩ ⟨ret_b (by rw [smallT, ← hm, hmm, hbk]; simp), hE⟩
  have hz : ks.drop i = [] := List.drop_of_length_le (by omega)
  rw [hz, smallsT] at hm
  refine rR 5 hf rfl ?_
  clear hf a; intro a hf
  refine rV hf rfl (ex_ltI (c := false) hf rfl rfl (by simp; omega)) ?_
  clear hf a; intro a hf
  refine rR 5 hf rfl ?_
  clear hf a; intro a hf
  refine rO ?_
  refine rR 8 hf rfl ?_
  clear hf a; intro a hf
  exact rT (rs := [.tmp 2]) hf rfl ⟨_, _, rfl, rfl, rfl⟩ ⟨ret_b (by rw [smallT, ← hm, hfew]; rfl), hE⟩
  clear hf a; intro h27 a hf
  refine rR 7 hf rfl ?_
  clear hf a; intro a hf
  refine rV hf rfl (ex_loadB hf rfl (by kernel_rfl) hB3 rfl) ?_
  clear hf a; intro a hf
  refine rB hf rfl (fun c hc => ex_eqI hf rfl rfl hc) ?_ ?_
  clear hf a; intro h36 a hf
  refine rR 2 hf rfl ?_
  clear hf a; intro a hf
  refine rB hf rfl (fun c hc => ex_gtI hf rfl rfl hc) ?_ ?_
  clear hf a; intro h39 a hf
  refine rR 12 hf rfl ?_
  clear hf a; intro a hf
  exact rT (rs := [.tmp 2]) hf rfl ⟨_, _, rfl, rfl, rfl⟩ ⟨ret_b (by simp only [qA, qB, qC, qD, qE, qF, ne_eq, Int.not_lt, Int.not_le, Decidable.not_not] at h10 h18 h21 h27 h36 h39; simp [smallT, fewT, h10, h18, h21, h27, h36, h39] <;> omega), hE⟩
  clear hf a; intro h39 a hf
  refine rR 14 hf rfl ?_
  clear hf a; intro a hf
  have hfew : fewT k ks.length = true := by simp only [qA, qB, qC, qD, qE, qF, ne_eq, Int.not_lt, Int.not_le, Decidable.not_not] at h10 h18 h21 h27 h36 h39; simp [fewT, h10, h18, h21, h27, h36, h39] <;> omega
  refine rL (fun g a w' => ∃ i, Fr a 54 (fm [(1, .pointer (some ⟨b2, 0, none⟩)), (4, .int .i64 (i : Nat)), (3, .int .i64 (ks.length : Nat))]) ∧ Chg [] w w' ∧ Blk w' b2 26 [.int .i64 k, strV tx, .slice A ls.length m0, .slice B ks.length n] ∧ i ≤ ks.length ∧ g = ks.length - i ∧ smallsT (ks.drop i) = smallsT ks) _ ⟨0, hf.pick ⟨rfl, rfl, rfl, trivial⟩, hE, hB3, Nat.zero_le _, rfl, rfl⟩ ?_
  obtain ⟨b1, eb1⟩ : ∃ x, b2 = x := ⟨_, rfl⟩
  rw [eb1]
  have ge_b1 : w.heap.size ≤ b1 := eb1 ▸ ge_b2
  clear eb1 hf a
  intro g0 a w' hI
  obtain ⟨i, hf, hE, hB1, hi, rfl, hm⟩ := hI
  by_cases hlt : i < ks.length
  obtain ⟨kb, ko, rfl, _, hkb, hcell⟩ := hrow.2 (by omega)
  obtain ⟨d0, d1, d2, d3, hT, hK⟩ := kid_cells hkids hkb hcell hlt hE
  have on_T := hT.one
  have htt := kbulk_at hlt
  have hts := tsize_at hlt
  have lt_kb := hE.lt hkb
  have hmm := smallsT_step hlt
  refine rR 5 hf rfl ?_
  clear hf a; intro a hf
  refine rV hf rfl (ex_ltI (c := true) hf rfl rfl (by simp; omega)) ?_
  clear hf a; intro a hf
  refine rR 10 hf rfl ?_
  clear hf a; intro a hf
  refine rV hf rfl (ex_loadB hf rfl (by kernel_rfl) hB1 rfl) ?_
  clear hf a; intro a hf
  refine rR 1 hf rfl ?_
  clear hf a; intro a hf
  refine rV hf rfl (ex_index (sz := 4) (k := i) (r := ko + i * 4) hf Try.underlying24 (by kernel_rfl) rfl rfl rfl hlt rfl) ?_
  clear hf a; intro a hf
  refine rV hf rfl (ex_loadN (cs := [d0, d1, d2, d3]) (m := 4) hf rfl (by kernel_rfl) rfl hK) ?_
  clear hf a; intro a hf
  rcases Bool.eq_false_or_eq_true (smallT ks[i]) with hbk | hbk
  refine rC hf rfl rfl (by kernel_rfl) (bool_is (ih _ _ _ _ _ _ _ (by omega) (by omega) hT) hbk) ?_
  rintro _ w38 ⟨rfl, hx37⟩
  refine ⟨_, rfl, ?_⟩
  clear hf a; intro a hf
  replace hB1 := hB1.c0 hx37
  replace hT := hT.t0 hx37
  replace hK := fun j hj => (hx37.cell lt_kb nm0).trans (hK j hj)
  replace lt_kb := hx37.lt lt_kb
  replace hE := hE.t0 hx37
  refine rR 9 hf rfl ?_
  clear hf a; intro a hf
  refine rV hf rfl (ex_addI hf rfl rfl rfl (by omega)) ?_
  clear hf a; intro a hf
  refine rR 2 hf rfl ?_
  clear hf a; intro a hf
  exact rX ⟨_, (by omega : ks.length - (i + 1) < ks.length - i), i + 1, hf.pick ⟨rfl, rfl, rfl, trivial⟩, hE, hB1, by omega, rfl, by rw [← hm, hmm, hbk]; rfl⟩
  refine rC hf rfl rfl (by kernel_rfl) (bool_is (ih _ _ _ _ _ _ _ (by omega) (by omega) hT) hbk) ?_
  rintro _ w39 ⟨rfl, hx37⟩
  refine ⟨_, rfl, ?_⟩
  clear hf a; intro a hf
  replace hB1 := hB1.c0 hx37
  replace hT := hT.t0 hx37
  replace hK := fun j hj => (hx37.cell lt_kb nm0).trans (hK j hj)
  replace lt_kb := hx37.lt lt_kb
  replace hE := hE.t0 hx37
  refine rR 12 hf rfl ?_
  clear hf a; intro a hf
  refine rOr ?_
  refine rR 2 hf rfl ?_
  clear hf a; intro a hf
  exact rT (rs := [.tmp 2]) hf rfl ⟨_, _, rfl, rfl, rfl⟩ ⟨ret_b (by rw [smallT, ← hm, hmm, hbk]; simp), hE⟩
  have hz : ks.drop i = [] := List.drop_of_length_le (by omega)
  rw [hz, smallsT] at hm
  refine rR 5 hf rfl ?_
  clear hf a; intro a hf
  refine rV hf rfl (ex_ltI (c := false) hf rfl rfl (by simp; omega)) ?_
  clear hf a; intro a hf
  refine rR 5 hf rfl ?_
  clear hf a; intro a hf
  refine rO ?_
  refine rR 8 hf rfl ?_
  clear hf a; intro a hf
  exact rT (rs := [.tmp 2]) hf rfl ⟨_, _, rfl, rfl, rfl⟩ ⟨ret_b (by rw [smallT, ← hm, hfew]; rfl), hE⟩
  clear hf a; intro h36 a hf
  refine rR 17 hf rfl ?_
  clear hf a; intro a hf
  have hfew : fewT k ks.length = true := by simp only [qA, qB, qC, qD, qE, qF, ne_eq, Int.not_lt, Int.not_le, Decidable.not_not] at h10 h18 h21 h27 h36; simp [fewT, h10, h18, h21, h27, h36] <;> omega
  refine rL (fun g a w' => ∃ i, Fr a 54 (fm [(1, .pointer (some ⟨b2, 0, none⟩)), (4, .int .i64 (i : Nat)), (3, .int .i64 (ks.length : Nat))]) ∧ Chg [] w w' ∧ Blk w' b2 26 [.int .i64 k, strV tx, .slice A ls.length m0, .slice B ks.length n] ∧ i ≤ ks.length ∧ g = ks.length - i ∧ smallsT (ks.drop i) = smallsT ks) _ ⟨0, hf.pick ⟨rfl, rfl, rfl, trivial⟩, hE, hB3, Nat.zero_le _, rfl, rfl⟩ ?_
  obtain ⟨b1, eb1⟩ : ∃ x, b2 = x := ⟨_, rfl⟩
  rw [eb1]
  have ge_b1 : w.heap.size ≤ b1 := eb1 ▸ ge_b2
  clear eb1 hf a
  intro g0 a w' hI
  obtain ⟨i, hf, hE, hB1, hi, rfl, hm⟩ := hI
  by_cases hlt : i < ks.length
  obtain ⟨kb, ko, rfl, _, hkb, hcell⟩ := hrow.2 (by omega)
  obtain ⟨d0, d1, d2, d3, hT, hK⟩ := kid_cells hkids hkb hcell hlt hE
  have on_T := hT.one
  have htt := kbulk_at hlt
  have hts := tsize_at hlt
  have lt_kb := hE.lt hkb
  have hmm := smallsT_step hlt
  refine rR 5 hf rfl ?_
  clear hf a; intro a hf
  refine rV hf rfl (ex_ltI (c := true) hf rfl rfl (by simp; omega)) ?_
  clear hf a; intro a hf
  refine rR 10 hf rfl ?_
  clear hf a; intro a hf
  refine rV hf rfl (ex_loadB hf rfl (by kernel_rfl) hB1 rfl) ?_
  clear hf a; intro a hf
  refine rR 1 hf rfl ?_
  clear hf a; intro a hf
  refine rV hf rfl (ex_index (sz := 4) (k := i) (r := ko + i * 4) hf Try.underlying24 (by kernel_rfl) rfl rfl rfl hlt rfl) ?_
  clear hf a; intro a hf
  refine rV hf rfl (ex_loadN (cs := [d0, d1, d2, d3]) (m := 4) hf rfl (by kernel_rfl) rfl hK) ?_
  clear hf a; intro a hf
  rcases Bool.eq_false_or_eq_true (smallT ks[i]) with hbk | hbk
  refine rC hf rfl rfl (by kernel_rfl) (bool_is (ih _ _ _ _ _ _ _ (by omega) (by omega) hT) hbk) ?_
  rintro _ w41 ⟨rfl, hx40⟩
  refine ⟨_, rfl, ?_⟩
  clear hf a; intro a hf
  replace hB1 := hB1.c0 hx40
  replace hT := hT.t0 hx40
  replace hK := fun j hj => (hx40.cell lt_kb nm0).trans (hK j hj)
  replace lt_kb := hx40.lt lt_kb
  replace hE := hE.t0 hx40
  refine rR 9 hf rfl ?_
  clear hf a; intro a hf
  refine rV hf rfl (ex_addI hf rfl rfl rfl (by omega)) ?_
  clear hf a; intro a hf
  refine rR 2 hf rfl ?_
  clear hf a; intro a hf
  exact rX ⟨_, (by omega : ks.length - (i + 1) < ks.length - i), i + 1, hf.pick ⟨rfl, rfl, rfl, trivial⟩, hE, hB1, by omega, rfl, by rw [← hm, hmm, hbk]; rfl⟩
  refine rC hf rfl rfl (by kernel_rfl) (bool_is (ih _ _ _ _ _ _ _ (by omega) (by omega) hT) hbk) ?_
  rintro _ w42 ⟨rfl, hx40⟩
  refine ⟨_, rfl, ?_⟩
  clear hf a; intro a hf
  replace hB1 := hB1.c0 hx40
  replace hT := hT.t0 hx40
  replace hK := fun j hj => (hx40.cell lt_kb nm0).trans (hK j hj)
  replace lt_kb := hx40.lt lt_kb
  replace hE := hE.t0 hx40
  refine rR 12 hf rfl ?_
  clear hf a; intro a hf
  refine rOr ?_
  refine rR 2 hf rfl ?_
  clear hf a; intro a hf
  exact rT (rs := [.tmp 2]) hf rfl ⟨_, _, rfl, rfl, rfl⟩ ⟨ret_b (by rw [smallT, ← hm, hmm, hbk]; simp), hE⟩
  have hz : ks.drop i = [] := List.drop_of_length_le (by omega)
  rw [hz, smallsT] at hm
  refine rR 5 hf rfl ?_
  clear hf a; intro a hf
  refine rV hf rfl (ex_ltI (c := false) hf rfl rfl (by simp; omega)) ?_
  clear hf a; intro a hf
  refine rR 5 hf rfl ?_
  clear hf a; intro a hf
  refine rO ?_
  refine rR 8 hf rfl ?_
  clear hf a; intro a hf
  exact rT (rs := [.tmp 2]) hf rfl ⟨_, _, rfl, rfl, rfl⟩ ⟨ret_b (by rw [smallT, ← hm, hfew]; rfl), hE⟩
  clear hf a; intro h18 a hf
  refine rR 7 hf rfl ?_
  clear hf a; intro a hf
  refine rV hf rfl (ex_loadB hf rfl (by kernel_rfl) hB3 rfl) ?_
  clear hf a; intro a hf
  refine rB hf rfl (fun c hc => ex_eqI hf rfl rfl hc) ?_ ?_
  clear hf a; intro h27 a hf
  refine rR 2 hf rfl ?_
  clear hf a; intro a hf
  refine rB hf rfl (fun c hc => ex_gtI hf rfl rfl hc) ?_ ?_
  clear hf a; intro h30 a hf
  refine rR 21 hf rfl ?_
  clear hf a; intro a hf
  exact rT (rs := [.tmp 2]) hf rfl ⟨_, _, rfl, rfl, rfl⟩ ⟨ret_b (by simp only [qA, qB, qC, qD, qE, qF, ne_eq, Int.not_lt, Int.not_le, Decidable.not_not] at h10 h18 h27 h30; simp [smallT, fewT, h10, h18, h27, h30] <;> omega), hE⟩
  clear hf a; intro h30 a hf
  refine rR 4 hf rfl ?_
  clear hf a; intro a hf
  refine rV hf rfl (ex_loadB hf rfl (by kernel_rfl) hB3 rfl) ?_
  clear hf a; intro a hf
  refine rB hf rfl (fun c hc => ex_eqI hf rfl rfl hc) ?_ ?_
  clear hf a; intro h36 a hf
  refine rR 2 hf rfl ?_
  clear hf a; intro a hf
  refine rB hf rfl (fun c hc => ex_gtI hf rfl rfl hc) ?_ ?_
  clear hf a; intro h39 a hf
  refine rR 12 hf rfl ?_
  clear hf a; intro a hf
  exact rT (rs := [.tmp 2]) hf rfl ⟨_, _, rfl, rfl, rfl⟩ ⟨ret_b (by simp only [qA, qB, qC, qD, qE, qF, ne_eq, Int.not_lt, Int.not_le, Decidable.not_not] at h10 h18 h27 h30 h36 h39; simp [smallT, fewT, h10, h18, h27, h30, h36, h39] <;> omega), hE⟩
  clear hf a; intro h39 a hf
  refine rR 14 hf rfl ?_
  clear hf a; intro a hf
  have hfew : fewT k ks.length = true := by simp only [qA, qB, qC, qD, qE, qF, ne_eq, Int.not_lt, Int.not_le, Decidable.not_not] at h10 h18 h27 h30 h36 h39; simp [fewT, h10, h18, h27, h30, h36, h39] <;> omega
  refine rL (fun g a w' => ∃ i, Fr a 54 (fm [(1, .pointer (some ⟨b2, 0, none⟩)), (4, .int .i64 (i : Nat)), (3, .int .i64 (ks.length : Nat))]) ∧ Chg [] w w' ∧ Blk w' b2 26 [.int .i64 k, strV tx, .slice A ls.length m0, .slice B ks.length n] ∧ i ≤ ks.length ∧ g = ks.length - i ∧ smallsT (ks.drop i) = smallsT ks) _ ⟨0, hf.pick ⟨rfl, rfl, rfl, trivial⟩, hE, hB3, Nat.zero_le _, rfl, rfl⟩ ?_
  obtain ⟨b1, eb1⟩ : ∃ x, b2 = x := ⟨_, rfl⟩
  rw [eb1]
  have ge_b1 : w.heap.size ≤ b1 := eb1 ▸ ge_b2
  clear eb1 hf a
  intro g0 a w' hI
  obtain ⟨i, hf, hE, hB1, hi, rfl, hm⟩ := hI
  by_cases hlt : i < ks.length
  obtain ⟨kb, ko, rfl, _, hkb, hcell⟩ := hrow.2 (by omega)
  obtain ⟨d0, d1, d2, d3, hT, hK⟩ := kid_cells hkids hkb hcell hlt hE
  have on_T := hT.one
  have htt := kbulk_at hlt
  have hts := tsize_at hlt
  have lt_kb := hE.lt hkb
  have hmm := smallsT_step hlt
  refine rR 5 hf rfl ?_
  clear hf a; intro a hf
  refine rV hf rfl (ex_ltI (c := true) hf rfl rfl (by simp; omega)) ?_
  clear hf a; intro a hf
  refine rR 10 hf rfl ?_
  clear hf a; intro a hf
  refine rV hf rfl (ex_loadB hf rfl (by kernel_rfl) hB1 rfl) ?_
  clear hf a; intro a hf
  refine rR 1 hf rfl ?_
  clear hf a; intro a hf
  refine rV hf rfl (ex_index (sz := 4) (k := i) (r := ko + i * 4) hf Try.underlying24 (by kernel_rfl) rfl rfl rfl hlt rfl) ?_
  clear hf a; intro a hf
  refine rV hf rfl (ex_loadN (cs := [d0, d1, d2, d3]) (m := 4) hf rfl (by kernel_rfl) rfl hK) ?_
  clear hf a; intro a hf
  rcases Bool.eq_false_or_eq_true (smallT ks[i]) with hbk | hbk
  refine rC hf rfl rfl (by kernel_rfl) (bool_is (ih _ _ _ _ _ _ _ (by omega) (by omega) hT) hbk) ?_
  rintro _ w44 ⟨rfl, hx43⟩
  refine ⟨_, rfl, ?_⟩
  clear hf a; intro a hf
  replace hB1 := hB1.c0 hx43
  replace hT := hT.t0 hx43
  replace hK := fun j hj => (hx43.cell lt_kb nm0).trans (hK j hj)
  replace lt_kb := hx43.lt lt_kb
  replace hE := hE.t0 hx43
  refine rR 9 hf rfl ?_
  clear hf a; intro a hf
  refine rV hf rfl (ex_addI hf rfl rfl rfl (by omega)) ?_
  clear hf a; intro a hf
  refine rR 2 hf rfl ?_
  clear hf a; intro a hf
  exact rX ⟨_, (by omega : ks.length - (i + 1) < ks.length - i), i + 1, hf.pick ⟨rfl, rfl, rfl, trivial⟩, hE, hB1, by omega, rfl, by rw [← hm, hmm, hbk]; rfl⟩
  refine rC hf rfl rfl (by kernel_rfl) (bool_is (ih _ _ _ _ _ _ _ (by omega) (by omega) hT) hbk) ?_
  rintro _ w45 ⟨rfl, hx43⟩
  refine ⟨_, rfl, ?_⟩
  clear hf a; intro a hf
  replace hB1 := hB1.c0 hx43
  replace hT := hT.t0 hx43
  replace hK := fun j hj => (hx43.cell lt_kb nm0).trans (hK j hj)
  replace lt_kb := hx43.lt lt_kb
  replace hE := hE.t0 hx43
  refine rR 12 hf rfl ?_
  clear hf a; intro a hf
  refine rOr ?_
  refine rR 2 hf rfl ?_
  clear hf a; intro a hf
  exact rT (rs := [.tmp 2]) hf rfl ⟨_, _, rfl, rfl, rfl⟩ ⟨ret_b (by rw [smallT, ← hm, hmm, hbk]; simp), hE⟩
  have hz : ks.drop i = [] := List.drop_of_length_le (by omega)
  rw [hz, smallsT] at hm
  refine rR 5 hf rfl ?_
  clear hf a; intro a hf
  refine rV hf rfl (ex_ltI (c := false) hf rfl rfl (by simp; omega)) ?_
  clear hf a; intro a hf
  refine rR 5 hf rfl ?_
  clear hf a; intro a hf
  refine rO ?_
  refine rR 8 hf rfl ?_
  clear hf a; intro a hf
  exact rT (rs := [.tmp 2]) hf rfl ⟨_, _, rfl, rfl, rfl⟩ ⟨ret_b (by rw [smallT, ← hm, hfew]; rfl), hE⟩
  clear hf a; intro h36 a hf
  refine rR 17 hf rfl ?_
  clear hf a; intro a hf
  have hfew : fewT k ks.length = true := by simp only [qA, qB, qC, qD, qE, qF, ne_eq, Int.not_lt, Int.not_le, Decidable.not_not] at h10 h18 h27 h30 h36; simp [fewT, h10, h18, h27, h30, h36] <;> omega
  refine rL (fun g a w' => ∃ i, Fr a 54 (fm [(1, .pointer (some ⟨b2, 0, none⟩)), (4, .int .i64 (i : Nat)), (3, .int .i64 (ks.length : Nat))]) ∧ Chg [] w w' ∧ Blk w' b2 26 [.int .i64 k, strV tx, .slice A ls.length m0, .slice B ks.length n] ∧ i ≤ ks.length ∧ g = ks.length - i ∧ smallsT (ks.drop i) = smallsT ks) _ ⟨0, hf.pick ⟨rfl, rfl, rfl, trivial⟩, hE, hB3, Nat.zero_le _, rfl, rfl⟩ ?_
  obtain ⟨b1, eb1⟩ : ∃ x, b2 = x := ⟨_, rfl⟩
  rw [eb1]
  have ge_b1 : w.heap.size ≤ b1 := eb1 ▸ ge_b2
  clear eb1 hf a
  intro g0 a w' hI
  obtain ⟨i, hf, hE, hB1, hi, rfl, hm⟩ := hI
  by_cases hlt : i < ks.length
  obtain ⟨kb, ko, rfl, _, hkb, hcell⟩ := hrow.2 (by omega)
  obtain ⟨d0, d1, d2, d3, hT, hK⟩ := kid_cells hkids hkb hcell hlt hE
  have on_T := hT.one
  have htt := kbulk_at hlt
  have hts := tsize_at hlt
  have lt_kb := hE.lt hkb
  have hmm := smallsT_step hlt
  refine rR 5 hf rfl ?_
  clear hf a; intro a hf
  refine rV hf rfl (ex_ltI (c := true) hf rfl rfl (by simp; omega)) ?_
  clear hf a; intro a hf
  refine rR 10 hf rfl ?_
  clear hf a; intro a hf
  refine rV hf rfl (ex_loadB hf rfl (by kernel_rfl) hB1 rfl) ?_
  clear hf a; intro a hf
  refine rR 1 hf rfl ?_
  clear hf a; intro a hf
  refine rV hf rfl (ex_index (sz := 4) (k := i) (r := ko + i * 4) hf Try.underlying24 (by kernel_rfl) rfl rfl rfl hlt rfl) ?_
  clear hf a; intro a hf
  refine rV hf rfl (ex_loadN (cs := [d0, d1, d2, d3]) (m := 4) hf rfl (by kernel_rfl) rfl hK) ?_
  clear hf a; intro a hf
  rcases Bool.eq_false_or_eq_true (smallT ks[i]) with hbk | hbk
  refine rC hf rfl rfl (by kernel_rfl) (bool_is (ih _ _ _ _ _ _ _ (by omega) (by omega) hT) hbk) ?_
  rintro _ w47 ⟨rfl, hx46⟩
  refine ⟨_, rfl, ?_⟩
  clear hf a; intro a hf
  replace hB1 := hB1.c0 hx46
  replace hT := hT.t0 hx46
  replace hK := fun j hj => (hx46.cell lt_kb nm0).trans (hK j hj)
  replace lt_kb := hx46.lt lt_kb
  replace hE := hE.t0 hx46
  refine rR 9 hf rfl ?_
  clear hf a; intro a hf
  refine rV hf rfl (ex_addI hf rfl rfl rfl (by omega)) ?_
  clear hf a; intro a hf
  refine rR 2 hf rfl ?_
  clear hf a; intro a hf
  exact rX ⟨_, (by omega : ks.length - (i + 1) < ks.length - i), i + 1, hf.pick ⟨rfl, rfl, rfl, trivial⟩, hE, hB1, by omega, rfl, by rw [← hm, hmm, hbk]; rfl⟩
  refine rC hf rfl rfl (by kernel_rfl) (bool_is (ih _ _ _ _ _ _ _ (by omega) (by omega) hT) hbk) ?_
  rintro _ w48 ⟨rfl, hx46⟩
  refine ⟨_, rfl, ?_⟩
  clear hf a; intro a hf
  replace hB1 := hB1.c0 hx46
  replace hT := hT.t0 hx46
  replace hK := fun j hj => (hx46.cell lt_kb nm0).trans (hK j hj)
  replace lt_kb := hx46.lt lt_kb
  replace hE := hE.t0 hx46
  refine rR 12 hf rfl ?_
  clear hf a; intro a hf
  refine rOr ?_
  refine rR 2 hf rfl ?_
  clear hf a; intro a hf
  exact rT (rs := [.tmp 2]) hf rfl ⟨_, _, rfl, rfl, rfl⟩ ⟨ret_b (by rw [smallT, ← hm, hmm, hbk]; simp), hE⟩
  have hz : ks.drop i = [] := List.drop_of_length_le (by omega)
  rw [hz, smallsT] at hm
  refine rR 5 hf rfl ?_
  clear hf a; intro a hf
  refine rV hf rfl (ex_ltI (c := false) hf rfl rfl (by simp; omega)) ?_
  clear hf a; intro a hf
  refine rR 5 hf rfl ?_
  clear hf a; intro a hf
  refine rO ?_
  refine rR 8 hf rfl ?_
  clear hf a; intro a hf
  exact rT (rs := [.tmp 2]) hf rfl ⟨_, _, rfl, rfl, rfl⟩ ⟨ret_b (by rw [smallT, ← hm, hfew]; rfl), hE⟩
  clear hf a; intro h27 a hf
  refine rR 7 hf rfl ?_
  clear hf a; intro a hf
  refine rV hf rfl (ex_loadB hf rfl (by kernel_rfl) hB3 rfl) ?_
  clear hf a; intro a hf
  refine rB hf rfl (fun c hc => ex_eqI hf rfl rfl hc) ?_ ?_
  clear hf a; intro h36 a hf
  refine rR 2 hf rfl ?_
  clear hf a; intro a hf
  refine rB hf rfl (fun c hc => ex_gtI hf rfl rfl hc) ?_ ?_
  clear hf a; intro h39 a hf
  refine rR 12 hf rfl ?_
  clear hf a; intro a hf
  exact rT (rs := [.tmp 2]) hf rfl ⟨_, _, rfl, rfl, rfl⟩ ⟨ret_b (by simp only [qA, qB, qC, qD, qE, qF, ne_eq, Int.not_lt, Int.not_le, Decidable.not_not] at h10 h18 h27 h36 h39; simp [smallT, fewT, h10, h18, h27, h36, h39] <;> omega), hE⟩
  clear hf a; intro h39 a hf
  refine rR 14 hf rfl ?_
  clear hf a; intro a hf
  have hfew : fewT k ks.length = true := by simp only [qA, qB, qC, qD, qE, qF, ne_eq, Int.not_lt, Int.not_le, Decidable.not_not] at h10 h18 h27 h36 h39; simp [fewT, h10, h18, h27, h36, h39] <;> omega
  refine rL (fun g a w' => ∃ i, Fr a 54 (fm [(1, .pointer (some ⟨b2, 0, none⟩)), (4, .int .i64 (i : Nat)), (3, .int .i64 (ks.length : Nat))]) ∧ Chg [] w w' ∧ Blk w' b2 26 [.int .i64 k, strV tx, .slice A ls.length m0, .slice B ks.length n] ∧ i ≤ ks.length ∧ g = ks.length - i ∧ smallsT (ks.drop i) = smallsT ks) _ ⟨0, hf.pick ⟨rfl, rfl, rfl, trivial⟩, hE, hB3, Nat.zero_le _, rfl, rfl⟩ ?_
  obtain ⟨b1, eb1⟩ : ∃ x, b2 = x := ⟨_, rfl⟩
  rw [eb1]
  have ge_b1 : w.heap.size ≤ b1 := eb1 ▸ ge_b2
  clear eb1 hf a
  intro g0 a w' hI
  obtain ⟨i, hf, hE, hB1, hi, rfl, hm⟩ := hI
  by_cases hlt : i < ks.length
  obtain ⟨kb, ko, rfl, _, hkb, hcell⟩ := hrow.2 (by omega)
  obtain ⟨d0, d1, d2, d3, hT, hK⟩ := kid_cells hkids hkb hcell hlt hE
  have on_T := hT.one
  have htt := kbulk_at hlt
  have hts := tsize_at hlt
  have lt_kb := hE.lt hkb
  have hmm := smallsT_step hlt
  refine rR 5 hf rfl ?_
  clear hf a; intro a hf
  refine rV hf rfl (ex_ltI (c := true) hf rfl rfl (by simp; omega)) ?_
  clear hf a; intro a hf
  refine rR 10 hf rfl ?_
  clear hf a; intro a hf
  refine rV hf rfl (ex_loadB hf rfl (by kernel_rfl) hB1 rfl) ?_
  clear hf a; intro a hf
  refine rR 1 hf rfl ?_
  clear hf a; intro a hf
  refine rV hf rfl (ex_index (sz := 4) (k := i) (r := ko + i * 4) hf Try.underlying24 (by kernel_rfl) rfl rfl rfl hlt rfl) ?_
  clear hf a; intro a hf
  refine rV hf rfl (ex_loadN (cs := [d0, d1, d2, d3]) (m := 4) hf rfl (by kernel_rfl) rfl hK) ?_
  clear hf a; intro a hf
  rcases Bool.eq_false_or_eq_true (smallT ks[i]) with hbk | hbk
  refine rC hf rfl rfl (by kernel_rfl) (bool_is (ih _ _ _ _ _ _ _ (by omega) (by omega) hT) hbk) ?_
  rintro _ w50 ⟨rfl, hx49⟩
  refine ⟨_, rfl, ?_⟩
  clear hf a; intro a hf
  replace hB1 := hB1.c0 hx49
  replace hT := hT.t0 hx49
  replace hK := fun j hj => (hx49.cell lt_kb nm0).trans (hK j hj)
  replace lt_kb := hx49.lt lt_kb
  replace hE := hE.t0 hx49
  refine rR 9 hf rfl ?_
  clear hf a; intro a hf
  refine rV hf rfl (ex_addI hf rfl rfl rfl (by omega)) ?_
  clear hf a; intro a hf
  refine rR 2 hf rfl ?_
  clear hf a; intro a hf
  exact rX ⟨_, (by omega : ks.length - (i + 1) < ks.length - i), i + 1, hf.pick ⟨rfl, rfl, rfl, trivial⟩, hE, hB1, by omega, rfl, by rw [← hm, hmm, hbk]; rfl⟩
  refine rC hf rfl rfl (by kernel_rfl) (bool_is (ih _ _ _ _ _ _ _ (by omega) (by omega) hT) hbk) ?_
  rintro _ w51 ⟨rfl, hx49⟩
  refine ⟨_, rfl, ?_⟩
  clear hf a; intro a hf
  replace hB1 := hB1.c0 hx49
  replace hT := hT.t0 hx49
  replace hK := fun j hj => (hx49.cell lt_kb nm0).trans (hK j hj)
  replace lt_kb := hx49.lt lt_kb
  replace hE := hE.t0 hx49
  refine rR 12 hf rfl ?_
  clear hf a; intro a hf
  refine rOr ?_
  refine rR 2 hf rfl ?_
  clear hf a; intro a hf
  exact rT (rs := [.tmp 2]) hf rfl ⟨_, _, rfl, rfl, rfl⟩ ⟨ret_b (by rw [smallT, ← hm, hmm, hbk]; simp), hE⟩
  have hz : ks.drop i = [] := List.drop_of_length_le (by omega)
  rw [hz, smallsT] at hm
  refine rR 5 hf rfl ?_
  clear hf a; intro a hf
  refine rV hf rfl (ex_ltI (c := false) hf rfl rfl (by simp; omega)) ?_
  clear hf a; intro a hf
  refine rR 5 hf rfl ?_
  clear hf a; intro a hf
  refine rO ?_
  refine rR 8 hf rfl ?_
  clear hf a; intro a hf
  exact rT (rs := [.tmp 2]) hf rfl ⟨_, _, rfl, rfl, rfl⟩ ⟨ret_b (by rw [smallT, ← hm, hfew]; rfl), hE⟩
  clear hf a; intro h36 a hf
  refine rR 17 hf rfl ?_
  clear hf a; intro a hf
  have hfew : fewT k ks.length = true := by simp only [qA, qB, qC, qD, qE, qF, ne_eq, Int.not_lt, Int.not_le, Decidable.not_not] at h10 h18 h27 h36; simp [fewT, h10, h18, h27, h36] <;> omega
  refine rL (fun g a w' => ∃ i, Fr a 54 (fm [(1, .pointer (some ⟨b2, 0, none⟩)), (4, .int .i64 (i : Nat)), (3, .int .i64 (ks.length : Nat))]) ∧ Chg [] w w' ∧ Blk w' b2 26 [.int .i64 k, strV tx, .slice A ls.length m0, .slice B ks.length n] ∧ i ≤ ks.length ∧ g = ks.length - i ∧ smallsT (ks.drop i) = smallsT ks) _ ⟨0, hf.pick ⟨rfl, rfl, rfl, trivial⟩, hE, hB3, Nat.zero_le _, rfl, rfl⟩ ?_
  obtain ⟨b1, eb1⟩ : ∃ x, b2 = x := ⟨_, rfl⟩
  rw [eb1]
  have ge_b1 : w.heap.size ≤ b1 := eb1 ▸ ge_b2
  clear eb1 hf a
  intro g0 a w' hI
  obtain ⟨i, hf, hE, hB1, hi, rfl, hm⟩ := hI
  by_cases hlt : i < ks.length
  obtain ⟨kb, ko, rfl, _, hkb, hcell⟩ := hrow.2 (by omega)
  obtain ⟨d0, d1, d2, d3, hT, hK⟩ := kid_cells hkids hkb hcell hlt hE
  have on_T := hT.one
  have htt := kbulk_at hlt
  have hts := tsize_at hlt
  have lt_kb := hE.lt hkb
  have hmm := smallsT_step hlt
  refine rR 5 hf rfl ?_
  clear hf a; intro a hf
  refine rV hf rfl (ex_ltI (c := true) hf rfl rfl (by simp; omega)) ?_
  clear hf a; intro a hf
  refine rR 10 hf rfl ?_
  clear hf a; intro a hf
  refine rV hf rfl (ex_loadB hf rfl (by kernel_rfl) hB1 rfl) ?_
  clear hf a; intro a hf
  refine rR 1 hf rfl ?_
  clear hf a; intro a hf
  refine rV hf rfl (ex_index (sz := 4) (k := i) (r := ko + i * 4) hf Try.underlying24 (by kernel_rfl) rfl rfl rfl hlt rfl) ?_
  clear hf a; intro a hf
  refine rV hf rfl (ex_loadN (cs := [d0, d1, d2, d3]) (m := 4) hf rfl (by kernel_rfl) rfl hK) ?_
  clear hf a; intro a hf
  rcases Bool.eq_false_or_eq_true (smallT ks[i]) with hbk | hbk
  refine rC hf rfl rfl (by kernel_rfl) (bool_is (ih _ _ _ _ _ _ _ (by omega) (by omega) hT) hbk) ?_
  rintro _ w53 ⟨rfl, hx52⟩
  refine ⟨_, rfl, ?_⟩
  clear hf a; intro a hf
  replace hB1 := hB1.c0 hx52
  replace hT := hT.t0 hx52
  replace hK := fun j hj => (hx52.cell lt_kb nm0).trans (hK j hj)
  replace lt_kb := hx52.lt lt_kb
  replace hE := hE.t0 hx52
  refine rR 9 hf rfl ?_
  clear hf a; intro a hf
  refine rV hf rfl (ex_addI hf rfl rfl rfl (by omega)) ?_
  clear hf a; intro a hf
  refine rR 2 hf rfl ?_
  clear hf a; intro a hf
  exact rX ⟨_, (by omega : ks.length - (i + 1) < ks.length - i), i + 1, hf.pick ⟨rfl, rfl, rfl, trivial⟩, hE, hB1, by omega, rfl, by rw [← hm, hmm, hbk]; rfl⟩
  refine rC hf rfl rfl (by kernel_rfl) (bool_is (ih _ _ _ _ _ _ _ (by omega) (by omega) hT) hbk) ?_
  rintro _ w54 ⟨rfl, hx52⟩
  refine ⟨_, rfl, ?_⟩
  clear hf a; intro a hf
  replace hB1 := hB1.c0 hx52
  replace hT := hT.t0 hx52
  replace hK := fun j hj => (hx52.cell lt_kb nm0).trans (hK j hj)
  replace lt_kb := hx52.lt lt_kb
  replace hE := hE.t0 hx52
  refine rR 12 hf rfl ?_
  clear hf a; intro a hf
  refine rOr ?_
  refine rR 2 hf rfl ?_
  clear hf a; intro a hf
  exact rT (rs := [.tmp 2]) hf rfl ⟨_, _, rfl, rfl, rfl⟩ ⟨ret_b (by rw [smallT, ← hm, hmm, hbk]; simp), hE⟩
  have hz : ks.drop i = [] := List.drop_of_length_le (by omega)
  rw [hz, smallsT] at hm
  refine rR 5 hf rfl ?_
  clear hf a; intro a hf
  refine rV hf rfl (ex_ltI (c := false) hf rfl rfl (by simp; omega)) ?_
  clear hf a; intro a hf
  refine rR 5 hf rfl ?_
  clear hf a; intro a hf
  refine rO ?_
  refine rR 8 hf rfl ?_
  clear hf a; intro a hf
  exact rT (rs := [.tmp 2]) hf rfl ⟨_, _, rfl, rfl, rfl⟩ ⟨ret_b (by rw [smallT, ← hm, hfew]; rfl), hE⟩
theorem limitsR : ∀ N, LimitsOk N
  | 0 => fun t _ _ _ _ _ _ hN => by cases t; simp only [tsize] at hN; omega
  | N + 1 => limits_step (limitsR N)
def LeadsROk (N : Nat) : Prop := ∀ (t : Tree) (S : Nat → Prop) (w : World) (c0 c1 c2 c3 : Value), tsize t ≤ N → tbulk t ≤ 1000000000 → TreeIs S w t [c0, c1, c2, c3] → Calls Try.prog 63 [.agg #[c0, c1, c2, c3]].toArray w fun e w' => e = .returned (.bool (leadedT t)) ∧ Chg [] w w'
theorem leadsT_step {N : Nat} (ih : LeadsROk N) : LeadsROk (N + 1) := by
  intro t S w c0 c1 c2 c3 hN hd hT
  obtain ⟨k, tx, ls, ks⟩ := t
  simp only [TreeIs] at hT
  obtain ⟨A, m0, B, n, hc, _, _, hb1, hb2, hrowL, cs, hkids, hrow⟩ := hT
  simp only [List.cons.injEq, and_true] at hc
  obtain ⟨rfl, rfl, rfl, rfl⟩ := hc
  simp only [tsize] at hN
  simp only [tbulk] at hd
  have hkl := kbulk_len ks
  have hll := lsum_len ls
  by_cases hne : (ls.length : Int) = leadsT k ks.length
  · skip
    refine rE 50 Try.func63 rfl rfl rfl ?_
    intro a hf
    have hE := Chg.refl [] w
    refine rR 2 hf rfl ?_
    clear hf a; intro a hf
    obtain ⟨w1, b2, he, hB3, hx4, eb5, lb6⟩ := ef_box (P := Try.prog) (t := 26) (x := (.tmp 0)) hf rfl rfl w 0
    refine rV hf rfl he ?_
    clear he hf a; intro a hf
    have ge_b2 := ge_new hE eb5
    replace hE := hE.t0 hx4
    clear eb5 lb6
    refine rR 5 hf rfl ?_
    clear hf a; intro a hf
    have s_hB3 := hB3
    refine rD (fun x => x.cell? ⟨b2, 2, none⟩ = w1.cell? ⟨b2, 2, none⟩ ∧ x.cell? ⟨b2, 0, none⟩ = w1.cell? ⟨b2, 0, none⟩ ∧ x.cell? ⟨b2, 3, none⟩ = w1.cell? ⟨b2, 3, none⟩) 10 10 rfl (by kernel_rfl) (by kernel_rfl) ?_
    intro w7 hx8 hsel
    replace hB3 := hB3.c0 hx8
    replace hE := hE.t0 hx8
    have hS0 : w7.cell? ⟨b2, 2, none⟩ = w1.cell? ⟨b2, 2, none⟩ ∧ w7.cell? ⟨b2, 0, none⟩ = w1.cell? ⟨b2, 0, none⟩ ∧ w7.cell? ⟨b2, 3, none⟩ = w1.cell? ⟨b2, 3, none⟩ := ⟨(hB3.cell 2).trans (s_hB3.cell 2).symm, (hB3.cell 0).trans (s_hB3.cell 0).symm, (hB3.cell 3).trans (s_hB3.cell 3).symm⟩
    refine dR [0] hsel (by kernel_rfl) hf rfl rfl (.inl hS0) ?_
    clear hf a; intro a hf
    refine dL 1 rfl rfl hsel (by kernel_rfl) hf rfl hS0 (fun x hS => ex_load hf rfl (by kernel_rfl) (hS.1.trans ((s_hB3.cell 2).trans rfl))) ?_
    clear hf a; intro a hf
    refine dV 2 rfl rfl hsel (by kernel_rfl) hf rfl (.inl hS0) (fun x => ex_len hf Try.underlying23 rfl) ?_
    clear hf a; intro a hf
    refine dR [3] hsel (by kernel_rfl) hf rfl rfl (.inl hS0) ?_
    clear hf a; intro a hf
    refine dL 4 rfl rfl hsel (by kernel_rfl) hf rfl hS0 (fun x hS => ex_load hf rfl (by kernel_rfl) (hS.2.1.trans ((s_hB3.cell 0).trans rfl))) ?_
    clear hf a; intro a hf
    refine dR [5] hsel (by kernel_rfl) hf rfl rfl (.inl hS0) ?_
    clear hf a; intro a hf
    refine dL 6 rfl rfl hsel (by kernel_rfl) hf rfl hS0 (fun x hS => ex_load hf rfl (by kernel_rfl) (hS.2.2.trans ((s_hB3.cell 3).trans rfl))) ?_
    clear hf a; intro a hf
    refine dV 7 rfl rfl hsel (by kernel_rfl) hf rfl (.inl hS0) (fun x => ex_len hf Try.underlying24 rfl) ?_
    clear hf a; intro a hf
    refine dl_c 8 (by kernel_rfl) rfl hf rfl rfl rfl (by kernel_rfl) (leadsR (by omega)) ?_
    rintro _ w10 ⟨rfl, hx9⟩
    refine ⟨_, rfl, ?_⟩
    clear hf a; intro a hf
    replace hB3 := hB3.c0 hx9
    replace hE := hE.t0 hx9
    clear hS0
    have hS0 : w10.cell? ⟨b2, 2, none⟩ = w1.cell? ⟨b2, 2, none⟩ ∧ w10.cell? ⟨b2, 0, none⟩ = w1.cell? ⟨b2, 0, none⟩ ∧ w10.cell? ⟨b2, 3, none⟩ = w1.cell? ⟨b2, 3, none⟩ := ⟨(hB3.cell 2).trans (s_hB3.cell 2).symm, (hB3.cell 0).trans (s_hB3.cell 0).symm, (hB3.cell 3).trans (s_hB3.cell 3).symm⟩
    refine ⟨.inl hS0, ?_⟩
    refine dV 9 rfl rfl hsel (by kernel_rfl) hf rfl (.inl hS0) (fun x => ex_neI (c := false) hf rfl rfl (by simp [hne])) ?_
    clear hf a; intro a hf
    refine rN (by kernel_rfl) ?_
    clear hS0 hsel
    refine rR 11 hf rfl ?_
    clear hf a; intro a hf
    refine rL (fun g a w' => ∃ i, Fr a 50 (fm [(1, .pointer (some ⟨b2, 0, none⟩)), (3, .int .i64 (i : Nat))]) ∧ Chg [] w w' ∧ Blk w' b2 26 [.int .i64 k, strV tx, .slice A ls.length m0, .slice B ks.length n] ∧ i ≤ ls.length ∧ g = ls.length - i ∧ trivsT k (ls.drop i) i = trivsT k ls 0) _ ⟨0, hf.pick ⟨rfl, rfl, trivial⟩, hE, hB3, Nat.zero_le _, rfl, rfl⟩ ?_
    obtain ⟨b1, eb1⟩ : ∃ x, b2 = x := ⟨_, rfl⟩
    rw [eb1]
    have ge_b1 : w.heap.size ≤ b1 := eb1 ▸ ge_b2
    clear eb1 hf a
    intro g0 a w' hI
    obtain ⟨i, hf, hE, hB1, hi, rfl, hm⟩ := hI
    by_cases hlt : i < ls.length
    obtain ⟨lb, lo, rfl, _, hlb, hcellL⟩ := hrowL.2 (by omega)
    have htt := lsum_at hlt
    have lt_lb := hE.lt hlb
    have hK0 : w'.cell? ⟨lb, lo + i * 1, none⟩ = some (strV ls[i]) := by rw [hE.cell hlb nm0, Nat.mul_one, hcellL _ (by omega)]; simp [hlt]
    have hmm := trivsT_step (k := k) hlt
    by_cases hk1 : k = 1
    by_cases hi2 : (i : Int) = 2
    have hek : (k == 1 && (i : Int) == 2) = true := by rw [hk1, hi2]; rfl
    rw [hek] at hmm
    rcases Bool.eq_false_or_eq_true (triviaT false ls[i] true) with hbt | hbt
    refine rR 5 hf rfl ?_
    clear hf a; intro a hf
    refine rV hf rfl (ex_loadB hf rfl (by kernel_rfl) hB1 rfl) ?_
    clear hf a; intro a hf
    refine rV hf rfl (ex_len hf Try.underlying23 rfl) ?_
    clear hf a; intro a hf
    refine rV hf rfl (ex_ltI (c := true) hf rfl rfl (by simp; omega)) ?_
    clear hf a; intro a hf
    refine rR 8 hf rfl ?_
    clear hf a; intro a hf
    have s_hK0 := hK0
    have s_hB1 := hB1
    refine rD (fun x => x.cell? ⟨b1, 2, none⟩ = w'.cell? ⟨b1, 2, none⟩ ∧ x.cell? ⟨lb, lo + i * 1, none⟩ = w'.cell? ⟨lb, lo + i * 1, none⟩ ∧ x.cell? ⟨b1, 0, none⟩ = w'.cell? ⟨b1, 0, none⟩) 14 14 rfl (by kernel_rfl) (by kernel_rfl) ?_
    intro w11 hx12 hsel
    replace hB1 := hB1.c0 hx12
    replace hK0 := (hx12.cell lt_lb nm0).trans hK0
    replace lt_lb := hx12.lt lt_lb
    replace hE := hE.t0 hx12
    have hS0 : w11.cell? ⟨b1, 2, none⟩ = w'.cell? ⟨b1, 2, none⟩ ∧ w11.cell? ⟨lb, lo + i * 1, none⟩ = w'.cell? ⟨lb, lo + i * 1, none⟩ ∧ w11.cell? ⟨b1, 0, none⟩ = w'.cell? ⟨b1, 0, none⟩ := ⟨(hB1.cell 2).trans (s_hB1.cell 2).symm, (hK0.trans s_hK0.symm), (hB1.cell 0).trans (s_hB1.cell 0).symm⟩
    refine dR [0] hsel (by kernel_rfl) hf rfl rfl (.inl hS0) ?_
    clear hf a; intro a hf
    refine dL 1 rfl rfl hsel (by kernel_rfl) hf rfl hS0 (fun x hS => ex_load hf rfl (by kernel_rfl) (hS.1.trans ((s_hB1.cell 2).trans rfl))) ?_
    clear hf a; intro a hf
    refine dR [2] hsel (by kernel_rfl) hf rfl rfl (.inl hS0) ?_
    clear hf a; intro a hf
    refine dV 3 rfl rfl hsel (by kernel_rfl) hf rfl (.inl hS0) (fun x => ex_index (sz := 1) (k := i) (r := lo + i * 1) hf Try.underlying23 (by kernel_rfl) rfl rfl rfl hlt rfl) ?_
    clear hf a; intro a hf
    refine dL 4 rfl rfl hsel (by kernel_rfl) hf rfl hS0 (fun x hS => ex_load hf rfl (by kernel_rfl) (hS.2.1.trans s_hK0)) ?_
    clear hf a; intro a hf
    refine dR [5] hsel (by kernel_rfl) hf rfl rfl (.inl hS0) ?_
    clear hf a; intro a hf
    refine dL 6 rfl rfl hsel (by kernel_rfl) hf rfl hS0 (fun x hS => ex_load hf rfl (by kernel_rfl) (hS.2.2.trans ((s_hB1.cell 0).trans rfl))) ?_
    clear hf a; intro a hf
    refine dV 7 rfl rfl hsel (by kernel_rfl) hf rfl (.inl hS0) (fun x => ex_eqI (c := true) hf rfl rfl (by simp [hk1])) ?_
    clear hf a; intro a hf
    refine dR [8, 9] hsel (by kernel_rfl) hf rfl rfl (.inl hS0) ?_
    clear hf a; intro a hf
    refine dV 10 rfl rfl hsel (by kernel_rfl) hf rfl (.inl hS0) (fun x => ex_eqI (c := true) hf rfl rfl (by simp [hi2])) ?_
    clear hf a; intro a hf
    refine dR [11] hsel (by kernel_rfl) hf rfl rfl (.inl hS0) ?_
    clear hf a; intro a hf
    refine dl_c 12 (by kernel_rfl) rfl hf rfl rfl rfl (by kernel_rfl) (bool_is (calls_eq (triviaR ls[i] true _ (by omega))) hbt) ?_
    rintro _ w14 ⟨rfl, hx13⟩
    refine ⟨_, rfl, ?_⟩
    clear hf a; intro a hf
    replace hB1 := hB1.c0 hx13
    replace hK0 := (hx13.cell lt_lb nm0).trans hK0
    replace lt_lb := hx13.lt lt_lb
    replace hE := hE.t0 hx13
    clear hS0
    have hS0 : w14.cell? ⟨b1, 2, none⟩ = w'.cell? ⟨b1, 2, none⟩ ∧ w14.cell? ⟨lb, lo + i * 1, none⟩ = w'.cell? ⟨lb, lo + i * 1, none⟩ ∧ w14.cell? ⟨b1, 0, none⟩ = w'.cell? ⟨b1, 0, none⟩ := ⟨(hB1.cell 2).trans (s_hB1.cell 2).symm, (hK0.trans s_hK0.symm), (hB1.cell 0).trans (s_hB1.cell 0).symm⟩
    refine ⟨.inl hS0, ?_⟩
    refine dR [13] hsel (by kernel_rfl) hf rfl rfl (.inl hS0) ?_
    clear hf a; intro a hf
    refine rN (by kernel_rfl) ?_
    clear hS0 hsel
    refine rR 7 hf rfl ?_
    clear hf a; intro a hf
    refine rV hf rfl (ex_addI hf rfl rfl rfl (by omega)) ?_
    clear hf a; intro a hf
    refine rR 2 hf rfl ?_
    clear hf a; intro a hf
    exact rX ⟨_, (by omega : ls.length - (i + 1) < ls.length - i), i + 1, hf.pick ⟨rfl, rfl, trivial⟩, hE, hB1, by omega, rfl, by rw [← hm, hmm, hbt]; rfl⟩
    refine rR 5 hf rfl ?_
    clear hf a; intro a hf
    refine rV hf rfl (ex_loadB hf rfl (by kernel_rfl) hB1 rfl) ?_
    clear hf a; intro a hf
    refine rV hf rfl (ex_len hf Try.underlying23 rfl) ?_
    clear hf a; intro a hf
    refine rV hf rfl (ex_ltI (c := true) hf rfl rfl (by simp; omega)) ?_
    clear hf a; intro a hf
    refine rR 8 hf rfl ?_
    clear hf a; intro a hf
    have s_hK0 := hK0
    have s_hB1 := hB1
    refine rD (fun x => x.cell? ⟨b1, 2, none⟩ = w'.cell? ⟨b1, 2, none⟩ ∧ x.cell? ⟨lb, lo + i * 1, none⟩ = w'.cell? ⟨lb, lo + i * 1, none⟩ ∧ x.cell? ⟨b1, 0, none⟩ = w'.cell? ⟨b1, 0, none⟩) 14 14 rfl (by kernel_rfl) (by kernel_rfl) ?_
    intro w15 hx16 hsel
    replace hB1 := hB1.c0 hx16
    replace hK0 := (hx16.cell lt_lb nm0).trans hK0
    replace lt_lb := hx16.lt lt_lb
    replace hE := hE.t0 hx16
    have hS0 : w15.cell? ⟨b1, 2, none⟩ = w'.cell? ⟨b1, 2, none⟩ ∧ w15.cell? ⟨lb, lo + i * 1, none⟩ = w'.cell? ⟨lb, lo + i * 1, none⟩ ∧ w15.cell? ⟨b1, 0, none⟩ = w'.cell? ⟨b1, 0, none⟩ := ⟨(hB1.cell 2).trans (s_hB1.cell 2).symm, (hK0.trans s_hK0.symm), (hB1.cell 0).trans (s_hB1.cell 0).symm⟩
    refine dR [0] hsel (by kernel_rfl) hf rfl rfl (.inl hS0) ?_
    clear hf a; intro a hf
    refine dL 1 rfl rfl hsel (by kernel_rfl) hf rfl hS0 (fun x hS => ex_load hf rfl (by kernel_rfl) (hS.1.trans ((s_hB1.cell 2).trans rfl))) ?_
    clear hf a; intro a hf
    refine dR [2] hsel (by kernel_rfl) hf rfl rfl (.inl hS0) ?_
    clear hf a; intro a hf
    refine dV 3 rfl rfl hsel (by kernel_rfl) hf rfl (.inl hS0) (fun x => ex_index (sz := 1) (k := i) (r := lo + i * 1) hf Try.underlying23 (by kernel_rfl) rfl rfl rfl hlt rfl) ?_
    clear hf a; intro a hf
    refine dL 4 rfl rfl hsel (by kernel_rfl) hf rfl hS0 (fun x hS => ex_load hf rfl (by kernel_rfl) (hS.2.1.trans s_hK0)) ?_
    clear hf a; intro a hf
    refine dR [5] hsel (by kernel_rfl) hf rfl rfl (.inl hS0) ?_
    clear hf a; intro a hf
    refine dL 6 rfl rfl hsel (by kernel_rfl) hf rfl hS0 (fun x hS => ex_load hf rfl (by kernel_rfl) (hS.2.2.trans ((s_hB1.cell 0).trans rfl))) ?_
    clear hf a; intro a hf
    refine dV 7 rfl rfl hsel (by kernel_rfl) hf rfl (.inl hS0) (fun x => ex_eqI (c := true) hf rfl rfl (by simp [hk1])) ?_
    clear hf a; intro a hf
    refine dR [8, 9] hsel (by kernel_rfl) hf rfl rfl (.inl hS0) ?_
    clear hf a; intro a hf
    refine dV 10 rfl rfl hsel (by kernel_rfl) hf rfl (.inl hS0) (fun x => ex_eqI (c := true) hf rfl rfl (by simp [hi2])) ?_
    clear hf a; intro a hf
    refine dR [11] hsel (by kernel_rfl) hf rfl rfl (.inl hS0) ?_
    clear hf a; intro a hf
    refine dl_c 12 (by kernel_rfl) rfl hf rfl rfl rfl (by kernel_rfl) (bool_is (calls_eq (triviaR ls[i] true _ (by omega))) hbt) ?_
    rintro _ w18 ⟨rfl, hx17⟩
    refine ⟨_, rfl, ?_⟩
    clear hf a; intro a hf
    replace hB1 := hB1.c0 hx17
    replace hK0 := (hx17.cell lt_lb nm0).trans hK0
    replace lt_lb := hx17.lt lt_lb
    replace hE := hE.t0 hx17
    clear hS0
    have hS0 : w18.cell? ⟨b1, 2, none⟩ = w'.cell? ⟨b1, 2, none⟩ ∧ w18.cell? ⟨lb, lo + i * 1, none⟩ = w'.cell? ⟨lb, lo + i * 1, none⟩ ∧ w18.cell? ⟨b1, 0, none⟩ = w'.cell? ⟨b1, 0, none⟩ := ⟨(hB1.cell 2).trans (s_hB1.cell 2).symm, (hK0.trans s_hK0.symm), (hB1.cell 0).trans (s_hB1.cell 0).symm⟩
    refine ⟨.inl hS0, ?_⟩
    refine dR [13] hsel (by kernel_rfl) hf rfl rfl (.inl hS0) ?_
    clear hf a; intro a hf
    refine rN (by kernel_rfl) ?_
    clear hS0 hsel
    refine rR 10 hf rfl ?_
    clear hf a; intro a hf
    refine rOr ?_
    refine rR 2 hf rfl ?_
    clear hf a; intro a hf
    exact rT (rs := [.tmp 2]) hf rfl ⟨_, _, rfl, rfl, rfl⟩ ⟨ret_b (by rw [leadedT, ← hm, hmm, hbt]; simp), hE⟩
    have hek : (k == 1 && (i : Int) == 2) = false := by rw [beq_false_of_ne hi2, Bool.and_false]
    rw [hek] at hmm
    rcases Bool.eq_false_or_eq_true (triviaT false ls[i] false) with hbt | hbt
    refine rR 5 hf rfl ?_
    clear hf a; intro a hf
    refine rV hf rfl (ex_loadB hf rfl (by kernel_rfl) hB1 rfl) ?_
    clear hf a; intro a hf
    refine rV hf rfl (ex_len hf Try.underlying23 rfl) ?_
    clear hf a; intro a hf
    refine rV hf rfl (ex_ltI (c := true) hf rfl rfl (by simp; omega)) ?_
    clear hf a; intro a hf
    refine rR 8 hf rfl ?_
    clear hf a; intro a hf
    have s_hK0 := hK0
    have s_hB1 := hB1
    refine rD (fun x => x.cell? ⟨b1, 2, none⟩ = w'.cell? ⟨b1, 2, none⟩ ∧ x.cell? ⟨lb, lo + i * 1, none⟩ = w'.cell? ⟨lb, lo + i * 1, none⟩ ∧ x.cell? ⟨b1, 0, none⟩ = w'.cell? ⟨b1, 0, none⟩) 14 14 rfl (by kernel_rfl) (by kernel_rfl) ?_
    intro w19 hx20 hsel
    replace hB1 := hB1.c0 hx20
    replace hK0 := (hx20.cell lt_lb nm0).trans hK0
    replace lt_lb := hx20.lt lt_lb
    replace hE := hE.t0 hx20
    have hS0 : w19.cell? ⟨b1, 2, none⟩ = w'.cell? ⟨b1, 2, none⟩ ∧ w19.cell? ⟨lb, lo + i * 1, none⟩ = w'.cell? ⟨lb, lo + i * 1, none⟩ ∧ w19.cell? ⟨b1, 0, none⟩ = w'.cell? ⟨b1, 0, none⟩ := ⟨(hB1.cell 2).trans (s_hB1.cell 2).symm, (hK0.trans s_hK0.symm), (hB1.cell 0).trans (s_hB1.cell 0).symm⟩
    refine dR [0] hsel (by kernel_rfl) hf rfl rfl (.inl hS0) ?_
    clear hf a; intro a hf
    refine dL 1 rfl rfl hsel (by kernel_rfl) hf rfl hS0 (fun x hS => ex_load hf rfl (by kernel_rfl) (hS.1.trans ((s_hB1.cell 2).trans rfl))) ?_
    clear hf a; intro a hf
    refine dR [2] hsel (by kernel_rfl) hf rfl rfl (.inl hS0) ?_
    clear hf a; intro a hf
    refine dV 3 rfl rfl hsel (by kernel_rfl) hf rfl (.inl hS0) (fun x => ex_index (sz := 1) (k := i) (r := lo + i * 1) hf Try.underlying23 (by kernel_rfl) rfl rfl rfl hlt rfl) ?_
    clear hf a; intro a hf
    refine dL 4 rfl rfl hsel (by kernel_rfl) hf rfl hS0 (fun x hS => ex_load hf rfl (by kernel_rfl) (hS.2.1.trans s_hK0)) ?_
    clear hf a; intro a hf
    refine dR [5] hsel (by kernel_rfl) hf rfl rfl (.inl hS0) ?_
    clear hf a; intro a hf
    refine dL 6 rfl rfl hsel (by kernel_rfl) hf rfl hS0 (fun x hS => ex_load hf rfl (by kernel_rfl) (hS.2.2.trans ((s_hB1.cell 0).trans rfl))) ?_
    clear hf a; intro a hf
    refine dV 7 rfl rfl hsel (by kernel_rfl) hf rfl (.inl hS0) (fun x => ex_eqI (c := true) hf rfl rfl (by simp [hk1])) ?_
    clear hf a; intro a hf
    refine dR [8, 9] hsel (by kernel_rfl) hf rfl rfl (.inl hS0) ?_
    clear hf a; intro a hf
    refine dV 10 rfl rfl hsel (by kernel_rfl) hf rfl (.inl hS0) (fun x => ex_eqI (c := false) hf rfl rfl (by simp [hi2])) ?_
    clear hf a; intro a hf
    refine dR [11] hsel (by kernel_rfl) hf rfl rfl (.inl hS0) ?_
    clear hf a; intro a hf
    refine dl_c 12 (by kernel_rfl) rfl hf rfl rfl rfl (by kernel_rfl) (bool_is (calls_eq (triviaR ls[i] false _ (by omega))) hbt) ?_
    rintro _ w22 ⟨rfl, hx21⟩
    refine ⟨_, rfl, ?_⟩
    clear hf a; intro a hf
    replace hB1 := hB1.c0 hx21
    replace hK0 := (hx21.cell lt_lb nm0).trans hK0
    replace lt_lb := hx21.lt lt_lb
    replace hE := hE.t0 hx21
    clear hS0
    have hS0 : w22.cell? ⟨b1, 2, none⟩ = w'.cell? ⟨b1, 2, none⟩ ∧ w22.cell? ⟨lb, lo + i * 1, none⟩ = w'.cell? ⟨lb, lo + i * 1, none⟩ ∧ w22.cell? ⟨b1, 0, none⟩ = w'.cell? ⟨b1, 0, none⟩ := ⟨(hB1.cell 2).trans (s_hB1.cell 2).symm, (hK0.trans s_hK0.symm), (hB1.cell 0).trans (s_hB1.cell 0).symm⟩
    refine ⟨.inl hS0, ?_⟩
    refine dR [13] hsel (by kernel_rfl) hf rfl rfl (.inl hS0) ?_
    clear hf a; intro a hf
    refine rN (by kernel_rfl) ?_
    clear hS0 hsel
    refine rR 7 hf rfl ?_
    clear hf a; intro a hf
    refine rV hf rfl (ex_addI hf rfl rfl rfl (by omega)) ?_
    clear hf a; intro a hf
    refine rR 2 hf rfl ?_
    clear hf a; intro a hf
    exact rX ⟨_, (by omega : ls.length - (i + 1) < ls.length - i), i + 1, hf.pick ⟨rfl, rfl, trivial⟩, hE, hB1, by omega, rfl, by rw [← hm, hmm, hbt]; rfl⟩
    refine rR 5 hf rfl ?_
    clear hf a; intro a hf
    refine rV hf rfl (ex_loadB hf rfl (by kernel_rfl) hB1 rfl) ?_
    clear hf a; intro a hf
    refine rV hf rfl (ex_len hf Try.underlying23 rfl) ?_
    clear hf a; intro a hf
    refine rV hf rfl (ex_ltI (c := true) hf rfl rfl (by simp; omega)) ?_
    clear hf a; intro a hf
    refine rR 8 hf rfl ?_
    clear hf a; intro a hf
    have s_hK0 := hK0
    have s_hB1 := hB1
    refine rD (fun x => x.cell? ⟨b1, 2, none⟩ = w'.cell? ⟨b1, 2, none⟩ ∧ x.cell? ⟨lb, lo + i * 1, none⟩ = w'.cell? ⟨lb, lo + i * 1, none⟩ ∧ x.cell? ⟨b1, 0, none⟩ = w'.cell? ⟨b1, 0, none⟩) 14 14 rfl (by kernel_rfl) (by kernel_rfl) ?_
    intro w23 hx24 hsel
    replace hB1 := hB1.c0 hx24
    replace hK0 := (hx24.cell lt_lb nm0).trans hK0
    replace lt_lb := hx24.lt lt_lb
    replace hE := hE.t0 hx24
    have hS0 : w23.cell? ⟨b1, 2, none⟩ = w'.cell? ⟨b1, 2, none⟩ ∧ w23.cell? ⟨lb, lo + i * 1, none⟩ = w'.cell? ⟨lb, lo + i * 1, none⟩ ∧ w23.cell? ⟨b1, 0, none⟩ = w'.cell? ⟨b1, 0, none⟩ := ⟨(hB1.cell 2).trans (s_hB1.cell 2).symm, (hK0.trans s_hK0.symm), (hB1.cell 0).trans (s_hB1.cell 0).symm⟩
    refine dR [0] hsel (by kernel_rfl) hf rfl rfl (.inl hS0) ?_
    clear hf a; intro a hf
    refine dL 1 rfl rfl hsel (by kernel_rfl) hf rfl hS0 (fun x hS => ex_load hf rfl (by kernel_rfl) (hS.1.trans ((s_hB1.cell 2).trans rfl))) ?_
    clear hf a; intro a hf
    refine dR [2] hsel (by kernel_rfl) hf rfl rfl (.inl hS0) ?_
    clear hf a; intro a hf
    refine dV 3 rfl rfl hsel (by kernel_rfl) hf rfl (.inl hS0) (fun x => ex_index (sz := 1) (k := i) (r := lo + i * 1) hf Try.underlying23 (by kernel_rfl) rfl rfl rfl hlt rfl) ?_
    clear hf a; intro a hf
    refine dL 4 rfl rfl hsel (by kernel_rfl) hf rfl hS0 (fun x hS => ex_load hf rfl (by kernel_rfl) (hS.2.1.trans s_hK0)) ?_
    clear hf a; intro a hf
    refine dR [5] hsel (by kernel_rfl) hf rfl rfl (.inl hS0) ?_
    clear hf a; intro a hf
    refine dL 6 rfl rfl hsel (by kernel_rfl) hf rfl hS0 (fun x hS => ex_load hf rfl (by kernel_rfl) (hS.2.2.trans ((s_hB1.cell 0).trans rfl))) ?_
    clear hf a; intro a hf
    refine dV 7 rfl rfl hsel (by kernel_rfl) hf rfl (.inl hS0) (fun x => ex_eqI (c := true) hf rfl rfl (by simp [hk1])) ?_
    clear hf a; intro a hf
    refine dR [8, 9] hsel (by kernel_rfl) hf rfl rfl (.inl hS0) ?_
    clear hf a; intro a hf
    refine dV 10 rfl rfl hsel (by kernel_rfl) hf rfl (.inl hS0) (fun x => ex_eqI (c := false) hf rfl rfl (by simp [hi2])) ?_
    clear hf a; intro a hf
    refine dR [11] hsel (by kernel_rfl) hf rfl rfl (.inl hS0) ?_
    clear hf a; intro a hf
    refine dl_c 12 (by kernel_rfl) rfl hf rfl rfl rfl (by kernel_rfl) (bool_is (calls_eq (triviaR ls[i] false _ (by omega))) hbt) ?_
    rintro _ w26 ⟨rfl, hx25⟩
    refine ⟨_, rfl, ?_⟩
    clear hf a; intro a hf
    replace hB1 := hB1.c0 hx25
    replace hK0 := (hx25.cell lt_lb nm0).trans hK0
    replace lt_lb := hx25.lt lt_lb
    replace hE := hE.t0 hx25
    clear hS0
    have hS0 : w26.cell? ⟨b1, 2, none⟩ = w'.cell? ⟨b1, 2, none⟩ ∧ w26.cell? ⟨lb, lo + i * 1, none⟩ = w'.cell? ⟨lb, lo + i * 1, none⟩ ∧ w26.cell? ⟨b1, 0, none⟩ = w'.cell? ⟨b1, 0, none⟩ := ⟨(hB1.cell 2).trans (s_hB1.cell 2).symm, (hK0.trans s_hK0.symm), (hB1.cell 0).trans (s_hB1.cell 0).symm⟩
    refine ⟨.inl hS0, ?_⟩
    refine dR [13] hsel (by kernel_rfl) hf rfl rfl (.inl hS0) ?_
    clear hf a; intro a hf
    refine rN (by kernel_rfl) ?_
    clear hS0 hsel
    refine rR 10 hf rfl ?_
    clear hf a; intro a hf
    refine rOr ?_
    refine rR 2 hf rfl ?_
    clear hf a; intro a hf
    exact rT (rs := [.tmp 2]) hf rfl ⟨_, _, rfl, rfl, rfl⟩ ⟨ret_b (by rw [leadedT, ← hm, hmm, hbt]; simp), hE⟩
    have hek : (k == 1 && (i : Int) == 2) = false := by rw [beq_false_of_ne hk1]; rfl
    rw [hek] at hmm
    rcases Bool.eq_false_or_eq_true (triviaT false ls[i] false) with hbt | hbt
    refine rR 5 hf rfl ?_
    clear hf a; intro a hf
    refine rV hf rfl (ex_loadB hf rfl (by kernel_rfl) hB1 rfl) ?_
    clear hf a; intro a hf
    refine rV hf rfl (ex_len hf Try.underlying23 rfl) ?_
    clear hf a; intro a hf
    refine rV hf rfl (ex_ltI (c := true) hf rfl rfl (by simp; omega)) ?_
    clear hf a; intro a hf
    refine rR 8 hf rfl ?_
    clear hf a; intro a hf
    have s_hK0 := hK0
    have s_hB1 := hB1
    refine rD (fun x => x.cell? ⟨b1, 2, none⟩ = w'.cell? ⟨b1, 2, none⟩ ∧ x.cell? ⟨lb, lo + i * 1, none⟩ = w'.cell? ⟨lb, lo + i * 1, none⟩ ∧ x.cell? ⟨b1, 0, none⟩ = w'.cell? ⟨b1, 0, none⟩) 14 14 rfl (by kernel_rfl) (by kernel_rfl) ?_
    intro w27 hx28 hsel
    replace hB1 := hB1.c0 hx28
    replace hK0 := (hx28.cell lt_lb nm0).trans hK0
    replace lt_lb := hx28.lt lt_lb
    replace hE := hE.t0 hx28
    have hS0 : w27.cell? ⟨b1, 2, none⟩ = w'.cell? ⟨b1, 2, none⟩ ∧ w27.cell? ⟨lb, lo + i * 1, none⟩ = w'.cell? ⟨lb, lo + i * 1, none⟩ ∧ w27.cell? ⟨b1, 0, none⟩ = w'.cell? ⟨b1, 0, none⟩ := ⟨(hB1.cell 2).trans (s_hB1.cell 2).symm, (hK0.trans s_hK0.symm), (hB1.cell 0).trans (s_hB1.cell 0).symm⟩
    refine dR [0] hsel (by kernel_rfl) hf rfl rfl (.inl hS0) ?_
    clear hf a; intro a hf
    refine dL 1 rfl rfl hsel (by kernel_rfl) hf rfl hS0 (fun x hS => ex_load hf rfl (by kernel_rfl) (hS.1.trans ((s_hB1.cell 2).trans rfl))) ?_
    clear hf a; intro a hf
    refine dR [2] hsel (by kernel_rfl) hf rfl rfl (.inl hS0) ?_
    clear hf a; intro a hf
    refine dV 3 rfl rfl hsel (by kernel_rfl) hf rfl (.inl hS0) (fun x => ex_index (sz := 1) (k := i) (r := lo + i * 1) hf Try.underlying23 (by kernel_rfl) rfl rfl rfl hlt rfl) ?_
    clear hf a; intro a hf
    refine dL 4 rfl rfl hsel (by kernel_rfl) hf rfl hS0 (fun x hS => ex_load hf rfl (by kernel_rfl) (hS.2.1.trans s_hK0)) ?_
    clear hf a; intro a hf
    refine dR [5] hsel (by kernel_rfl) hf rfl rfl (.inl hS0) ?_
    clear hf a; intro a hf
    refine dL 6 rfl rfl hsel (by kernel_rfl) hf rfl hS0 (fun x hS => ex_load hf rfl (by kernel_rfl) (hS.2.2.trans ((s_hB1.cell 0).trans rfl))) ?_
    clear hf a; intro a hf
    refine dV 7 rfl rfl hsel (by kernel_rfl) hf rfl (.inl hS0) (fun x => ex_eqI (c := false) hf rfl rfl (by simp [hk1])) ?_
    clear hf a; intro a hf
    refine dR [8, 9, 10, 11] hsel (by kernel_rfl) hf rfl rfl (.inl hS0) ?_
    clear hf a; intro a hf
    refine dl_c 12 (by kernel_rfl) rfl hf rfl rfl rfl (by kernel_rfl) (bool_is (calls_eq (triviaR ls[i] false _ (by omega))) hbt) ?_
    rintro _ w30 ⟨rfl, hx29⟩
    refine ⟨_, rfl, ?_⟩
    clear hf a; intro a hf
    replace hB1 := hB1.c0 hx29
    replace hK0 := (hx29.cell lt_lb nm0).trans hK0
    replace lt_lb := hx29.lt lt_lb
    replace hE := hE.t0 hx29
    clear hS0
    have hS0 : w30.cell? ⟨b1, 2, none⟩ = w'.cell? ⟨b1, 2, none⟩ ∧ w30.cell? ⟨lb, lo + i * 1, none⟩ = w'.cell? ⟨lb, lo + i * 1, none⟩ ∧ w30.cell? ⟨b1, 0, none⟩ = w'.cell? ⟨b1, 0, none⟩ := ⟨(hB1.cell 2).trans (s_hB1.cell 2).symm, (hK0.trans s_hK0.symm), (hB1.cell 0).trans (s_hB1.cell 0).symm⟩
    refine ⟨.inl hS0, ?_⟩
    refine dR [13] hsel (by kernel_rfl) hf rfl rfl (.inl hS0) ?_
    clear hf a; intro a hf
    refine rN (by kernel_rfl) ?_
    clear hS0 hsel
    refine rR 7 hf rfl ?_
    clear hf a; intro a hf
    refine rV hf rfl (ex_addI hf rfl rfl rfl (by omega)) ?_
    clear hf a; intro a hf
    refine rR 2 hf rfl ?_
    clear hf a; intro a hf
    exact rX ⟨_, (by omega : ls.length - (i + 1) < ls.length - i), i + 1, hf.pick ⟨rfl, rfl, trivial⟩, hE, hB1, by omega, rfl, by rw [← hm, hmm, hbt]; rfl⟩
    refine rR 5 hf rfl ?_
    clear hf a; intro a hf
    refine rV hf rfl (ex_loadB hf rfl (by kernel_rfl) hB1 rfl) ?_
    clear hf a; intro a hf
    refine rV hf rfl (ex_len hf Try.underlying23 rfl) ?_
    clear hf a; intro a hf
    refine rV hf rfl (ex_ltI (c := true) hf rfl rfl (by simp; omega)) ?_
    clear hf a; intro a hf
    refine rR 8 hf rfl ?_
    clear hf a; intro a hf
    have s_hK0 := hK0
    have s_hB1 := hB1
    refine rD (fun x => x.cell? ⟨b1, 2, none⟩ = w'.cell? ⟨b1, 2, none⟩ ∧ x.cell? ⟨lb, lo + i * 1, none⟩ = w'.cell? ⟨lb, lo + i * 1, none⟩ ∧ x.cell? ⟨b1, 0, none⟩ = w'.cell? ⟨b1, 0, none⟩) 14 14 rfl (by kernel_rfl) (by kernel_rfl) ?_
    intro w31 hx32 hsel
    replace hB1 := hB1.c0 hx32
    replace hK0 := (hx32.cell lt_lb nm0).trans hK0
    replace lt_lb := hx32.lt lt_lb
    replace hE := hE.t0 hx32
    have hS0 : w31.cell? ⟨b1, 2, none⟩ = w'.cell? ⟨b1, 2, none⟩ ∧ w31.cell? ⟨lb, lo + i * 1, none⟩ = w'.cell? ⟨lb, lo + i * 1, none⟩ ∧ w31.cell? ⟨b1, 0, none⟩ = w'.cell? ⟨b1, 0, none⟩ := ⟨(hB1.cell 2).trans (s_hB1.cell 2).symm, (hK0.trans s_hK0.symm), (hB1.cell 0).trans (s_hB1.cell 0).symm⟩
    refine dR [0] hsel (by kernel_rfl) hf rfl rfl (.inl hS0) ?_
    clear hf a; intro a hf
    refine dL 1 rfl rfl hsel (by kernel_rfl) hf rfl hS0 (fun x hS => ex_load hf rfl (by kernel_rfl) (hS.1.trans ((s_hB1.cell 2).trans rfl))) ?_
    clear hf a; intro a hf
    refine dR [2] hsel (by kernel_rfl) hf rfl rfl (.inl hS0) ?_
    clear hf a; intro a hf
    refine dV 3 rfl rfl hsel (by kernel_rfl) hf rfl (.inl hS0) (fun x => ex_index (sz := 1) (k := i) (r := lo + i * 1) hf Try.underlying23 (by kernel_rfl) rfl rfl rfl hlt rfl) ?_
    clear hf a; intro a hf
    refine dL 4 rfl rfl hsel (by kernel_rfl) hf rfl hS0 (fun x hS => ex_load hf rfl (by kernel_rfl) (hS.2.1.trans s_hK0)) ?_
    clear hf a; intro a hf
    refine dR [5] hsel (by kernel_rfl) hf rfl rfl (.inl hS0) ?_
    clear hf a; intro a hf
    refine dL 6 rfl rfl hsel (by kernel_rfl) hf rfl hS0 (fun x hS => ex_load hf rfl (by kernel_rfl) (hS.2.2.trans ((s_hB1.cell 0).trans rfl))) ?_
    clear hf a; intro a hf
    refine dV 7 rfl rfl hsel (by kernel_rfl) hf rfl (.inl hS0) (fun x => ex_eqI (c := false) hf rfl rfl (by simp [hk1])) ?_
    clear hf a; intro a hf
    refine dR [8, 9, 10, 11] hsel (by kernel_rfl) hf rfl rfl (.inl hS0) ?_
    clear hf a; intro a hf
    refine dl_c 12 (by kernel_rfl) rfl hf rfl rfl rfl (by kernel_rfl) (bool_is (calls_eq (triviaR ls[i] false _ (by omega))) hbt) ?_
    rintro _ w34 ⟨rfl, hx33⟩
    refine ⟨_, rfl, ?_⟩
    clear hf a; intro a hf
    replace hB1 := hB1.c0 hx33
    replace hK0 := (hx33.cell lt_lb nm0).trans hK0
    replace lt_lb := hx33.lt lt_lb
    replace hE := hE.t0 hx33
    clear hS0
    have hS0 : w34.cell? ⟨b1, 2, none⟩ = w'.cell? ⟨b1, 2, none⟩ ∧ w34.cell? ⟨lb, lo + i * 1, none⟩ = w'.cell? ⟨lb, lo + i * 1, none⟩ ∧ w34.cell? ⟨b1, 0, none⟩ = w'.cell? ⟨b1, 0, none⟩ := ⟨(hB1.cell 2).trans (s_hB1.cell 2).symm, (hK0.trans s_hK0.symm), (hB1.cell 0).trans (s_hB1.cell 0).symm⟩
    refine ⟨.inl hS0, ?_⟩
    refine dR [13] hsel (by kernel_rfl) hf rfl rfl (.inl hS0) ?_
    clear hf a; intro a hf
    refine rN (by kernel_rfl) ?_
    clear hS0 hsel
    refine rR 10 hf rfl ?_
    clear hf a; intro a hf
    refine rOr ?_
    refine rR 2 hf rfl ?_
    clear hf a; intro a hf
    exact rT (rs := [.tmp 2]) hf rfl ⟨_, _, rfl, rfl, rfl⟩ ⟨ret_b (by rw [leadedT, ← hm, hmm, hbt]; simp), hE⟩
    have hz : ls.drop i = [] := List.drop_of_length_le (by omega)
    rw [hz, trivsT] at hm
    refine rR 5 hf rfl ?_
    clear hf a; intro a hf
    refine rV hf rfl (ex_loadB hf rfl (by kernel_rfl) hB1 rfl) ?_
    clear hf a; intro a hf
    refine rV hf rfl (ex_len hf Try.underlying23 rfl) ?_
    clear hf a; intro a hf
    refine rV hf rfl (ex_ltI (c := false) hf rfl rfl (by simp; omega)) ?_
    clear hf a; intro a hf
    refine rR 5 hf rfl ?_
    clear hf a; intro a hf
    refine rO ?_
    refine rR 9 hf rfl ?_
    clear hf a; intro a hf
    clear hi hlt
    refine rL (fun g a w' => ∃ i, Fr a 50 (fm [(1, .pointer (some ⟨b1, 0, none⟩)), (4, .int .i64 (i : Nat))]) ∧ Chg [] w w' ∧ Blk w' b1 26 [.int .i64 k, strV tx, .slice A ls.length m0, .slice B ks.length n] ∧ i ≤ ks.length ∧ g = ks.length - i ∧ leadedsT (ks.drop i) = leadedsT ks) _ ⟨0, hf.pick ⟨rfl, rfl, trivial⟩, hE, hB1, Nat.zero_le _, rfl, rfl⟩ ?_
    clear hf a
    intro g0 a w' hI
    obtain ⟨i, hf, hE, hB1, hi, rfl, hm2⟩ := hI
    by_cases hlt : i < ks.length
    obtain ⟨kb, ko, rfl, _, hkb, hcell⟩ := hrow.2 (by omega)
    obtain ⟨d0, d1, d2, d3, hT, hK⟩ := kid_cells hkids hkb hcell hlt hE
    have on_T := hT.one
    have htt := kbulk_at hlt
    have hts := tsize_at hlt
    have lt_kb := hE.lt hkb
    have hmm := leadedsT_step hlt
    refine rR 5 hf rfl ?_
    clear hf a; intro a hf
    refine rV hf rfl (ex_loadB hf rfl (by kernel_rfl) hB1 rfl) ?_
    clear hf a; intro a hf
    refine rV hf rfl (ex_len hf Try.underlying24 rfl) ?_
    clear hf a; intro a hf
    refine rV hf rfl (ex_ltI (c := true) hf rfl rfl (by simp; omega)) ?_
    clear hf a; intro a hf
    refine rR 10 hf rfl ?_
    clear hf a; intro a hf
    refine rV hf rfl (ex_loadB hf rfl (by kernel_rfl) hB1 rfl) ?_
    clear hf a; intro a hf
    refine rR 1 hf rfl ?_
    clear hf a; intro a hf
    refine rV hf rfl (ex_index (sz := 4) (k := i) (r := ko + i * 4) hf Try.underlying24 (by kernel_rfl) rfl rfl rfl hlt rfl) ?_
    clear hf a; intro a hf
    refine rV hf rfl (ex_loadN (cs := [d0, d1, d2, d3]) (m := 4) hf rfl (by kernel_rfl) rfl hK) ?_
    clear hf a; intro a hf
    rcases Bool.eq_false_or_eq_true (leadedT ks[i]) with hbk | hbk
    refine rC hf rfl rfl (by kernel_rfl) (bool_is (ih _ _ _ _ _ _ _ (by omega) (by omega) hT) hbk) ?_
    rintro _ w36 ⟨rfl, hx35⟩
    refine ⟨_, rfl, ?_⟩
    clear hf a; intro a hf
    replace hB1 := hB1.c0 hx35
    replace hT := hT.t0 hx35
    replace hK := fun j hj => (hx35.cell lt_kb nm0).trans (hK j hj)
    replace lt_kb := hx35.lt lt_kb
    replace hE := hE.t0 hx35
    refine rR 9 hf rfl ?_
    clear hf a; intro a hf
    refine rV hf rfl (ex_addI hf rfl rfl rfl (by omega)) ?_
    clear hf a; intro a hf
    refine rR 2 hf rfl ?_
    clear hf a; intro a hf
    exact rX ⟨_, (by omega : ks.length - (i + 1) < ks.length - i), i + 1, hf.pick ⟨rfl, rfl, trivial⟩, hE, hB1, by omega, rfl, by rw [← hm2, hmm, hbk]; rfl⟩
    refine rC hf rfl rfl (by kernel_rfl) (bool_is (ih _ _ _ _ _ _ _ (by omega) (by omega) hT) hbk) ?_
    rintro _ w37 ⟨rfl, hx35⟩
    refine ⟨_, rfl, ?_⟩
    clear hf a; intro a hf
    replace hB1 := hB1.c0 hx35
    replace hT := hT.t0 hx35
    replace hK := fun j hj => (hx35.cell lt_kb nm0).trans (hK j hj)
    replace lt_kb := hx35.lt lt_kb
    replace hE := hE.t0 hx35
    refine rR 12 hf rfl ?_
    clear hf a; intro a hf
    refine rOr ?_
    refine rR 2 hf rfl ?_
    clear hf a; intro a hf
    exact rT (rs := [.tmp 2]) hf rfl ⟨_, _, rfl, rfl, rfl⟩ ⟨ret_b (by rw [leadedT, ← hm2, hmm, hbk]; simp), hE⟩
    have hz : ks.drop i = [] := List.drop_of_length_le (by omega)
    rw [hz, leadedsT] at hm2
    refine rR 5 hf rfl ?_
    clear hf a; intro a hf
    refine rV hf rfl (ex_loadB hf rfl (by kernel_rfl) hB1 rfl) ?_
    clear hf a; intro a hf
    refine rV hf rfl (ex_len hf Try.underlying24 rfl) ?_
    clear hf a; intro a hf
    refine rV hf rfl (ex_ltI (c := false) hf rfl rfl (by simp; omega)) ?_
    clear hf a; intro a hf
    refine rR 5 hf rfl ?_
    clear hf a; intro a hf
    refine rO ?_
    refine rR 8 hf rfl ?_
    clear hf a; intro a hf
    exact rT (rs := [.tmp 2]) hf rfl ⟨_, _, rfl, rfl, rfl⟩ ⟨ret_b (by rw [leadedT, ← hm, ← hm2]; simp [hne]), hE⟩
  · skip
    refine rE 50 Try.func63 rfl rfl rfl ?_
    intro a hf
    have hE := Chg.refl [] w
    refine rR 2 hf rfl fun a hf => ?_
    obtain ⟨w1, b2, he, hB3, hx4, eb5, lb6⟩ := ef_box (P := Try.prog) (t := 26) (x := (.tmp 0)) hf rfl rfl w 0
    refine rV hf rfl he fun a hf => ?_
    have ge_b2 := ge_new hE eb5
    replace hE := hE.t0 hx4
    clear eb5 lb6
    refine rR 5 hf rfl fun a hf => ?_
    have s_hB3 := hB3
    refine rD (fun x => x.cell? ⟨b2, 2, none⟩ = w1.cell? ⟨b2, 2, none⟩ ∧ x.cell? ⟨b2, 0, none⟩ = w1.cell? ⟨b2, 0, none⟩ ∧ x.cell? ⟨b2, 3, none⟩ = w1.cell? ⟨b2, 3, none⟩) 10 10 rfl (by kernel_rfl) (by kernel_rfl) ?_
    intro w7 hx8 hsel
    replace hB3 := hB3.c0 hx8
    replace hE := hE.t0 hx8
    have hS0 : w7.cell? ⟨b2, 2, none⟩ = w1.cell? ⟨b2, 2, none⟩ ∧ w7.cell? ⟨b2, 0, none⟩ = w1.cell? ⟨b2, 0, none⟩ ∧ w7.cell? ⟨b2, 3, none⟩ = w1.cell? ⟨b2, 3, none⟩ := ⟨(hB3.cell 2).trans (s_hB3.cell 2).symm, (hB3.cell 0).trans (s_hB3.cell 0).symm, (hB3.cell 3).trans (s_hB3.cell 3).symm⟩
    refine dR [0] hsel (by kernel_rfl) hf rfl rfl (.inl hS0) fun a hf => dL 1 rfl rfl hsel (by kernel_rfl) hf rfl hS0 (fun x hS => ex_load hf rfl (by kernel_rfl) (hS.1.trans ((s_hB3.cell 2).trans rfl))) fun a hf => dV 2 rfl rfl hsel (by kernel_rfl) hf rfl (.inl hS0) (fun x => ex_len hf Try.underlying23 rfl) fun a hf => dR [3] hsel (by kernel_rfl) hf rfl rfl (.inl hS0) fun a hf => dL 4 rfl rfl hsel (by kernel_rfl) hf rfl hS0 (fun x hS => ex_load hf rfl (by kernel_rfl) (hS.2.1.trans ((s_hB3.cell 0).trans rfl))) fun a hf => dR [5] hsel (by kernel_rfl) hf rfl rfl (.inl hS0) fun a hf => dL 6 rfl rfl hsel (by kernel_rfl) hf rfl hS0 (fun x hS => ex_load hf rfl (by kernel_rfl) (hS.2.2.trans ((s_hB3.cell 3).trans rfl))) fun a hf => dV 7 rfl rfl hsel (by kernel_rfl) hf rfl (.inl hS0) (fun x => ex_len hf Try.underlying24 rfl) fun a hf => dl_c 8 (by kernel_rfl) rfl hf rfl rfl rfl (by kernel_rfl) (leadsR (by omega)) ?_
    rintro _ w10 ⟨rfl, hx9⟩
    refine ⟨_, rfl, fun a hf => ?_⟩
    replace hB3 := hB3.c0 hx9
    replace hE := hE.t0 hx9
    clear hS0
    have hS0 : w10.cell? ⟨b2, 2, none⟩ = w1.cell? ⟨b2, 2, none⟩ ∧ w10.cell? ⟨b2, 0, none⟩ = w1.cell? ⟨b2, 0, none⟩ ∧ w10.cell? ⟨b2, 3, none⟩ = w1.cell? ⟨b2, 3, none⟩ := ⟨(hB3.cell 2).trans (s_hB3.cell 2).symm, (hB3.cell 0).trans (s_hB3.cell 0).symm, (hB3.cell 3).trans (s_hB3.cell 3).symm⟩
    refine ⟨.inl hS0, ?_⟩
    refine dV 9 rfl rfl hsel (by kernel_rfl) hf rfl (.inl hS0) (fun x => ex_neI (c := true) hf rfl rfl (by simp [hne])) fun a hf => rN (by kernel_rfl) ?_
    clear hS0 hsel
    refine rR 9 hf rfl fun a hf => ?_
    exact rT (rs := [.tmp 2]) hf rfl ⟨_, _, rfl, rfl, rfl⟩ ⟨ret_b (by rw [leadedT]; simp [hne]), hE⟩
theorem leadedR : ∀ N, LeadsROk N
  | 0 => fun t _ _ _ _ _ _ hN => by cases t; simp only [tsize] at hN; omega
  | N + 1 => leadsT_step (leadedR N)
theorem TreeIs.cellsR {S : Nat → Prop} {w : World} {t : Tree} {c0 c1 c2 c3 : Value} (h : TreeIs S w t [c0, c1, c2, c3]) : ∃ A m B n, [c0, c1, c2, c3] = [.int .i64 t.kind, strV t.text, .slice A t.leads.length m, .slice B t.kids.length n] := by
  obtain ⟨k, x, ls, ks⟩ := t
  simp only [TreeIs] at h
  obtain ⟨A, m, B, n, e, _⟩ := h
  exact ⟨A, m, B, n, e⟩
theorem printableR {t : Tree} {S : Nat → Prop} {w : World} {c0 c1 c2 c3 : Value} (hb : tbulk t ≤ 1000000000) (hT : TreeIs S w t [c0, c1, c2, c3]) : Calls Try.prog 34 [.agg #[c0, c1, c2, c3]].toArray w fun e w' => e = .returned (.bool (shapedT t && leadedT t)) ∧ Chg [] w w' := by
  obtain ⟨A, m1, B, m2, hc⟩ := hT.cellsR
  simp only [List.cons.injEq, and_true] at hc
  obtain ⟨rfl, rfl, rfl, rfl⟩ := hc
  refine rE 9 Try.func34 rfl rfl rfl ?_
  intro a hf
  have hE := Chg.refl [] w
  refine rR 2 hf rfl fun a hf => ?_
  obtain ⟨w1, b2, he, hB3, hx4, eb5, lb6⟩ := ef_box (P := Try.prog) (t := 26) (x := (.tmp 0)) hf rfl rfl w 0
  refine rV hf rfl he fun a hf => ?_
  have ge_b2 := ge_new hE eb5
  replace hT := hT.t0 hx4
  replace hE := hE.t0 hx4
  clear eb5 lb6
  refine rR 5 hf rfl fun a hf => rV hf rfl (ex_loadBN (m := 4) hf rfl (by kernel_rfl) hB3 rfl) fun a hf => ?_
  rcases Bool.eq_false_or_eq_true (shapedT t) with hbs | hbs
  refine rC hf rfl rfl (by kernel_rfl) (bool_is (shapedR _ t _ _ _ _ _ _ (Nat.le_refl _) (by omega) hT) hbs) ?_
  rintro _ w8 ⟨rfl, hx7⟩
  refine ⟨_, rfl, fun a hf => ?_⟩
  replace hB3 := hB3.c0 hx7
  replace hT := hT.t0 hx7
  replace hE := hE.t0 hx7
  refine rR 1 hf rfl fun a hf => rV hf rfl (ex_loadBN (m := 4) hf rfl (by kernel_rfl) hB3 rfl) fun a hf => ?_
  rcases Bool.eq_false_or_eq_true (leadedT t) with hbl | hbl
  refine rC hf rfl rfl (by kernel_rfl) (bool_is (leadedR _ t _ _ _ _ _ _ (Nat.le_refl _) (by omega) hT) hbl) ?_
  rintro _ w10 ⟨rfl, hx9⟩
  refine ⟨_, rfl, fun a hf => ?_⟩
  replace hB3 := hB3.c0 hx9
  replace hT := hT.t0 hx9
  replace hE := hE.t0 hx9
  refine rR 5 hf rfl fun a hf => ?_
  exact rT (rs := [.tmp 2]) hf rfl ⟨_, _, rfl, rfl, rfl⟩ ⟨ret_b (by simp [hbs, hbl]), hE⟩
  refine rC hf rfl rfl (by kernel_rfl) (bool_is (leadedR _ t _ _ _ _ _ _ (Nat.le_refl _) (by omega) hT) hbl) ?_
  rintro _ w11 ⟨rfl, hx9⟩
  refine ⟨_, rfl, fun a hf => ?_⟩
  replace hB3 := hB3.c0 hx9
  replace hT := hT.t0 hx9
  replace hE := hE.t0 hx9
  refine rR 5 hf rfl fun a hf => ?_
  exact rT (rs := [.tmp 2]) hf rfl ⟨_, _, rfl, rfl, rfl⟩ ⟨ret_b (by simp [hbs, hbl]), hE⟩
  refine rC hf rfl rfl (by kernel_rfl) (bool_is (shapedR _ t _ _ _ _ _ _ (Nat.le_refl _) (by omega) hT) hbs) ?_
  rintro _ w12 ⟨rfl, hx7⟩
  refine ⟨_, rfl, fun a hf => ?_⟩
  replace hB3 := hB3.c0 hx7
  replace hT := hT.t0 hx7
  replace hE := hE.t0 hx7
  refine rR 8 hf rfl fun a hf => ?_
  exact rT (rs := [.tmp 2]) hf rfl ⟨_, _, rfl, rfl, rfl⟩ ⟨ret_b (by simp [hbs]), hE⟩
end Go.Proofs.Ythpjpngfghcmcaa
namespace Go.Proofs.Ythpjpngfghcmcaa
open Go.RowKit Lx Sx
set_option maxRecDepth 100000
set_option maxHeartbeats 4000000
abbrev Pc := List UInt8 × List UInt8
def pcC : List Pc → List Value
  | [] => []
  | (a, b) :: r => strV a :: strV b :: pcC r
theorem pcC_len : ∀ ps : List Pc, (pcC ps).length = ps.length * 2
  | [] => rfl
  | (a, b) :: r => by simp only [pcC, List.length_cons, pcC_len r]; omega
theorem pcC_app : ∀ a b : List Pc, pcC (a ++ b) = pcC a ++ pcC b
  | [], b => rfl
  | (x, y) :: r, b => by simp only [List.cons_append, pcC, pcC_app r b]
theorem pcC_one : ∀ ps : List Pc, (pcC ps).all (·.oneCell') = true
  | [] => rfl
  | (a, b) :: r => by simp only [pcC, List.all_cons, pcC_one r]; rfl
def rowC (ls : List (List UInt8)) (c : Nat) : List (List Pc) → Nat → List Pc
  | [], _ => []
  | f :: r, i => (if 0 < i then [(ls.getD (c + i - 1) [], [44])] else []) ++ f ++ rowC ls c r (i + 1)
def nodeC (k : Int) (x : List UInt8) (ls : List (List UInt8)) (fs : List (List Pc)) : List Pc :=
  let L := fun i => ls.getD i []
  let F := fun (i : Nat) => fs.getD i []
  if k = 1 then [(L 0, [109, 111, 100, 117, 108, 101]), (L 1, x)] ++ fs.flatten ++ [(L 2, [])]
  else if k = 2 then [(L 0, [100, 101, 102]), (L 1, x), (L 2, [40])] ++ rowC ls 6 (fs.take (fs.length - 2)) 0 ++ [(L 3, [41]), (L 4, [58])] ++ F (fs.length - 2) ++ [(L 5, [61])] ++ F (fs.length - 1)
  else if k = 3 then [(L 0, [116, 121, 112, 101]), (L 1, x), (L 2, [61])] ++ F 0
  else if k = 4 then [(L 0, x), (L 1, [58])] ++ F 0
  else if k = 8 then [(L 0, [91])] ++ F 0 ++ [(L 1, [93])]
  else if k = 16 then [(L 0, x), (L 1, [40])] ++ rowC ls 3 fs 0 ++ [(L 2, [41])]
  else if k = 17 then F 0
  else if k = 18 then [(L 0, [91])] ++ rowC ls 2 fs 0 ++ [(L 1, [93])]
  else if k = 19 then [(L 0, [105, 102])] ++ F 0 ++ [(L 1, [116, 104, 101, 110])] ++ F 1 ++ [(L 2, [101, 108, 115, 101])] ++ F 2
  else if k = 20 then [(L 0, [108, 101, 116]), (L 1, x), (L 2, [61])] ++ F 0 ++ [(L 3, [105, 110])] ++ F 1
  else if k = 21 then F 0 ++ [(L 0, x)] ++ F 1
  else if k = 22 then [(L 0, [40])] ++ F 0 ++ [(L 1, [41])]
  else [(L 0, singleT k x)]
mutual
def pcsT : Tree → List Pc
  | .node k x ls ks => nodeC k x ls (pcsTs ks)
def pcsTs : List Tree → List (List Pc)
  | [] => []
  | t :: r => pcsT t :: pcsTs r
end
abbrev Ow (Bs : Nat) (w : World) (v : Value) (ps : List Pc) : Prop := w.ownsRow Bs 57 2 v ps.length (pcC ps)
def Fresh (w : World) (v v' : Value) : Prop := v'.ownBlock = v.ownBlock ∨ ∃ g, v'.ownBlock = some g ∧ w.heap.size ≤ g
section
variable {Bs : Nat} {w w0 w1 : World} {v v' : Value} {ps qs : List Pc} {b : Nat}
theorem Ow.t0 (h : Ow Bs w v ps) (hx : Chg [] w w1) : Ow Bs w1 v ps := own_chg h hx (fun _ _ => nm0)
theorem Ow.ge (h : Ow Bs w v ps) {g : Nat} (e : v.ownBlock = some g) : Bs ≤ g ∧ g < w.heap.size := h.lt g e
theorem nmO (h : v.ownBlock ≠ some b) : b ∉ v.ownBlock.toList := by simpa using h
theorem own_ne (h : Fresh w v v') (hn : v.ownBlock ≠ some b) (hb : b < w.heap.size) : v'.ownBlock ≠ some b := by
  rcases h with h | ⟨g, h, hg⟩
  · rw [h]; exact hn
  · rw [h]; intro e; injection e with e; omega
theorem own_from {VB : List Nat} (h : Fresh w v v') (hg : ∀ g, v.ownBlock = some g → g ∈ VB ∨ w0.heap.size ≤ g) (hs : w0.heap.size ≤ w.heap.size) : ∀ g, v'.ownBlock = some g → g ∈ VB ∨ w0.heap.size ≤ g := by
  intro g e
  rcases h with h | ⟨g', h, hg'⟩
  · exact hg g (h ▸ e)
  · rw [h] at e; injection e with e; right; omega
theorem chg_own {VB : List Nat} (hE : Chg VB w0 w) (hx : Chg v.ownBlock.toList w w1) (hg : ∀ g, v.ownBlock = some g → g ∈ VB ∨ w0.heap.size ≤ g) : Chg VB w0 w1 := hE.trans hx (fun x h => hg x (by simpa using h))
theorem fresh_all (h : ∀ g, v'.ownBlock = some g → g ∈ v.ownBlock.toList ∨ w.heap.size ≤ g) (hs : v'.ownBlock.isSome = true ∨ v'.ownBlock = v.ownBlock) : Fresh w v v' := by
  cases e : v'.ownBlock with
  | none =>
    rcases hs with hs | hs
    · rw [e] at hs; cases hs
    · exact .inl hs
  | some g =>
    rcases h g e with h | h
    · have h2 : v.ownBlock = some g := by simpa using h
      exact .inl (e.trans h2.symm)
    · exact .inr ⟨g, e, h⟩
end
theorem eP {a : Act} {n : Nat} {f : Nat → Option Value} {Bs : Nat} {w : World} {v : Value} {ps : List Pc} {g m c : Nat} (x y : Operand) (qs : List Pc) (h : Fr a n f) (hx : valF f x = some v) (hy : valF f y = some (.slice (some ⟨g, 0, none⟩) m c)) (hO : Ow Bs w v ps) (hb : Blk w g 57 (pcC qs)) (hm : qs.length = m) (hlen : ps.length + qs.length ≤ 1000000000) (hbase : Bs ≤ w.heap.size) (ty : TypeId) :
    ∃ v' w', Runs Try.prog a ty (.call { callee := .builtin .append, args := #[x, y], argTypes := #[54, 54] }) w (.value v') w' ∧ Ow Bs w' v' (ps ++ qs) ∧ Chg v.ownBlock.toList w w' ∧ Fresh w v v' := by
  subst hm
  obtain ⟨v', w', h1, h2, h3, h4⟩ := ef_append (P := Try.prog) (t := 54) (e := 57) (z := .agg #[.string ⟨([] : List UInt8).toArray⟩, .string ⟨([] : List UInt8).toArray⟩]) (sz := 2) (by_ := 32) h hx hy Try.underlying54 (by kernel_rfl) rfl rfl hO hb (pcC_len qs) (pcC_one qs) (by simp only [maxLen]; omega) (by omega) hbase ty
  refine ⟨v', w', h1, ?_, h3, h4.imp id fun e => ⟨_, e, Nat.le_refl _⟩⟩
  unfold Ow
  rw [pcC_app, List.length_append]; exact h2
theorem low_now {Bs : Nat} {VB : List Nat} {w w' : World} {b o : Nat} (hE : Chg VB w w') (hVB : ∀ g, g ∈ VB → Bs ≤ g) (hb : b < w.heap.size) (hB : b < Bs) : w'.cell? ⟨b, o, none⟩ = w.cell? ⟨b, o, none⟩ := hE.cell hb (fun h => by have := hVB b h; omega)
theorem tree_now {Bs : Nat} {VB : List Nat} {w w' : World} {t : Tree} {c : List Value} (hT : TreeIs (fun b => b < Bs) w t c) (hE : Chg VB w w') (hVB : ∀ g, g ∈ VB → Bs ≤ g) : TreeIs (fun b => b < Bs) w' t c := hT.chg hE (fun b hb _ h => by have := hVB b h; omega)
theorem row_now {Bs : Nat} {VB : List Nat} {w w' : World} {sz n : Nat} {A : Option Addr} {c : List Value} (hT : RowIn (fun b => b < Bs) w sz A n c) (hE : Chg VB w w') (hVB : ∀ g, g ∈ VB → Bs ≤ g) : RowIn (fun b => b < Bs) w' sz A n c := hT.keepB (fun _ h _ => h) (fun b hb hlt => hE.block b hlt (fun h => by have := hVB b h; omega))
theorem kid_at {Bs : Nat} {w : World} {ks : List Tree} {cs : List Value} {kb ko n : Nat} {t : Tree} {i : Nat} (hK : KidsAre (fun b => b < Bs) w ks cs) (hR : RowIn (fun b => b < Bs) w 4 (some ⟨kb, ko, none⟩) n cs) (hn : n = ks.length) (hi : ks[i]? = some t) :
    ∃ c0 c1 c2 c3, TreeIs (fun b => b < Bs) w t [c0, c1, c2, c3] ∧ ∀ j, j < 4 → w.cell? ⟨kb, ko + i * 4 + j, none⟩ = ([c0, c1, c2, c3] : List Value)[j]? := by
  obtain ⟨hil, rfl⟩ := List.getElem?_eq_some_iff.1 hi
  obtain ⟨b', off, e, hS, hlt, hc⟩ := hR.2 (by omega)
  injection e with e
  injection e with e1 e2
  subst e1 e2
  obtain ⟨c0, c1, c2, c3, hT, h0, h1, h2, h3⟩ := hK.at_ hil
  refine ⟨c0, c1, c2, c3, hT, fun j hj => ?_⟩
  rw [Nat.add_assoc, hc _ (by omega)]
  rcases (by omega : j = 0 ∨ j = 1 ∨ j = 2 ∨ j = 3) with rfl | rfl | rfl | rfl
  · exact h0
  · exact h1
  · exact h2
  · exact h3
theorem leadAtR {k : Int} {tx : List UInt8} {ls : List (List UInt8)} {A B : Option Addr} {m q c j : Nat} {ji : Int} {S : Nat → Prop} {w : World} (hj : ji = j) (hrowL : RowIn S w 1 A ls.length (ls.map strV)) : Calls Try.prog 96 [.agg #[.int .i64 k, strV tx, .slice A ls.length m, .slice B q c], .int .i64 ji].toArray w fun e w' => e = .returned (strV (ls.getD j [])) ∧ Chg [] w w' := by
  subst hj
  refine rE 15 Try.func96 rfl rfl rfl ?_
  intro a hf
  have hE := Chg.refl [] w
  refine rR 2 hf rfl ?_
  clear hf a; intro a hf
  obtain ⟨w1, b2, he, hB3, hx4, eb5, lb6⟩ := ef_box (P := Try.prog) (t := 26) (x := (.tmp 0)) hf rfl rfl w 0
  refine rV hf rfl he ?_
  clear he hf a; intro a hf
  have ge_b2 := ge_new hE eb5
  replace hE := hE.t0 hx4
  clear eb5 lb6
  refine rR 8 hf rfl ?_
  clear hf a; intro a hf
  refine rV hf rfl (ex_loadB hf rfl (by kernel_rfl) hB3 rfl) ?_
  clear hf a; intro a hf
  refine rV hf rfl (ex_len hf Try.underlying23 rfl) ?_
  clear hf a; intro a hf
  refine rB hf rfl (fun c hc => ex_ltI hf rfl rfl hc) ?_ ?_
  clear hf a; intro h9 a hf
  have hlt : j < ls.length := by simp at h9; omega
  obtain ⟨lb, lo, rfl, _, hlb, hcellL⟩ := hrowL.2 (by omega)
  have hK0 : w1.cell? ⟨lb, lo + j * 1, none⟩ = some (strV (ls.getD j [])) := by rw [hE.cell hlb nm0, Nat.mul_one, hcellL _ (by omega)]; simp [hlt, List.getD_eq_getElem?_getD]
  refine rR 6 hf rfl ?_
  clear hf a; intro a hf
  refine rV hf rfl (ex_loadB hf rfl (by kernel_rfl) hB3 rfl) ?_
  clear hf a; intro a hf
  refine rR 1 hf rfl ?_
  clear hf a; intro a hf
  refine rV hf rfl (ex_index (sz := 1) (k := j) (r := lo + j * 1) hf Try.underlying23 (by kernel_rfl) rfl rfl rfl hlt rfl) ?_
  clear hf a; intro a hf
  refine rV hf rfl (ex_load hf rfl (by kernel_rfl) hK0) ?_
  clear hf a; intro a hf
  refine rR 5 hf rfl ?_
  clear hf a; intro a hf
  exact rT (rs := [.tmp 4]) hf rfl ⟨_, _, rfl, rfl, rfl⟩ ⟨rfl, hE⟩
  clear hf a; intro h9 a hf
  have hge : ls.getD j [] = [] := by rw [List.getD_eq_getElem?_getD, List.getElem?_eq_none (by simp at h9; omega)]; rfl
  refine rR 11 hf rfl ?_
  clear hf a; intro a hf
  exact rT (rs := [.tmp 4]) hf rfl ⟨_, _, rfl, rfl, rfl⟩ ⟨by rw [hge]; rfl, hE⟩
end Go.Proofs.Ythpjpngfghcmcaa
namespace Go.Proofs.Ythpjpngfghcmcaa
open Go.RowKit Lx Sx
set_option maxRecDepth 100000
set_option maxHeartbeats 4000000
theorem nodeC_leaf {k : Int} {x l0 : List UInt8} (hk : k = 9 ∨ k = 10 ∨ k = 11 ∨ k = 12) : nodeC k x [l0] [] = [(l0, x)] := by
  rcases hk with rfl | rfl | rfl | rfl <;> simp [nodeC, singleT]
def PiecesOk (N : Nat) : Prop := ∀ (t : Tree) (w : World) (Bs : Nat) (v : Value) (ps : List Pc) (c0 c1 c2 c3 : Value), tsize t ≤ N → (shapedT t && leadedT t && decide (tbulk t ≤ 1000000000)) = true → ps.length + (pcsT t).length ≤ 1000000000 → Ow Bs w v ps → TreeIs (fun b => b < Bs) w t [c0, c1, c2, c3] → Bs ≤ w.heap.size →
  Calls Try.prog 64 [v, .agg #[c0, c1, c2, c3]].toArray w fun e w' => ∃ v', e = .returned v' ∧ Ow Bs w' v' (ps ++ pcsT t) ∧ Chg v.ownBlock.toList w w' ∧ Fresh w v v'
theorem pcsTs_length : ∀ ks : List Tree, (pcsTs ks).length = ks.length
  | [] => rfl
  | t :: r => by simp [pcsTs, pcsTs_length r]
theorem fresh_s {w : World} {v v' : Value} (h : Fresh w v v') : v'.ownBlock.isSome = true ∨ v'.ownBlock = v.ownBlock := by
  rcases h with h | ⟨g, h, _⟩
  · exact .inr h
  · exact .inl (by rw [h]; rfl)
theorem own_some {Bs : Nat} {w : World} {v : Value} {ps : List Pc} (h : Ow Bs w v ps) (hp : 0 < ps.length := by omega) : v.ownBlock.isSome = true := by
  obtain ⟨g, cap, hv, _, _⟩ := h.form hp
  rw [hv]; rfl
theorem p3 {N : Nat} (ih : PiecesOk N) {w : World} {Bs : Nat} {v0 : Value} {ps : List Pc} {x : List UInt8} {l0 l1 l2 : List UInt8} {k0 : Tree} {cs : List Value} {A B : Option Addr} {m n : Nat} (hks : ∀ t, t ∈ [k0] → tsize t ≤ N ∧ (shapedT t && leadedT t && decide (tbulk t ≤ 1000000000)) = true)
    (hl1 : ps.length + (pcsT (.node 3 x [l0, l1, l2] [k0])).length ≤ 1000000000) (hO : Ow Bs w v0 ps) (hL : RowIn (fun b => b < Bs) w 1 A [l0, l1, l2].length ([l0, l1, l2].map strV)) (hn0 : [k0].length ≤ n) (hn2 : n ≤ maxLen) (hK : KidsAre (fun b => b < Bs) w [k0] cs) (hR : RowIn (fun b => b < Bs) w 4 B [k0].length cs) (hBs : Bs ≤ w.heap.size) :
    Calls Try.prog 64 [v0, .agg #[.int .i64 3, strV x, .slice A [l0, l1, l2].length m, .slice B [k0].length n]].toArray w fun e w' => ∃ v', e = .returned v' ∧ Ow Bs w' v' (ps ++ pcsT (.node 3 x [l0, l1, l2] [k0])) ∧ Chg v0.ownBlock.toList w w' ∧ Fresh w v0 v' := by
  have hq : (pcsT (.node 3 x [l0, l1, l2] [k0])).length = 3 + (pcsT k0).length := by simp [pcsT, pcsTs, nodeC, singleT] <;> omega
  have hE := Chg.refl v0.ownBlock.toList w
  have hVB : ∀ g, g ∈ v0.ownBlock.toList → Bs ≤ g := fun g h => (hO.ge (by simpa using h)).1
  have hg : ∀ g, v0.ownBlock = some g → g ∈ v0.ownBlock.toList ∨ w.heap.size ≤ g := fun g e => .inl (by simpa using e)
  obtain ⟨kb, ko, rfl, lbB, hkb, _⟩ := hR.2 (by simp)
  obtain ⟨d00, d01, d02, d03, hT0, hc0⟩ := kid_at hK hR rfl (i := 0) (t := k0) rfl
  have on0 := hT0.one
  refine rE 365 Try.func64 rfl rfl rfl ?_
  intro a hf
  refine rR 2 hf rfl fun a hf => ?_
  obtain ⟨w1, b2, he, hB3, hx4, eb5, lb6⟩ := ef_box (P := Try.prog) (t := 26) (x := (.tmp 1)) hf rfl rfl w 0
  refine rV hf rfl he fun a hf => ?_
  have ge_b2 := ge_new hE eb5
  have hn : v0.ownBlock ≠ some b2 := fun e => by have := (hO.ge e).2; omega
  replace hO := hO.t0 hx4
  replace hE := hE.t0 hx4
  clear eb5 lb6
  refine rR 6 hf rfl fun a hf => rV hf rfl (ex_loadB hf rfl (by kernel_rfl) hB3 rfl) fun a hf => rV hf rfl (ex_len hf Try.underlying24 rfl) fun a hf => rR 7 hf rfl fun a hf => rV hf rfl (ex_loadB hf rfl (by kernel_rfl) hB3 rfl) fun a hf => rR 25 hf rfl fun a hf => ?_
  have hEs := hE
  have s_hB3 := hB3
  refine rD (fun x => x.cell? ⟨b2, 0, none⟩ = w1.cell? ⟨b2, 0, none⟩ ∧ x.cell? ⟨b2, 1, none⟩ = w1.cell? ⟨b2, 1, none⟩ ∧ x.cell? ⟨b2, 2, none⟩ = w1.cell? ⟨b2, 2, none⟩ ∧ x.cell? ⟨b2, 3, none⟩ = w1.cell? ⟨b2, 3, none⟩) 15 15 rfl (by kernel_rfl) (by kernel_rfl) ?_
  intro w7 hx8 hsel
  replace hB3 := hB3.c0 hx8
  replace hO := hO.t0 hx8
  replace hE := hE.t0 hx8
  have hS0 : w7.cell? ⟨b2, 0, none⟩ = w1.cell? ⟨b2, 0, none⟩ ∧ w7.cell? ⟨b2, 1, none⟩ = w1.cell? ⟨b2, 1, none⟩ ∧ w7.cell? ⟨b2, 2, none⟩ = w1.cell? ⟨b2, 2, none⟩ ∧ w7.cell? ⟨b2, 3, none⟩ = w1.cell? ⟨b2, 3, none⟩ := ⟨(hB3.cell 0).trans (s_hB3.cell 0).symm, (hB3.cell 1).trans (s_hB3.cell 1).symm, (hB3.cell 2).trans (s_hB3.cell 2).symm, (hB3.cell 3).trans (s_hB3.cell 3).symm⟩
  refine dR [0] hsel (by kernel_rfl) hf rfl rfl (.inl hS0) fun a hf => dL 1 rfl rfl hsel (by kernel_rfl) hf rfl hS0 (fun x hS => ex_loadX4 hf rfl (by kernel_rfl) s_hB3 rfl hS.1 hS.2.1 hS.2.2.1 hS.2.2.2) fun a hf => dL 4 rfl rfl hsel (by kernel_rfl) hf rfl hS0 (fun x hS => ex_loadX4 hf rfl (by kernel_rfl) s_hB3 rfl hS.1 hS.2.1 hS.2.2.1 hS.2.2.2) fun a hf => dR [6] hsel (by kernel_rfl) hf rfl rfl (.inl hS0) fun a hf => dL 7 rfl rfl hsel (by kernel_rfl) hf rfl hS0 (fun x hS => ex_load hf rfl (by kernel_rfl) (hS.2.1.trans ((s_hB3.cell 1).trans rfl))) fun a hf => dL 9 rfl rfl hsel (by kernel_rfl) hf rfl hS0 (fun x hS => ex_loadX4 hf rfl (by kernel_rfl) s_hB3 rfl hS.1 hS.2.1 hS.2.2.1 hS.2.2.2) fun a hf => dl_c 2 (by kernel_rfl) rfl hf rfl rfl rfl (by kernel_rfl) (leadAtR (ls := [l0, l1, l2]) (j := 0) rfl (row_now hL hE hVB)) ?_
  rintro _ w10 ⟨rfl, hx9⟩
  refine ⟨_, rfl, fun a hf => ?_⟩
  replace hB3 := hB3.c0 hx9
  replace hO := hO.t0 hx9
  replace hE := hE.t0 hx9
  clear hS0
  have hS0 : w10.cell? ⟨b2, 0, none⟩ = w1.cell? ⟨b2, 0, none⟩ ∧ w10.cell? ⟨b2, 1, none⟩ = w1.cell? ⟨b2, 1, none⟩ ∧ w10.cell? ⟨b2, 2, none⟩ = w1.cell? ⟨b2, 2, none⟩ ∧ w10.cell? ⟨b2, 3, none⟩ = w1.cell? ⟨b2, 3, none⟩ := ⟨(hB3.cell 0).trans (s_hB3.cell 0).symm, (hB3.cell 1).trans (s_hB3.cell 1).symm, (hB3.cell 2).trans (s_hB3.cell 2).symm, (hB3.cell 3).trans (s_hB3.cell 3).symm⟩
  refine ⟨.inl hS0, ?_⟩
  refine dV 3 rfl rfl hsel (by kernel_rfl) hf rfl (.inl hS0) (fun x => ex_bd (ps := [(0, (.tmp 98)), (1, (.const (.string ⟨#[116, 121, 112, 101]⟩)))]) (z := [.string ⟨([] : List UInt8).toArray⟩, .string ⟨([] : List UInt8).toArray⟩]) (os := [0, 1]) hf rfl (by kernel_rfl) (by kernel_rfl) (by kernel_rfl) rfl rfl) fun a hf => dl_c 5 (by kernel_rfl) rfl hf rfl rfl rfl (by kernel_rfl) (leadAtR (ls := [l0, l1, l2]) (j := 1) rfl (row_now hL hE hVB)) ?_
  rintro _ w12 ⟨rfl, hx11⟩
  refine ⟨_, rfl, fun a hf => ?_⟩
  replace hB3 := hB3.c0 hx11
  replace hO := hO.t0 hx11
  replace hE := hE.t0 hx11
  clear hS0
  have hS0 : w12.cell? ⟨b2, 0, none⟩ = w1.cell? ⟨b2, 0, none⟩ ∧ w12.cell? ⟨b2, 1, none⟩ = w1.cell? ⟨b2, 1, none⟩ ∧ w12.cell? ⟨b2, 2, none⟩ = w1.cell? ⟨b2, 2, none⟩ ∧ w12.cell? ⟨b2, 3, none⟩ = w1.cell? ⟨b2, 3, none⟩ := ⟨(hB3.cell 0).trans (s_hB3.cell 0).symm, (hB3.cell 1).trans (s_hB3.cell 1).symm, (hB3.cell 2).trans (s_hB3.cell 2).symm, (hB3.cell 3).trans (s_hB3.cell 3).symm⟩
  refine ⟨.inl hS0, ?_⟩
  refine dV 8 rfl rfl hsel (by kernel_rfl) hf rfl (.inl hS0) (fun x => ex_bd (ps := [(0, (.tmp 101)), (1, (.tmp 103))]) (z := [.string ⟨([] : List UInt8).toArray⟩, .string ⟨([] : List UInt8).toArray⟩]) (os := [0, 1]) hf rfl (by kernel_rfl) (by kernel_rfl) (by kernel_rfl) rfl rfl) fun a hf => dl_c 10 (by kernel_rfl) rfl hf rfl rfl rfl (by kernel_rfl) (leadAtR (ls := [l0, l1, l2]) (j := 2) rfl (row_now hL hE hVB)) ?_
  rintro _ w14 ⟨rfl, hx13⟩
  refine ⟨_, rfl, fun a hf => ?_⟩
  replace hB3 := hB3.c0 hx13
  replace hO := hO.t0 hx13
  replace hE := hE.t0 hx13
  clear hS0
  have hS0 : w14.cell? ⟨b2, 0, none⟩ = w1.cell? ⟨b2, 0, none⟩ ∧ w14.cell? ⟨b2, 1, none⟩ = w1.cell? ⟨b2, 1, none⟩ ∧ w14.cell? ⟨b2, 2, none⟩ = w1.cell? ⟨b2, 2, none⟩ ∧ w14.cell? ⟨b2, 3, none⟩ = w1.cell? ⟨b2, 3, none⟩ := ⟨(hB3.cell 0).trans (s_hB3.cell 0).symm, (hB3.cell 1).trans (s_hB3.cell 1).symm, (hB3.cell 2).trans (s_hB3.cell 2).symm, (hB3.cell 3).trans (s_hB3.cell 3).symm⟩
  refine ⟨.inl hS0, ?_⟩
  refine dV 11 rfl rfl hsel (by kernel_rfl) hf rfl (.inl hS0) (fun x => ex_bd (ps := [(0, (.tmp 106)), (1, (.const (.string ⟨#[61]⟩)))]) (z := [.string ⟨([] : List UInt8).toArray⟩, .string ⟨([] : List UInt8).toArray⟩]) (os := [0, 1]) hf rfl (by kernel_rfl) (by kernel_rfl) (by kernel_rfl) rfl rfl) fun a hf => ?_
  obtain ⟨w15, b16, he, hB17, hx18, eb19, lb20⟩ := ef_bslice (P := Try.prog) (ps := [(0, (.tmp 99)), (1, (.tmp 104)), (2, (.tmp 107))]) (m := 3) (sz := 2) (z := [.string ⟨([] : List UInt8).toArray⟩, .string ⟨([] : List UInt8).toArray⟩]) hf rfl Try.underlying54 (by kernel_rfl) (by kernel_rfl) rfl rfl (by kernel_rfl) rfl w14 54
  refine dl_e 12 (by kernel_rfl) rfl hf rfl rfl he fun a hf => ?_
  have ne_b2_b16 : b2 ≠ b16 := ne_new hB3.lt eb19
  have ge_b16 := ge_new hE eb19
  replace hB3 := hB3.c0 hx18
  replace hO := hO.t0 hx18
  replace hE := hE.t0 hx18
  clear eb19 lb20
  clear hS0
  have hS0 : w15.cell? ⟨b2, 0, none⟩ = w1.cell? ⟨b2, 0, none⟩ ∧ w15.cell? ⟨b2, 1, none⟩ = w1.cell? ⟨b2, 1, none⟩ ∧ w15.cell? ⟨b2, 2, none⟩ = w1.cell? ⟨b2, 2, none⟩ ∧ w15.cell? ⟨b2, 3, none⟩ = w1.cell? ⟨b2, 3, none⟩ := ⟨(hB3.cell 0).trans (s_hB3.cell 0).symm, (hB3.cell 1).trans (s_hB3.cell 1).symm, (hB3.cell 2).trans (s_hB3.cell 2).symm, (hB3.cell 3).trans (s_hB3.cell 3).symm⟩
  refine ⟨.inl hS0, ?_⟩
  obtain ⟨v22, w21, he, hO23, hx24, hfr25⟩ := eP (.tmp 96) (.tmp 108) [(l0, [116, 121, 112, 101]), (l1, x), (l2, [61])] hf rfl rfl hO hB17 rfl (by (try simp only [List.length_cons, List.length_nil]); omega) (nlt hBs hE.size) 54
  refine dl_e 13 (by kernel_rfl) rfl hf rfl rfl he fun a hf => ?_
  have hn2 := own_ne hfr25 hn hB3.lt
  have hg2 := own_from hfr25 hg hE.size
  replace hB3 := hB3.chg hx24 (nmO hn)
  replace hE := chg_own hE hx24 hg
  clear hO hn hg hfr25
  have hO := hO23; clear hO23
  have hn := hn2; clear hn2
  have hg := hg2; clear hg2
  obtain ⟨ps26, eps26⟩ : ∃ z, z = ps ++ [(l0, [116, 121, 112, 101]), (l1, x), (l2, [61])] := ⟨_, rfl⟩
  rw [← eps26] at hO
  have lps26 : ps26.length = ps.length + 3 := by rw [eps26]; simp
  clear hS0
  have hS0 : w21.cell? ⟨b2, 0, none⟩ = w1.cell? ⟨b2, 0, none⟩ ∧ w21.cell? ⟨b2, 1, none⟩ = w1.cell? ⟨b2, 1, none⟩ ∧ w21.cell? ⟨b2, 2, none⟩ = w1.cell? ⟨b2, 2, none⟩ ∧ w21.cell? ⟨b2, 3, none⟩ = w1.cell? ⟨b2, 3, none⟩ := ⟨(hB3.cell 0).trans (s_hB3.cell 0).symm, (hB3.cell 1).trans (s_hB3.cell 1).symm, (hB3.cell 2).trans (s_hB3.cell 2).symm, (hB3.cell 3).trans (s_hB3.cell 3).symm⟩
  refine ⟨.inl hS0, ?_⟩
  refine dR [14] hsel (by kernel_rfl) hf rfl rfl (.inl hS0) fun a hf => rN (by kernel_rfl) ?_
  clear hS0 hsel
  refine rR 5 hf rfl fun a hf => rV hf rfl (ex_loadB hf rfl (by kernel_rfl) hB3 rfl) fun a hf => rV hf rfl (ex_index (sz := 4) (k := 0) (r := ko) hf Try.underlying24 (by kernel_rfl) rfl rfl rfl (by simp) rfl) fun a hf => rV hf rfl (ex_loadN (cs := [d00, d01, d02, d03]) (m := 4) hf rfl (by kernel_rfl) rfl (fun r hr => (low_now hE hVB hkb lbB).trans (hc0 r hr))) fun a hf => rC hf rfl rfl (by kernel_rfl) (ih k0 _ Bs _ ps26 _ _ _ _ (hks _ (by simp)).1 (hks _ (by simp)).2 (by omega) hO (tree_now hT0 hE hVB) (nlt hBs hE.size)) ?_
  rintro _ w31 ⟨v28, rfl, hO29, hx27, hfr30⟩
  refine ⟨_, rfl, fun a hf => ?_⟩
  have hn2 := own_ne hfr30 hn hB3.lt
  have hg2 := own_from hfr30 hg hE.size
  replace hB3 := hB3.chg hx27 (nmO hn)
  replace hE := chg_own hE hx27 hg
  clear hO hn hg hfr30
  have hO := hO29; clear hO29
  have hn := hn2; clear hn2
  have hg := hg2; clear hg2
  obtain ⟨ps32, eps32⟩ : ∃ z, z = ps26 ++ pcsT k0 := ⟨_, rfl⟩
  rw [← eps32] at hO
  have lps32 : ps32.length = ps26.length + (pcsT k0).length := by rw [eps32, List.length_append]
  refine rR 6 hf rfl fun a hf => ?_
  have eq : ps ++ pcsT (.node 3 x [l0, l1, l2] [k0]) = ps32 := by subst eps32; subst eps26; simp [pcsT, pcsTs, nodeC, singleT]
  exact rT (rs := [.tmp 4]) hf rfl ⟨_, _, rfl, rfl, rfl⟩ ⟨_, rfl, eq ▸ hO, hE, fresh_all hg (.inl (own_some hO))⟩
theorem p4 {N : Nat} (ih : PiecesOk N) {w : World} {Bs : Nat} {v0 : Value} {ps : List Pc} {x : List UInt8} {l0 l1 : List UInt8} {k0 : Tree} {cs : List Value} {A B : Option Addr} {m n : Nat} (hks : ∀ t, t ∈ [k0] → tsize t ≤ N ∧ (shapedT t && leadedT t && decide (tbulk t ≤ 1000000000)) = true)
    (hl1 : ps.length + (pcsT (.node 4 x [l0, l1] [k0])).length ≤ 1000000000) (hO : Ow Bs w v0 ps) (hL : RowIn (fun b => b < Bs) w 1 A [l0, l1].length ([l0, l1].map strV)) (hn0 : [k0].length ≤ n) (hn2 : n ≤ maxLen) (hK : KidsAre (fun b => b < Bs) w [k0] cs) (hR : RowIn (fun b => b < Bs) w 4 B [k0].length cs) (hBs : Bs ≤ w.heap.size) :
    Calls Try.prog 64 [v0, .agg #[.int .i64 4, strV x, .slice A [l0, l1].length m, .slice B [k0].length n]].toArray w fun e w' => ∃ v', e = .returned v' ∧ Ow Bs w' v' (ps ++ pcsT (.node 4 x [l0, l1] [k0])) ∧ Chg v0.ownBlock.toList w w' ∧ Fresh w v0 v' := by
  have hq : (pcsT (.node 4 x [l0, l1] [k0])).length = 2 + (pcsT k0).length := by simp [pcsT, pcsTs, nodeC, singleT] <;> omega
  have hE := Chg.refl v0.ownBlock.toList w
  have hVB : ∀ g, g ∈ v0.ownBlock.toList → Bs ≤ g := fun g h => (hO.ge (by simpa using h)).1
  have hg : ∀ g, v0.ownBlock = some g → g ∈ v0.ownBlock.toList ∨ w.heap.size ≤ g := fun g e => .inl (by simpa using e)
  obtain ⟨kb, ko, rfl, lbB, hkb, _⟩ := hR.2 (by simp)
  obtain ⟨d00, d01, d02, d03, hT0, hc0⟩ := kid_at hK hR rfl (i := 0) (t := k0) rfl
  have on0 := hT0.one
  refine rE 365 Try.func64 rfl rfl rfl ?_
  intro a hf
  refine rR 2 hf rfl fun a hf => ?_
  obtain ⟨w1, b2, he, hB3, hx4, eb5, lb6⟩ := ef_box (P := Try.prog) (t := 26) (x := (.tmp 1)) hf rfl rfl w 0
  refine rV hf rfl he fun a hf => ?_
  have ge_b2 := ge_new hE eb5
  have hn : v0.ownBlock ≠ some b2 := fun e => by have := (hO.ge e).2; omega
  replace hO := hO.t0 hx4
  replace hE := hE.t0 hx4
  clear eb5 lb6
  refine rR 6 hf rfl fun a hf => rV hf rfl (ex_loadB hf rfl (by kernel_rfl) hB3 rfl) fun a hf => rV hf rfl (ex_len hf Try.underlying24 rfl) fun a hf => rR 7 hf rfl fun a hf => rV hf rfl (ex_loadB hf rfl (by kernel_rfl) hB3 rfl) fun a hf => rR 32 hf rfl fun a hf => ?_
  have hEs := hE
  have s_hB3 := hB3
  refine rD (fun x => x.cell? ⟨b2, 0, none⟩ = w1.cell? ⟨b2, 0, none⟩ ∧ x.cell? ⟨b2, 1, none⟩ = w1.cell? ⟨b2, 1, none⟩ ∧ x.cell? ⟨b2, 2, none⟩ = w1.cell? ⟨b2, 2, none⟩ ∧ x.cell? ⟨b2, 3, none⟩ = w1.cell? ⟨b2, 3, none⟩) 12 12 rfl (by kernel_rfl) (by kernel_rfl) ?_
  intro w7 hx8 hsel
  replace hB3 := hB3.c0 hx8
  replace hO := hO.t0 hx8
  replace hE := hE.t0 hx8
  have hS0 : w7.cell? ⟨b2, 0, none⟩ = w1.cell? ⟨b2, 0, none⟩ ∧ w7.cell? ⟨b2, 1, none⟩ = w1.cell? ⟨b2, 1, none⟩ ∧ w7.cell? ⟨b2, 2, none⟩ = w1.cell? ⟨b2, 2, none⟩ ∧ w7.cell? ⟨b2, 3, none⟩ = w1.cell? ⟨b2, 3, none⟩ := ⟨(hB3.cell 0).trans (s_hB3.cell 0).symm, (hB3.cell 1).trans (s_hB3.cell 1).symm, (hB3.cell 2).trans (s_hB3.cell 2).symm, (hB3.cell 3).trans (s_hB3.cell 3).symm⟩
  refine dR [0] hsel (by kernel_rfl) hf rfl rfl (.inl hS0) fun a hf => dL 1 rfl rfl hsel (by kernel_rfl) hf rfl hS0 (fun x hS => ex_loadX4 hf rfl (by kernel_rfl) s_hB3 rfl hS.1 hS.2.1 hS.2.2.1 hS.2.2.2) fun a hf => dR [3] hsel (by kernel_rfl) hf rfl rfl (.inl hS0) fun a hf => dL 4 rfl rfl hsel (by kernel_rfl) hf rfl hS0 (fun x hS => ex_load hf rfl (by kernel_rfl) (hS.2.1.trans ((s_hB3.cell 1).trans rfl))) fun a hf => dL 6 rfl rfl hsel (by kernel_rfl) hf rfl hS0 (fun x hS => ex_loadX4 hf rfl (by kernel_rfl) s_hB3 rfl hS.1 hS.2.1 hS.2.2.1 hS.2.2.2) fun a hf => dl_c 2 (by kernel_rfl) rfl hf rfl rfl rfl (by kernel_rfl) (leadAtR (ls := [l0, l1]) (j := 0) rfl (row_now hL hE hVB)) ?_
  rintro _ w10 ⟨rfl, hx9⟩
  refine ⟨_, rfl, fun a hf => ?_⟩
  replace hB3 := hB3.c0 hx9
  replace hO := hO.t0 hx9
  replace hE := hE.t0 hx9
  clear hS0
  have hS0 : w10.cell? ⟨b2, 0, none⟩ = w1.cell? ⟨b2, 0, none⟩ ∧ w10.cell? ⟨b2, 1, none⟩ = w1.cell? ⟨b2, 1, none⟩ ∧ w10.cell? ⟨b2, 2, none⟩ = w1.cell? ⟨b2, 2, none⟩ ∧ w10.cell? ⟨b2, 3, none⟩ = w1.cell? ⟨b2, 3, none⟩ := ⟨(hB3.cell 0).trans (s_hB3.cell 0).symm, (hB3.cell 1).trans (s_hB3.cell 1).symm, (hB3.cell 2).trans (s_hB3.cell 2).symm, (hB3.cell 3).trans (s_hB3.cell 3).symm⟩
  refine ⟨.inl hS0, ?_⟩
  refine dV 5 rfl rfl hsel (by kernel_rfl) hf rfl (.inl hS0) (fun x => ex_bd (ps := [(0, (.tmp 120)), (1, (.tmp 122))]) (z := [.string ⟨([] : List UInt8).toArray⟩, .string ⟨([] : List UInt8).toArray⟩]) (os := [0, 1]) hf rfl (by kernel_rfl) (by kernel_rfl) (by kernel_rfl) rfl rfl) fun a hf => dl_c 7 (by kernel_rfl) rfl hf rfl rfl rfl (by kernel_rfl) (leadAtR (ls := [l0, l1]) (j := 1) rfl (row_now hL hE hVB)) ?_
  rintro _ w12 ⟨rfl, hx11⟩
  refine ⟨_, rfl, fun a hf => ?_⟩
  replace hB3 := hB3.c0 hx11
  replace hO := hO.t0 hx11
  replace hE := hE.t0 hx11
  clear hS0
  have hS0 : w12.cell? ⟨b2, 0, none⟩ = w1.cell? ⟨b2, 0, none⟩ ∧ w12.cell? ⟨b2, 1, none⟩ = w1.cell? ⟨b2, 1, none⟩ ∧ w12.cell? ⟨b2, 2, none⟩ = w1.cell? ⟨b2, 2, none⟩ ∧ w12.cell? ⟨b2, 3, none⟩ = w1.cell? ⟨b2, 3, none⟩ := ⟨(hB3.cell 0).trans (s_hB3.cell 0).symm, (hB3.cell 1).trans (s_hB3.cell 1).symm, (hB3.cell 2).trans (s_hB3.cell 2).symm, (hB3.cell 3).trans (s_hB3.cell 3).symm⟩
  refine ⟨.inl hS0, ?_⟩
  refine dV 8 rfl rfl hsel (by kernel_rfl) hf rfl (.inl hS0) (fun x => ex_bd (ps := [(0, (.tmp 125)), (1, (.const (.string ⟨#[58]⟩)))]) (z := [.string ⟨([] : List UInt8).toArray⟩, .string ⟨([] : List UInt8).toArray⟩]) (os := [0, 1]) hf rfl (by kernel_rfl) (by kernel_rfl) (by kernel_rfl) rfl rfl) fun a hf => ?_
  obtain ⟨w13, b14, he, hB15, hx16, eb17, lb18⟩ := ef_bslice (P := Try.prog) (ps := [(0, (.tmp 123)), (1, (.tmp 126))]) (m := 2) (sz := 2) (z := [.string ⟨([] : List UInt8).toArray⟩, .string ⟨([] : List UInt8).toArray⟩]) hf rfl Try.underlying54 (by kernel_rfl) (by kernel_rfl) rfl rfl (by kernel_rfl) rfl w12 54
  refine dl_e 9 (by kernel_rfl) rfl hf rfl rfl he fun a hf => ?_
  have ne_b2_b14 : b2 ≠ b14 := ne_new hB3.lt eb17
  have ge_b14 := ge_new hE eb17
  replace hB3 := hB3.c0 hx16
  replace hO := hO.t0 hx16
  replace hE := hE.t0 hx16
  clear eb17 lb18
  clear hS0
  have hS0 : w13.cell? ⟨b2, 0, none⟩ = w1.cell? ⟨b2, 0, none⟩ ∧ w13.cell? ⟨b2, 1, none⟩ = w1.cell? ⟨b2, 1, none⟩ ∧ w13.cell? ⟨b2, 2, none⟩ = w1.cell? ⟨b2, 2, none⟩ ∧ w13.cell? ⟨b2, 3, none⟩ = w1.cell? ⟨b2, 3, none⟩ := ⟨(hB3.cell 0).trans (s_hB3.cell 0).symm, (hB3.cell 1).trans (s_hB3.cell 1).symm, (hB3.cell 2).trans (s_hB3.cell 2).symm, (hB3.cell 3).trans (s_hB3.cell 3).symm⟩
  refine ⟨.inl hS0, ?_⟩
  obtain ⟨v20, w19, he, hO21, hx22, hfr23⟩ := eP (.tmp 118) (.tmp 127) [(l0, x), (l1, [58])] hf rfl rfl hO hB15 rfl (by (try simp only [List.length_cons, List.length_nil]); omega) (nlt hBs hE.size) 54
  refine dl_e 10 (by kernel_rfl) rfl hf rfl rfl he fun a hf => ?_
  have hn2 := own_ne hfr23 hn hB3.lt
  have hg2 := own_from hfr23 hg hE.size
  replace hB3 := hB3.chg hx22 (nmO hn)
  replace hE := chg_own hE hx22 hg
  clear hO hn hg hfr23
  have hO := hO21; clear hO21
  have hn := hn2; clear hn2
  have hg := hg2; clear hg2
  obtain ⟨ps24, eps24⟩ : ∃ z, z = ps ++ [(l0, x), (l1, [58])] := ⟨_, rfl⟩
  rw [← eps24] at hO
  have lps24 : ps24.length = ps.length + 2 := by rw [eps24]; simp
  clear hS0
  have hS0 : w19.cell? ⟨b2, 0, none⟩ = w1.cell? ⟨b2, 0, none⟩ ∧ w19.cell? ⟨b2, 1, none⟩ = w1.cell? ⟨b2, 1, none⟩ ∧ w19.cell? ⟨b2, 2, none⟩ = w1.cell? ⟨b2, 2, none⟩ ∧ w19.cell? ⟨b2, 3, none⟩ = w1.cell? ⟨b2, 3, none⟩ := ⟨(hB3.cell 0).trans (s_hB3.cell 0).symm, (hB3.cell 1).trans (s_hB3.cell 1).symm, (hB3.cell 2).trans (s_hB3.cell 2).symm, (hB3.cell 3).trans (s_hB3.cell 3).symm⟩
  refine ⟨.inl hS0, ?_⟩
  refine dR [11] hsel (by kernel_rfl) hf rfl rfl (.inl hS0) fun a hf => rN (by kernel_rfl) ?_
  clear hS0 hsel
  refine rR 5 hf rfl fun a hf => rV hf rfl (ex_loadB hf rfl (by kernel_rfl) hB3 rfl) fun a hf => rV hf rfl (ex_index (sz := 4) (k := 0) (r := ko) hf Try.underlying24 (by kernel_rfl) rfl rfl rfl (by simp) rfl) fun a hf => rV hf rfl (ex_loadN (cs := [d00, d01, d02, d03]) (m := 4) hf rfl (by kernel_rfl) rfl (fun r hr => (low_now hE hVB hkb lbB).trans (hc0 r hr))) fun a hf => rC hf rfl rfl (by kernel_rfl) (ih k0 _ Bs _ ps24 _ _ _ _ (hks _ (by simp)).1 (hks _ (by simp)).2 (by omega) hO (tree_now hT0 hE hVB) (nlt hBs hE.size)) ?_
  rintro _ w29 ⟨v26, rfl, hO27, hx25, hfr28⟩
  refine ⟨_, rfl, fun a hf => ?_⟩
  have hn2 := own_ne hfr28 hn hB3.lt
  have hg2 := own_from hfr28 hg hE.size
  replace hB3 := hB3.chg hx25 (nmO hn)
  replace hE := chg_own hE hx25 hg
  clear hO hn hg hfr28
  have hO := hO27; clear hO27
  have hn := hn2; clear hn2
  have hg := hg2; clear hg2
  obtain ⟨ps30, eps30⟩ : ∃ z, z = ps24 ++ pcsT k0 := ⟨_, rfl⟩
  rw [← eps30] at hO
  have lps30 : ps30.length = ps24.length + (pcsT k0).length := by rw [eps30, List.length_append]
  refine rR 6 hf rfl fun a hf => ?_
  have eq : ps ++ pcsT (.node 4 x [l0, l1] [k0]) = ps30 := by subst eps30; subst eps24; simp [pcsT, pcsTs, nodeC, singleT]
  exact rT (rs := [.tmp 4]) hf rfl ⟨_, _, rfl, rfl, rfl⟩ ⟨_, rfl, eq ▸ hO, hE, fresh_all hg (.inl (own_some hO))⟩
theorem p5 {N : Nat} {w : World} {Bs : Nat} {v0 : Value} {ps : List Pc} {x : List UInt8} {l0 : List UInt8} {cs : List Value} {A B : Option Addr} {m n : Nat} (hks : ∀ t, t ∈ ([] : List Tree) → tsize t ≤ N ∧ (shapedT t && leadedT t && decide (tbulk t ≤ 1000000000)) = true)
    (hl1 : ps.length + (pcsT (.node 5 x [l0] ([] : List Tree))).length ≤ 1000000000) (hO : Ow Bs w v0 ps) (hL : RowIn (fun b => b < Bs) w 1 A [l0].length ([l0].map strV)) (hn0 : ([] : List Tree).length ≤ n) (hn2 : n ≤ maxLen) (hK : KidsAre (fun b => b < Bs) w ([] : List Tree) cs) (hR : RowIn (fun b => b < Bs) w 4 B ([] : List Tree).length cs) (hBs : Bs ≤ w.heap.size) :
    Calls Try.prog 64 [v0, .agg #[.int .i64 5, strV x, .slice A [l0].length m, .slice B ([] : List Tree).length n]].toArray w fun e w' => ∃ v', e = .returned v' ∧ Ow Bs w' v' (ps ++ pcsT (.node 5 x [l0] ([] : List Tree))) ∧ Chg v0.ownBlock.toList w w' ∧ Fresh w v0 v' := by
  have hq : (pcsT (.node 5 x [l0] ([] : List Tree))).length = 1 := by simp [pcsT, pcsTs, nodeC, singleT] <;> omega
  have hE := Chg.refl v0.ownBlock.toList w
  have hVB : ∀ g, g ∈ v0.ownBlock.toList → Bs ≤ g := fun g h => (hO.ge (by simpa using h)).1
  have hg : ∀ g, v0.ownBlock = some g → g ∈ v0.ownBlock.toList ∨ w.heap.size ≤ g := fun g e => .inl (by simpa using e)
  refine rE 365 Try.func64 rfl rfl rfl ?_
  intro a hf
  refine rR 2 hf rfl fun a hf => ?_
  obtain ⟨w1, b2, he, hB3, hx4, eb5, lb6⟩ := ef_box (P := Try.prog) (t := 26) (x := (.tmp 1)) hf rfl rfl w 0
  refine rV hf rfl he fun a hf => ?_
  have ge_b2 := ge_new hE eb5
  have hn : v0.ownBlock ≠ some b2 := fun e => by have := (hO.ge e).2; omega
  replace hO := hO.t0 hx4
  replace hE := hE.t0 hx4
  clear eb5 lb6
  refine rR 6 hf rfl fun a hf => rV hf rfl (ex_loadB hf rfl (by kernel_rfl) hB3 rfl) fun a hf => rV hf rfl (ex_len hf Try.underlying24 rfl) fun a hf => rR 7 hf rfl fun a hf => rV hf rfl (ex_loadB hf rfl (by kernel_rfl) hB3 rfl) fun a hf => rR 41 hf rfl fun a hf => rV hf rfl (ex_loadBN (m := 4) hf rfl (by kernel_rfl) hB3 rfl) fun a hf => rC hf rfl rfl (by kernel_rfl) (leadAtR (ls := [l0]) (j := 0) rfl (row_now hL hE hVB)) ?_
  rintro _ w8 ⟨rfl, hx7⟩
  refine ⟨_, rfl, fun a hf => ?_⟩
  replace hB3 := hB3.c0 hx7
  replace hO := hO.t0 hx7
  replace hE := hE.t0 hx7
  refine rV hf rfl (ex_bd (ps := [(0, (.tmp 139)), (1, (.const (.string ⟨#[73, 110, 116]⟩)))]) (z := [.string ⟨([] : List UInt8).toArray⟩, .string ⟨([] : List UInt8).toArray⟩]) (os := [0, 1]) hf rfl (by kernel_rfl) (by kernel_rfl) (by kernel_rfl) rfl rfl) fun a hf => ?_
  obtain ⟨w9, b10, he, hB11, hx12, eb13, lb14⟩ := ef_bslice (P := Try.prog) (ps := [(0, (.tmp 140))]) (m := 1) (sz := 2) (z := [.string ⟨([] : List UInt8).toArray⟩, .string ⟨([] : List UInt8).toArray⟩]) hf rfl Try.underlying54 (by kernel_rfl) (by kernel_rfl) rfl rfl (by kernel_rfl) rfl w8 54
  refine rV hf rfl he fun a hf => ?_
  have ne_b2_b10 : b2 ≠ b10 := ne_new hB3.lt eb13
  have ge_b10 := ge_new hE eb13
  replace hB3 := hB3.c0 hx12
  replace hO := hO.t0 hx12
  replace hE := hE.t0 hx12
  clear eb13 lb14
  obtain ⟨v16, w15, he, hO17, hx18, hfr19⟩ := eP (.tmp 137) (.tmp 141) [(l0, [73, 110, 116])] hf rfl rfl hO hB11 rfl (by (try simp only [List.length_cons, List.length_nil]); omega) (nlt hBs hE.size) 54
  refine rV hf rfl he fun a hf => ?_
  have hn2 := own_ne hfr19 hn hB3.lt
  have hg2 := own_from hfr19 hg hE.size
  replace hB3 := hB3.chg hx18 (nmO hn)
  replace hE := chg_own hE hx18 hg
  clear hO hn hg hfr19
  have hO := hO17; clear hO17
  have hn := hn2; clear hn2
  have hg := hg2; clear hg2
  obtain ⟨ps20, eps20⟩ : ∃ z, z = ps ++ [(l0, [73, 110, 116])] := ⟨_, rfl⟩
  rw [← eps20] at hO
  have lps20 : ps20.length = ps.length + 1 := by rw [eps20]; simp
  refine rR 6 hf rfl fun a hf => ?_
  have eq : ps ++ pcsT (.node 5 x [l0] ([] : List Tree)) = ps20 := by subst eps20; simp [pcsT, pcsTs, nodeC, singleT]
  exact rT (rs := [.tmp 4]) hf rfl ⟨_, _, rfl, rfl, rfl⟩ ⟨_, rfl, eq ▸ hO, hE, fresh_all hg (.inl (own_some hO))⟩
theorem p6 {N : Nat} {w : World} {Bs : Nat} {v0 : Value} {ps : List Pc} {x : List UInt8} {l0 : List UInt8} {cs : List Value} {A B : Option Addr} {m n : Nat} (hks : ∀ t, t ∈ ([] : List Tree) → tsize t ≤ N ∧ (shapedT t && leadedT t && decide (tbulk t ≤ 1000000000)) = true)
    (hl1 : ps.length + (pcsT (.node 6 x [l0] ([] : List Tree))).length ≤ 1000000000) (hO : Ow Bs w v0 ps) (hL : RowIn (fun b => b < Bs) w 1 A [l0].length ([l0].map strV)) (hn0 : ([] : List Tree).length ≤ n) (hn2 : n ≤ maxLen) (hK : KidsAre (fun b => b < Bs) w ([] : List Tree) cs) (hR : RowIn (fun b => b < Bs) w 4 B ([] : List Tree).length cs) (hBs : Bs ≤ w.heap.size) :
    Calls Try.prog 64 [v0, .agg #[.int .i64 6, strV x, .slice A [l0].length m, .slice B ([] : List Tree).length n]].toArray w fun e w' => ∃ v', e = .returned v' ∧ Ow Bs w' v' (ps ++ pcsT (.node 6 x [l0] ([] : List Tree))) ∧ Chg v0.ownBlock.toList w w' ∧ Fresh w v0 v' := by
  have hq : (pcsT (.node 6 x [l0] ([] : List Tree))).length = 1 := by simp [pcsT, pcsTs, nodeC, singleT] <;> omega
  have hE := Chg.refl v0.ownBlock.toList w
  have hVB : ∀ g, g ∈ v0.ownBlock.toList → Bs ≤ g := fun g h => (hO.ge (by simpa using h)).1
  have hg : ∀ g, v0.ownBlock = some g → g ∈ v0.ownBlock.toList ∨ w.heap.size ≤ g := fun g e => .inl (by simpa using e)
  refine rE 365 Try.func64 rfl rfl rfl ?_
  intro a hf
  refine rR 2 hf rfl fun a hf => ?_
  obtain ⟨w1, b2, he, hB3, hx4, eb5, lb6⟩ := ef_box (P := Try.prog) (t := 26) (x := (.tmp 1)) hf rfl rfl w 0
  refine rV hf rfl he fun a hf => ?_
  have ge_b2 := ge_new hE eb5
  have hn : v0.ownBlock ≠ some b2 := fun e => by have := (hO.ge e).2; omega
  replace hO := hO.t0 hx4
  replace hE := hE.t0 hx4
  clear eb5 lb6
  refine rR 6 hf rfl fun a hf => rV hf rfl (ex_loadB hf rfl (by kernel_rfl) hB3 rfl) fun a hf => rV hf rfl (ex_len hf Try.underlying24 rfl) fun a hf => rR 7 hf rfl fun a hf => rV hf rfl (ex_loadB hf rfl (by kernel_rfl) hB3 rfl) fun a hf => rR 48 hf rfl fun a hf => rV hf rfl (ex_loadBN (m := 4) hf rfl (by kernel_rfl) hB3 rfl) fun a hf => rC hf rfl rfl (by kernel_rfl) (leadAtR (ls := [l0]) (j := 0) rfl (row_now hL hE hVB)) ?_
  rintro _ w8 ⟨rfl, hx7⟩
  refine ⟨_, rfl, fun a hf => ?_⟩
  replace hB3 := hB3.c0 hx7
  replace hO := hO.t0 hx7
  replace hE := hE.t0 hx7
  refine rV hf rfl (ex_bd (ps := [(0, (.tmp 147)), (1, (.const (.string ⟨#[84, 101, 120, 116]⟩)))]) (z := [.string ⟨([] : List UInt8).toArray⟩, .string ⟨([] : List UInt8).toArray⟩]) (os := [0, 1]) hf rfl (by kernel_rfl) (by kernel_rfl) (by kernel_rfl) rfl rfl) fun a hf => ?_
  obtain ⟨w9, b10, he, hB11, hx12, eb13, lb14⟩ := ef_bslice (P := Try.prog) (ps := [(0, (.tmp 148))]) (m := 1) (sz := 2) (z := [.string ⟨([] : List UInt8).toArray⟩, .string ⟨([] : List UInt8).toArray⟩]) hf rfl Try.underlying54 (by kernel_rfl) (by kernel_rfl) rfl rfl (by kernel_rfl) rfl w8 54
  refine rV hf rfl he fun a hf => ?_
  have ne_b2_b10 : b2 ≠ b10 := ne_new hB3.lt eb13
  have ge_b10 := ge_new hE eb13
  replace hB3 := hB3.c0 hx12
  replace hO := hO.t0 hx12
  replace hE := hE.t0 hx12
  clear eb13 lb14
  obtain ⟨v16, w15, he, hO17, hx18, hfr19⟩ := eP (.tmp 145) (.tmp 149) [(l0, [84, 101, 120, 116])] hf rfl rfl hO hB11 rfl (by (try simp only [List.length_cons, List.length_nil]); omega) (nlt hBs hE.size) 54
  refine rV hf rfl he fun a hf => ?_
  have hn2 := own_ne hfr19 hn hB3.lt
  have hg2 := own_from hfr19 hg hE.size
  replace hB3 := hB3.chg hx18 (nmO hn)
  replace hE := chg_own hE hx18 hg
  clear hO hn hg hfr19
  have hO := hO17; clear hO17
  have hn := hn2; clear hn2
  have hg := hg2; clear hg2
  obtain ⟨ps20, eps20⟩ : ∃ z, z = ps ++ [(l0, [84, 101, 120, 116])] := ⟨_, rfl⟩
  rw [← eps20] at hO
  have lps20 : ps20.length = ps.length + 1 := by rw [eps20]; simp
  refine rR 6 hf rfl fun a hf => ?_
  have eq : ps ++ pcsT (.node 6 x [l0] ([] : List Tree)) = ps20 := by subst eps20; simp [pcsT, pcsTs, nodeC, singleT]
  exact rT (rs := [.tmp 4]) hf rfl ⟨_, _, rfl, rfl, rfl⟩ ⟨_, rfl, eq ▸ hO, hE, fresh_all hg (.inl (own_some hO))⟩
theorem p7 {N : Nat} {w : World} {Bs : Nat} {v0 : Value} {ps : List Pc} {x : List UInt8} {l0 : List UInt8} {cs : List Value} {A B : Option Addr} {m n : Nat} (hks : ∀ t, t ∈ ([] : List Tree) → tsize t ≤ N ∧ (shapedT t && leadedT t && decide (tbulk t ≤ 1000000000)) = true)
    (hl1 : ps.length + (pcsT (.node 7 x [l0] ([] : List Tree))).length ≤ 1000000000) (hO : Ow Bs w v0 ps) (hL : RowIn (fun b => b < Bs) w 1 A [l0].length ([l0].map strV)) (hn0 : ([] : List Tree).length ≤ n) (hn2 : n ≤ maxLen) (hK : KidsAre (fun b => b < Bs) w ([] : List Tree) cs) (hR : RowIn (fun b => b < Bs) w 4 B ([] : List Tree).length cs) (hBs : Bs ≤ w.heap.size) :
    Calls Try.prog 64 [v0, .agg #[.int .i64 7, strV x, .slice A [l0].length m, .slice B ([] : List Tree).length n]].toArray w fun e w' => ∃ v', e = .returned v' ∧ Ow Bs w' v' (ps ++ pcsT (.node 7 x [l0] ([] : List Tree))) ∧ Chg v0.ownBlock.toList w w' ∧ Fresh w v0 v' := by
  have hq : (pcsT (.node 7 x [l0] ([] : List Tree))).length = 1 := by simp [pcsT, pcsTs, nodeC, singleT] <;> omega
  have hE := Chg.refl v0.ownBlock.toList w
  have hVB : ∀ g, g ∈ v0.ownBlock.toList → Bs ≤ g := fun g h => (hO.ge (by simpa using h)).1
  have hg : ∀ g, v0.ownBlock = some g → g ∈ v0.ownBlock.toList ∨ w.heap.size ≤ g := fun g e => .inl (by simpa using e)
  refine rE 365 Try.func64 rfl rfl rfl ?_
  intro a hf
  refine rR 2 hf rfl fun a hf => ?_
  obtain ⟨w1, b2, he, hB3, hx4, eb5, lb6⟩ := ef_box (P := Try.prog) (t := 26) (x := (.tmp 1)) hf rfl rfl w 0
  refine rV hf rfl he fun a hf => ?_
  have ge_b2 := ge_new hE eb5
  have hn : v0.ownBlock ≠ some b2 := fun e => by have := (hO.ge e).2; omega
  replace hO := hO.t0 hx4
  replace hE := hE.t0 hx4
  clear eb5 lb6
  refine rR 6 hf rfl fun a hf => rV hf rfl (ex_loadB hf rfl (by kernel_rfl) hB3 rfl) fun a hf => rV hf rfl (ex_len hf Try.underlying24 rfl) fun a hf => rR 7 hf rfl fun a hf => rV hf rfl (ex_loadB hf rfl (by kernel_rfl) hB3 rfl) fun a hf => rR 55 hf rfl fun a hf => rV hf rfl (ex_loadBN (m := 4) hf rfl (by kernel_rfl) hB3 rfl) fun a hf => rC hf rfl rfl (by kernel_rfl) (leadAtR (ls := [l0]) (j := 0) rfl (row_now hL hE hVB)) ?_
  rintro _ w8 ⟨rfl, hx7⟩
  refine ⟨_, rfl, fun a hf => ?_⟩
  replace hB3 := hB3.c0 hx7
  replace hO := hO.t0 hx7
  replace hE := hE.t0 hx7
  refine rV hf rfl (ex_bd (ps := [(0, (.tmp 155)), (1, (.const (.string ⟨#[66, 111, 111, 108]⟩)))]) (z := [.string ⟨([] : List UInt8).toArray⟩, .string ⟨([] : List UInt8).toArray⟩]) (os := [0, 1]) hf rfl (by kernel_rfl) (by kernel_rfl) (by kernel_rfl) rfl rfl) fun a hf => ?_
  obtain ⟨w9, b10, he, hB11, hx12, eb13, lb14⟩ := ef_bslice (P := Try.prog) (ps := [(0, (.tmp 156))]) (m := 1) (sz := 2) (z := [.string ⟨([] : List UInt8).toArray⟩, .string ⟨([] : List UInt8).toArray⟩]) hf rfl Try.underlying54 (by kernel_rfl) (by kernel_rfl) rfl rfl (by kernel_rfl) rfl w8 54
  refine rV hf rfl he fun a hf => ?_
  have ne_b2_b10 : b2 ≠ b10 := ne_new hB3.lt eb13
  have ge_b10 := ge_new hE eb13
  replace hB3 := hB3.c0 hx12
  replace hO := hO.t0 hx12
  replace hE := hE.t0 hx12
  clear eb13 lb14
  obtain ⟨v16, w15, he, hO17, hx18, hfr19⟩ := eP (.tmp 153) (.tmp 157) [(l0, [66, 111, 111, 108])] hf rfl rfl hO hB11 rfl (by (try simp only [List.length_cons, List.length_nil]); omega) (nlt hBs hE.size) 54
  refine rV hf rfl he fun a hf => ?_
  have hn2 := own_ne hfr19 hn hB3.lt
  have hg2 := own_from hfr19 hg hE.size
  replace hB3 := hB3.chg hx18 (nmO hn)
  replace hE := chg_own hE hx18 hg
  clear hO hn hg hfr19
  have hO := hO17; clear hO17
  have hn := hn2; clear hn2
  have hg := hg2; clear hg2
  obtain ⟨ps20, eps20⟩ : ∃ z, z = ps ++ [(l0, [66, 111, 111, 108])] := ⟨_, rfl⟩
  rw [← eps20] at hO
  have lps20 : ps20.length = ps.length + 1 := by rw [eps20]; simp
  refine rR 6 hf rfl fun a hf => ?_
  have eq : ps ++ pcsT (.node 7 x [l0] ([] : List Tree)) = ps20 := by subst eps20; simp [pcsT, pcsTs, nodeC, singleT]
  exact rT (rs := [.tmp 4]) hf rfl ⟨_, _, rfl, rfl, rfl⟩ ⟨_, rfl, eq ▸ hO, hE, fresh_all hg (.inl (own_some hO))⟩
theorem p13 {N : Nat} {w : World} {Bs : Nat} {v0 : Value} {ps : List Pc} {x : List UInt8} {l0 : List UInt8} {cs : List Value} {A B : Option Addr} {m n : Nat} (hks : ∀ t, t ∈ ([] : List Tree) → tsize t ≤ N ∧ (shapedT t && leadedT t && decide (tbulk t ≤ 1000000000)) = true)
    (hl1 : ps.length + (pcsT (.node 13 x [l0] ([] : List Tree))).length ≤ 1000000000) (hO : Ow Bs w v0 ps) (hL : RowIn (fun b => b < Bs) w 1 A [l0].length ([l0].map strV)) (hn0 : ([] : List Tree).length ≤ n) (hn2 : n ≤ maxLen) (hK : KidsAre (fun b => b < Bs) w ([] : List Tree) cs) (hR : RowIn (fun b => b < Bs) w 4 B ([] : List Tree).length cs) (hBs : Bs ≤ w.heap.size) :
    Calls Try.prog 64 [v0, .agg #[.int .i64 13, strV x, .slice A [l0].length m, .slice B ([] : List Tree).length n]].toArray w fun e w' => ∃ v', e = .returned v' ∧ Ow Bs w' v' (ps ++ pcsT (.node 13 x [l0] ([] : List Tree))) ∧ Chg v0.ownBlock.toList w w' ∧ Fresh w v0 v' := by
  have hq : (pcsT (.node 13 x [l0] ([] : List Tree))).length = 1 := by simp [pcsT, pcsTs, nodeC, singleT] <;> omega
  have hE := Chg.refl v0.ownBlock.toList w
  have hVB : ∀ g, g ∈ v0.ownBlock.toList → Bs ≤ g := fun g h => (hO.ge (by simpa using h)).1
  have hg : ∀ g, v0.ownBlock = some g → g ∈ v0.ownBlock.toList ∨ w.heap.size ≤ g := fun g e => .inl (by simpa using e)
  refine rE 365 Try.func64 rfl rfl rfl ?_
  intro a hf
  refine rR 2 hf rfl fun a hf => ?_
  obtain ⟨w1, b2, he, hB3, hx4, eb5, lb6⟩ := ef_box (P := Try.prog) (t := 26) (x := (.tmp 1)) hf rfl rfl w 0
  refine rV hf rfl he fun a hf => ?_
  have ge_b2 := ge_new hE eb5
  have hn : v0.ownBlock ≠ some b2 := fun e => by have := (hO.ge e).2; omega
  replace hO := hO.t0 hx4
  replace hE := hE.t0 hx4
  clear eb5 lb6
  refine rR 6 hf rfl fun a hf => rV hf rfl (ex_loadB hf rfl (by kernel_rfl) hB3 rfl) fun a hf => rV hf rfl (ex_len hf Try.underlying24 rfl) fun a hf => rR 7 hf rfl fun a hf => rV hf rfl (ex_loadB hf rfl (by kernel_rfl) hB3 rfl) fun a hf => rR 62 hf rfl fun a hf => rV hf rfl (ex_loadBN (m := 4) hf rfl (by kernel_rfl) hB3 rfl) fun a hf => rC hf rfl rfl (by kernel_rfl) (leadAtR (ls := [l0]) (j := 0) rfl (row_now hL hE hVB)) ?_
  rintro _ w8 ⟨rfl, hx7⟩
  refine ⟨_, rfl, fun a hf => ?_⟩
  replace hB3 := hB3.c0 hx7
  replace hO := hO.t0 hx7
  replace hE := hE.t0 hx7
  refine rV hf rfl (ex_bd (ps := [(0, (.tmp 163)), (1, (.const (.string ⟨#[116, 114, 117, 101]⟩)))]) (z := [.string ⟨([] : List UInt8).toArray⟩, .string ⟨([] : List UInt8).toArray⟩]) (os := [0, 1]) hf rfl (by kernel_rfl) (by kernel_rfl) (by kernel_rfl) rfl rfl) fun a hf => ?_
  obtain ⟨w9, b10, he, hB11, hx12, eb13, lb14⟩ := ef_bslice (P := Try.prog) (ps := [(0, (.tmp 164))]) (m := 1) (sz := 2) (z := [.string ⟨([] : List UInt8).toArray⟩, .string ⟨([] : List UInt8).toArray⟩]) hf rfl Try.underlying54 (by kernel_rfl) (by kernel_rfl) rfl rfl (by kernel_rfl) rfl w8 54
  refine rV hf rfl he fun a hf => ?_
  have ne_b2_b10 : b2 ≠ b10 := ne_new hB3.lt eb13
  have ge_b10 := ge_new hE eb13
  replace hB3 := hB3.c0 hx12
  replace hO := hO.t0 hx12
  replace hE := hE.t0 hx12
  clear eb13 lb14
  obtain ⟨v16, w15, he, hO17, hx18, hfr19⟩ := eP (.tmp 161) (.tmp 165) [(l0, [116, 114, 117, 101])] hf rfl rfl hO hB11 rfl (by (try simp only [List.length_cons, List.length_nil]); omega) (nlt hBs hE.size) 54
  refine rV hf rfl he fun a hf => ?_
  have hn2 := own_ne hfr19 hn hB3.lt
  have hg2 := own_from hfr19 hg hE.size
  replace hB3 := hB3.chg hx18 (nmO hn)
  replace hE := chg_own hE hx18 hg
  clear hO hn hg hfr19
  have hO := hO17; clear hO17
  have hn := hn2; clear hn2
  have hg := hg2; clear hg2
  obtain ⟨ps20, eps20⟩ : ∃ z, z = ps ++ [(l0, [116, 114, 117, 101])] := ⟨_, rfl⟩
  rw [← eps20] at hO
  have lps20 : ps20.length = ps.length + 1 := by rw [eps20]; simp
  refine rR 6 hf rfl fun a hf => ?_
  have eq : ps ++ pcsT (.node 13 x [l0] ([] : List Tree)) = ps20 := by subst eps20; simp [pcsT, pcsTs, nodeC, singleT]
  exact rT (rs := [.tmp 4]) hf rfl ⟨_, _, rfl, rfl, rfl⟩ ⟨_, rfl, eq ▸ hO, hE, fresh_all hg (.inl (own_some hO))⟩
theorem p14 {N : Nat} {w : World} {Bs : Nat} {v0 : Value} {ps : List Pc} {x : List UInt8} {l0 : List UInt8} {cs : List Value} {A B : Option Addr} {m n : Nat} (hks : ∀ t, t ∈ ([] : List Tree) → tsize t ≤ N ∧ (shapedT t && leadedT t && decide (tbulk t ≤ 1000000000)) = true)
    (hl1 : ps.length + (pcsT (.node 14 x [l0] ([] : List Tree))).length ≤ 1000000000) (hO : Ow Bs w v0 ps) (hL : RowIn (fun b => b < Bs) w 1 A [l0].length ([l0].map strV)) (hn0 : ([] : List Tree).length ≤ n) (hn2 : n ≤ maxLen) (hK : KidsAre (fun b => b < Bs) w ([] : List Tree) cs) (hR : RowIn (fun b => b < Bs) w 4 B ([] : List Tree).length cs) (hBs : Bs ≤ w.heap.size) :
    Calls Try.prog 64 [v0, .agg #[.int .i64 14, strV x, .slice A [l0].length m, .slice B ([] : List Tree).length n]].toArray w fun e w' => ∃ v', e = .returned v' ∧ Ow Bs w' v' (ps ++ pcsT (.node 14 x [l0] ([] : List Tree))) ∧ Chg v0.ownBlock.toList w w' ∧ Fresh w v0 v' := by
  have hq : (pcsT (.node 14 x [l0] ([] : List Tree))).length = 1 := by simp [pcsT, pcsTs, nodeC, singleT] <;> omega
  have hE := Chg.refl v0.ownBlock.toList w
  have hVB : ∀ g, g ∈ v0.ownBlock.toList → Bs ≤ g := fun g h => (hO.ge (by simpa using h)).1
  have hg : ∀ g, v0.ownBlock = some g → g ∈ v0.ownBlock.toList ∨ w.heap.size ≤ g := fun g e => .inl (by simpa using e)
  refine rE 365 Try.func64 rfl rfl rfl ?_
  intro a hf
  refine rR 2 hf rfl fun a hf => ?_
  obtain ⟨w1, b2, he, hB3, hx4, eb5, lb6⟩ := ef_box (P := Try.prog) (t := 26) (x := (.tmp 1)) hf rfl rfl w 0
  refine rV hf rfl he fun a hf => ?_
  have ge_b2 := ge_new hE eb5
  have hn : v0.ownBlock ≠ some b2 := fun e => by have := (hO.ge e).2; omega
  replace hO := hO.t0 hx4
  replace hE := hE.t0 hx4
  clear eb5 lb6
  refine rR 6 hf rfl fun a hf => rV hf rfl (ex_loadB hf rfl (by kernel_rfl) hB3 rfl) fun a hf => rV hf rfl (ex_len hf Try.underlying24 rfl) fun a hf => rR 7 hf rfl fun a hf => rV hf rfl (ex_loadB hf rfl (by kernel_rfl) hB3 rfl) fun a hf => rR 69 hf rfl fun a hf => rV hf rfl (ex_loadBN (m := 4) hf rfl (by kernel_rfl) hB3 rfl) fun a hf => rC hf rfl rfl (by kernel_rfl) (leadAtR (ls := [l0]) (j := 0) rfl (row_now hL hE hVB)) ?_
  rintro _ w8 ⟨rfl, hx7⟩
  refine ⟨_, rfl, fun a hf => ?_⟩
  replace hB3 := hB3.c0 hx7
  replace hO := hO.t0 hx7
  replace hE := hE.t0 hx7
  refine rV hf rfl (ex_bd (ps := [(0, (.tmp 171)), (1, (.const (.string ⟨#[102, 97, 108, 115, 101]⟩)))]) (z := [.string ⟨([] : List UInt8).toArray⟩, .string ⟨([] : List UInt8).toArray⟩]) (os := [0, 1]) hf rfl (by kernel_rfl) (by kernel_rfl) (by kernel_rfl) rfl rfl) fun a hf => ?_
  obtain ⟨w9, b10, he, hB11, hx12, eb13, lb14⟩ := ef_bslice (P := Try.prog) (ps := [(0, (.tmp 172))]) (m := 1) (sz := 2) (z := [.string ⟨([] : List UInt8).toArray⟩, .string ⟨([] : List UInt8).toArray⟩]) hf rfl Try.underlying54 (by kernel_rfl) (by kernel_rfl) rfl rfl (by kernel_rfl) rfl w8 54
  refine rV hf rfl he fun a hf => ?_
  have ne_b2_b10 : b2 ≠ b10 := ne_new hB3.lt eb13
  have ge_b10 := ge_new hE eb13
  replace hB3 := hB3.c0 hx12
  replace hO := hO.t0 hx12
  replace hE := hE.t0 hx12
  clear eb13 lb14
  obtain ⟨v16, w15, he, hO17, hx18, hfr19⟩ := eP (.tmp 169) (.tmp 173) [(l0, [102, 97, 108, 115, 101])] hf rfl rfl hO hB11 rfl (by (try simp only [List.length_cons, List.length_nil]); omega) (nlt hBs hE.size) 54
  refine rV hf rfl he fun a hf => ?_
  have hn2 := own_ne hfr19 hn hB3.lt
  have hg2 := own_from hfr19 hg hE.size
  replace hB3 := hB3.chg hx18 (nmO hn)
  replace hE := chg_own hE hx18 hg
  clear hO hn hg hfr19
  have hO := hO17; clear hO17
  have hn := hn2; clear hn2
  have hg := hg2; clear hg2
  obtain ⟨ps20, eps20⟩ : ∃ z, z = ps ++ [(l0, [102, 97, 108, 115, 101])] := ⟨_, rfl⟩
  rw [← eps20] at hO
  have lps20 : ps20.length = ps.length + 1 := by rw [eps20]; simp
  refine rR 6 hf rfl fun a hf => ?_
  have eq : ps ++ pcsT (.node 14 x [l0] ([] : List Tree)) = ps20 := by subst eps20; simp [pcsT, pcsTs, nodeC, singleT]
  exact rT (rs := [.tmp 4]) hf rfl ⟨_, _, rfl, rfl, rfl⟩ ⟨_, rfl, eq ▸ hO, hE, fresh_all hg (.inl (own_some hO))⟩
theorem p15 {N : Nat} {w : World} {Bs : Nat} {v0 : Value} {ps : List Pc} {x : List UInt8} {l0 : List UInt8} {cs : List Value} {A B : Option Addr} {m n : Nat} (hks : ∀ t, t ∈ ([] : List Tree) → tsize t ≤ N ∧ (shapedT t && leadedT t && decide (tbulk t ≤ 1000000000)) = true)
    (hl1 : ps.length + (pcsT (.node 15 x [l0] ([] : List Tree))).length ≤ 1000000000) (hO : Ow Bs w v0 ps) (hL : RowIn (fun b => b < Bs) w 1 A [l0].length ([l0].map strV)) (hn0 : ([] : List Tree).length ≤ n) (hn2 : n ≤ maxLen) (hK : KidsAre (fun b => b < Bs) w ([] : List Tree) cs) (hR : RowIn (fun b => b < Bs) w 4 B ([] : List Tree).length cs) (hBs : Bs ≤ w.heap.size) :
    Calls Try.prog 64 [v0, .agg #[.int .i64 15, strV x, .slice A [l0].length m, .slice B ([] : List Tree).length n]].toArray w fun e w' => ∃ v', e = .returned v' ∧ Ow Bs w' v' (ps ++ pcsT (.node 15 x [l0] ([] : List Tree))) ∧ Chg v0.ownBlock.toList w w' ∧ Fresh w v0 v' := by
  have hq : (pcsT (.node 15 x [l0] ([] : List Tree))).length = 1 := by simp [pcsT, pcsTs, nodeC, singleT] <;> omega
  have hE := Chg.refl v0.ownBlock.toList w
  have hVB : ∀ g, g ∈ v0.ownBlock.toList → Bs ≤ g := fun g h => (hO.ge (by simpa using h)).1
  have hg : ∀ g, v0.ownBlock = some g → g ∈ v0.ownBlock.toList ∨ w.heap.size ≤ g := fun g e => .inl (by simpa using e)
  refine rE 365 Try.func64 rfl rfl rfl ?_
  intro a hf
  refine rR 2 hf rfl fun a hf => ?_
  obtain ⟨w1, b2, he, hB3, hx4, eb5, lb6⟩ := ef_box (P := Try.prog) (t := 26) (x := (.tmp 1)) hf rfl rfl w 0
  refine rV hf rfl he fun a hf => ?_
  have ge_b2 := ge_new hE eb5
  have hn : v0.ownBlock ≠ some b2 := fun e => by have := (hO.ge e).2; omega
  replace hO := hO.t0 hx4
  replace hE := hE.t0 hx4
  clear eb5 lb6
  refine rR 6 hf rfl fun a hf => rV hf rfl (ex_loadB hf rfl (by kernel_rfl) hB3 rfl) fun a hf => rV hf rfl (ex_len hf Try.underlying24 rfl) fun a hf => rR 7 hf rfl fun a hf => rV hf rfl (ex_loadB hf rfl (by kernel_rfl) hB3 rfl) fun a hf => rR 76 hf rfl fun a hf => rV hf rfl (ex_loadBN (m := 4) hf rfl (by kernel_rfl) hB3 rfl) fun a hf => rC hf rfl rfl (by kernel_rfl) (leadAtR (ls := [l0]) (j := 0) rfl (row_now hL hE hVB)) ?_
  rintro _ w8 ⟨rfl, hx7⟩
  refine ⟨_, rfl, fun a hf => ?_⟩
  replace hB3 := hB3.c0 hx7
  replace hO := hO.t0 hx7
  replace hE := hE.t0 hx7
  refine rV hf rfl (ex_bd (ps := [(0, (.tmp 179)), (1, (.const (.string ⟨#[63]⟩)))]) (z := [.string ⟨([] : List UInt8).toArray⟩, .string ⟨([] : List UInt8).toArray⟩]) (os := [0, 1]) hf rfl (by kernel_rfl) (by kernel_rfl) (by kernel_rfl) rfl rfl) fun a hf => ?_
  obtain ⟨w9, b10, he, hB11, hx12, eb13, lb14⟩ := ef_bslice (P := Try.prog) (ps := [(0, (.tmp 180))]) (m := 1) (sz := 2) (z := [.string ⟨([] : List UInt8).toArray⟩, .string ⟨([] : List UInt8).toArray⟩]) hf rfl Try.underlying54 (by kernel_rfl) (by kernel_rfl) rfl rfl (by kernel_rfl) rfl w8 54
  refine rV hf rfl he fun a hf => ?_
  have ne_b2_b10 : b2 ≠ b10 := ne_new hB3.lt eb13
  have ge_b10 := ge_new hE eb13
  replace hB3 := hB3.c0 hx12
  replace hO := hO.t0 hx12
  replace hE := hE.t0 hx12
  clear eb13 lb14
  obtain ⟨v16, w15, he, hO17, hx18, hfr19⟩ := eP (.tmp 177) (.tmp 181) [(l0, [63])] hf rfl rfl hO hB11 rfl (by (try simp only [List.length_cons, List.length_nil]); omega) (nlt hBs hE.size) 54
  refine rV hf rfl he fun a hf => ?_
  have hn2 := own_ne hfr19 hn hB3.lt
  have hg2 := own_from hfr19 hg hE.size
  replace hB3 := hB3.chg hx18 (nmO hn)
  replace hE := chg_own hE hx18 hg
  clear hO hn hg hfr19
  have hO := hO17; clear hO17
  have hn := hn2; clear hn2
  have hg := hg2; clear hg2
  obtain ⟨ps20, eps20⟩ : ∃ z, z = ps ++ [(l0, [63])] := ⟨_, rfl⟩
  rw [← eps20] at hO
  have lps20 : ps20.length = ps.length + 1 := by rw [eps20]; simp
  refine rR 6 hf rfl fun a hf => ?_
  have eq : ps ++ pcsT (.node 15 x [l0] ([] : List Tree)) = ps20 := by subst eps20; simp [pcsT, pcsTs, nodeC, singleT]
  exact rT (rs := [.tmp 4]) hf rfl ⟨_, _, rfl, rfl, rfl⟩ ⟨_, rfl, eq ▸ hO, hE, fresh_all hg (.inl (own_some hO))⟩
theorem p8 {N : Nat} (ih : PiecesOk N) {w : World} {Bs : Nat} {v0 : Value} {ps : List Pc} {x : List UInt8} {l0 l1 : List UInt8} {k0 : Tree} {cs : List Value} {A B : Option Addr} {m n : Nat} (hks : ∀ t, t ∈ [k0] → tsize t ≤ N ∧ (shapedT t && leadedT t && decide (tbulk t ≤ 1000000000)) = true)
    (hl1 : ps.length + (pcsT (.node 8 x [l0, l1] [k0])).length ≤ 1000000000) (hO : Ow Bs w v0 ps) (hL : RowIn (fun b => b < Bs) w 1 A [l0, l1].length ([l0, l1].map strV)) (hn0 : [k0].length ≤ n) (hn2 : n ≤ maxLen) (hK : KidsAre (fun b => b < Bs) w [k0] cs) (hR : RowIn (fun b => b < Bs) w 4 B [k0].length cs) (hBs : Bs ≤ w.heap.size) :
    Calls Try.prog 64 [v0, .agg #[.int .i64 8, strV x, .slice A [l0, l1].length m, .slice B [k0].length n]].toArray w fun e w' => ∃ v', e = .returned v' ∧ Ow Bs w' v' (ps ++ pcsT (.node 8 x [l0, l1] [k0])) ∧ Chg v0.ownBlock.toList w w' ∧ Fresh w v0 v' := by
  have hq : (pcsT (.node 8 x [l0, l1] [k0])).length = 2 + (pcsT k0).length := by simp [pcsT, pcsTs, nodeC, singleT] <;> omega
  have hE := Chg.refl v0.ownBlock.toList w
  have hVB : ∀ g, g ∈ v0.ownBlock.toList → Bs ≤ g := fun g h => (hO.ge (by simpa using h)).1
  have hg : ∀ g, v0.ownBlock = some g → g ∈ v0.ownBlock.toList ∨ w.heap.size ≤ g := fun g e => .inl (by simpa using e)
  obtain ⟨kb, ko, rfl, lbB, hkb, _⟩ := hR.2 (by simp)
  obtain ⟨d00, d01, d02, d03, hT0, hc0⟩ := kid_at hK hR rfl (i := 0) (t := k0) rfl
  have on0 := hT0.one
  refine rE 365 Try.func64 rfl rfl rfl ?_
  intro a hf
  refine rR 2 hf rfl fun a hf => ?_
  obtain ⟨w1, b2, he, hB3, hx4, eb5, lb6⟩ := ef_box (P := Try.prog) (t := 26) (x := (.tmp 1)) hf rfl rfl w 0
  refine rV hf rfl he fun a hf => ?_
  have ge_b2 := ge_new hE eb5
  have hn : v0.ownBlock ≠ some b2 := fun e => by have := (hO.ge e).2; omega
  replace hO := hO.t0 hx4
  replace hE := hE.t0 hx4
  clear eb5 lb6
  refine rR 6 hf rfl fun a hf => rV hf rfl (ex_loadB hf rfl (by kernel_rfl) hB3 rfl) fun a hf => rV hf rfl (ex_len hf Try.underlying24 rfl) fun a hf => rR 7 hf rfl fun a hf => rV hf rfl (ex_loadB hf rfl (by kernel_rfl) hB3 rfl) fun a hf => rR 83 hf rfl fun a hf => rV hf rfl (ex_loadBN (m := 4) hf rfl (by kernel_rfl) hB3 rfl) fun a hf => rC hf rfl rfl (by kernel_rfl) (leadAtR (ls := [l0, l1]) (j := 0) rfl (row_now hL hE hVB)) ?_
  rintro _ w8 ⟨rfl, hx7⟩
  refine ⟨_, rfl, fun a hf => ?_⟩
  replace hB3 := hB3.c0 hx7
  replace hO := hO.t0 hx7
  replace hE := hE.t0 hx7
  refine rV hf rfl (ex_bd (ps := [(0, (.tmp 187)), (1, (.const (.string ⟨#[91]⟩)))]) (z := [.string ⟨([] : List UInt8).toArray⟩, .string ⟨([] : List UInt8).toArray⟩]) (os := [0, 1]) hf rfl (by kernel_rfl) (by kernel_rfl) (by kernel_rfl) rfl rfl) fun a hf => ?_
  obtain ⟨w9, b10, he, hB11, hx12, eb13, lb14⟩ := ef_bslice (P := Try.prog) (ps := [(0, (.tmp 188))]) (m := 1) (sz := 2) (z := [.string ⟨([] : List UInt8).toArray⟩, .string ⟨([] : List UInt8).toArray⟩]) hf rfl Try.underlying54 (by kernel_rfl) (by kernel_rfl) rfl rfl (by kernel_rfl) rfl w8 54
  refine rV hf rfl he fun a hf => ?_
  have ne_b2_b10 : b2 ≠ b10 := ne_new hB3.lt eb13
  have ge_b10 := ge_new hE eb13
  replace hB3 := hB3.c0 hx12
  replace hO := hO.t0 hx12
  replace hE := hE.t0 hx12
  clear eb13 lb14
  obtain ⟨v16, w15, he, hO17, hx18, hfr19⟩ := eP (.tmp 185) (.tmp 189) [(l0, [91])] hf rfl rfl hO hB11 rfl (by (try simp only [List.length_cons, List.length_nil]); omega) (nlt hBs hE.size) 54
  refine rV hf rfl he fun a hf => ?_
  have hn2 := own_ne hfr19 hn hB3.lt
  have hg2 := own_from hfr19 hg hE.size
  replace hB3 := hB3.chg hx18 (nmO hn)
  replace hE := chg_own hE hx18 hg
  clear hO hn hg hfr19
  have hO := hO17; clear hO17
  have hn := hn2; clear hn2
  have hg := hg2; clear hg2
  obtain ⟨ps20, eps20⟩ : ∃ z, z = ps ++ [(l0, [91])] := ⟨_, rfl⟩
  rw [← eps20] at hO
  have lps20 : ps20.length = ps.length + 1 := by rw [eps20]; simp
  refine rR 4 hf rfl fun a hf => ?_
  have s_k00 := (low_now (o := ko) hE hVB hkb lbB).trans (hc0 0 (by decide))
  have s_k01 := (low_now (o := ko + 1) hE hVB hkb lbB).trans (hc0 1 (by decide))
  have s_k02 := (low_now (o := ko + 2) hE hVB hkb lbB).trans (hc0 2 (by decide))
  have s_k03 := (low_now (o := ko + 3) hE hVB hkb lbB).trans (hc0 3 (by decide))
  have hEs := hE
  have s_hB3 := hB3
  refine rD (fun x => x.cell? ⟨b2, 3, none⟩ = w15.cell? ⟨b2, 3, none⟩ ∧ x.cell? ⟨kb, ko, none⟩ = w15.cell? ⟨kb, ko, none⟩ ∧ x.cell? ⟨kb, ko + 1, none⟩ = w15.cell? ⟨kb, ko + 1, none⟩ ∧ x.cell? ⟨kb, ko + 2, none⟩ = w15.cell? ⟨kb, ko + 2, none⟩ ∧ x.cell? ⟨kb, ko + 3, none⟩ = w15.cell? ⟨kb, ko + 3, none⟩ ∧ x.cell? ⟨b2, 0, none⟩ = w15.cell? ⟨b2, 0, none⟩ ∧ x.cell? ⟨b2, 1, none⟩ = w15.cell? ⟨b2, 1, none⟩ ∧ x.cell? ⟨b2, 2, none⟩ = w15.cell? ⟨b2, 2, none⟩) 12 12 rfl (by kernel_rfl) (by kernel_rfl) ?_
  intro w21 hx22 hsel
  replace hB3 := hB3.c0 hx22
  replace hO := hO.t0 hx22
  replace hE := hE.t0 hx22
  have hS0 : w21.cell? ⟨b2, 3, none⟩ = w15.cell? ⟨b2, 3, none⟩ ∧ w21.cell? ⟨kb, ko, none⟩ = w15.cell? ⟨kb, ko, none⟩ ∧ w21.cell? ⟨kb, ko + 1, none⟩ = w15.cell? ⟨kb, ko + 1, none⟩ ∧ w21.cell? ⟨kb, ko + 2, none⟩ = w15.cell? ⟨kb, ko + 2, none⟩ ∧ w21.cell? ⟨kb, ko + 3, none⟩ = w15.cell? ⟨kb, ko + 3, none⟩ ∧ w21.cell? ⟨b2, 0, none⟩ = w15.cell? ⟨b2, 0, none⟩ ∧ w21.cell? ⟨b2, 1, none⟩ = w15.cell? ⟨b2, 1, none⟩ ∧ w21.cell? ⟨b2, 2, none⟩ = w15.cell? ⟨b2, 2, none⟩ := ⟨(hB3.cell 3).trans (s_hB3.cell 3).symm, ((low_now hE hVB hkb lbB).trans (low_now hEs hVB hkb lbB).symm), ((low_now hE hVB hkb lbB).trans (low_now hEs hVB hkb lbB).symm), ((low_now hE hVB hkb lbB).trans (low_now hEs hVB hkb lbB).symm), ((low_now hE hVB hkb lbB).trans (low_now hEs hVB hkb lbB).symm), (hB3.cell 0).trans (s_hB3.cell 0).symm, (hB3.cell 1).trans (s_hB3.cell 1).symm, (hB3.cell 2).trans (s_hB3.cell 2).symm⟩
  refine dR [0, 1] hsel (by kernel_rfl) hf rfl rfl (.inl hS0) fun a hf => dL 2 rfl rfl hsel (by kernel_rfl) hf rfl hS0 (fun x hS => ex_load hf rfl (by kernel_rfl) (hS.1.trans ((s_hB3.cell 3).trans rfl))) fun a hf => dV 3 rfl rfl hsel (by kernel_rfl) hf rfl (.inl hS0) (fun x => ex_index (sz := 4) (k := 0) (r := ko) hf Try.underlying24 (by kernel_rfl) rfl rfl rfl (by simp) rfl) fun a hf => dL 4 rfl rfl hsel (by kernel_rfl) hf rfl hS0 (fun x hS => ex_loadN (cs := [d00, d01, d02, d03]) (m := 4) hf rfl (by kernel_rfl) rfl (four (hS.2.1.trans s_k00) (hS.2.2.1.trans s_k01) (hS.2.2.2.1.trans s_k02) (hS.2.2.2.2.1.trans s_k03))) fun a hf => dL 6 rfl rfl hsel (by kernel_rfl) hf rfl hS0 (fun x hS => ex_loadX4 hf rfl (by kernel_rfl) s_hB3 rfl hS.2.2.2.2.2.1 hS.2.2.2.2.2.2.1 hS.2.2.2.2.2.2.2 hS.1) fun a hf => dl_c 5 (by kernel_rfl) rfl hf rfl rfl rfl (by kernel_rfl) (ih k0 _ Bs _ ps20 _ _ _ _ (hks _ (by simp)).1 (hks _ (by simp)).2 (by omega) hO (tree_now hT0 hE hVB) (nlt hBs hE.size)) ?_
  rintro _ w27 ⟨v24, rfl, hO25, hx23, hfr26⟩
  refine ⟨_, rfl, fun a hf => ?_⟩
  have hn2 := own_ne hfr26 hn hB3.lt
  have hg2 := own_from hfr26 hg hE.size
  replace hB3 := hB3.chg hx23 (nmO hn)
  replace hE := chg_own hE hx23 hg
  clear hO hn hg hfr26
  have hO := hO25; clear hO25
  have hn := hn2; clear hn2
  have hg := hg2; clear hg2
  obtain ⟨ps28, eps28⟩ : ∃ z, z = ps20 ++ pcsT k0 := ⟨_, rfl⟩
  rw [← eps28] at hO
  have lps28 : ps28.length = ps20.length + (pcsT k0).length := by rw [eps28, List.length_append]
  clear hS0
  have hS0 : w27.cell? ⟨b2, 3, none⟩ = w15.cell? ⟨b2, 3, none⟩ ∧ w27.cell? ⟨kb, ko, none⟩ = w15.cell? ⟨kb, ko, none⟩ ∧ w27.cell? ⟨kb, ko + 1, none⟩ = w15.cell? ⟨kb, ko + 1, none⟩ ∧ w27.cell? ⟨kb, ko + 2, none⟩ = w15.cell? ⟨kb, ko + 2, none⟩ ∧ w27.cell? ⟨kb, ko + 3, none⟩ = w15.cell? ⟨kb, ko + 3, none⟩ ∧ w27.cell? ⟨b2, 0, none⟩ = w15.cell? ⟨b2, 0, none⟩ ∧ w27.cell? ⟨b2, 1, none⟩ = w15.cell? ⟨b2, 1, none⟩ ∧ w27.cell? ⟨b2, 2, none⟩ = w15.cell? ⟨b2, 2, none⟩ := ⟨(hB3.cell 3).trans (s_hB3.cell 3).symm, ((low_now hE hVB hkb lbB).trans (low_now hEs hVB hkb lbB).symm), ((low_now hE hVB hkb lbB).trans (low_now hEs hVB hkb lbB).symm), ((low_now hE hVB hkb lbB).trans (low_now hEs hVB hkb lbB).symm), ((low_now hE hVB hkb lbB).trans (low_now hEs hVB hkb lbB).symm), (hB3.cell 0).trans (s_hB3.cell 0).symm, (hB3.cell 1).trans (s_hB3.cell 1).symm, (hB3.cell 2).trans (s_hB3.cell 2).symm⟩
  refine ⟨.inl hS0, ?_⟩
  refine dl_c 7 (by kernel_rfl) rfl hf rfl rfl rfl (by kernel_rfl) (leadAtR (ls := [l0, l1]) (j := 1) rfl (row_now hL hE hVB)) ?_
  rintro _ w30 ⟨rfl, hx29⟩
  refine ⟨_, rfl, fun a hf => ?_⟩
  replace hB3 := hB3.c0 hx29
  replace hO := hO.t0 hx29
  replace hE := hE.t0 hx29
  clear hS0
  have hS0 : w30.cell? ⟨b2, 3, none⟩ = w15.cell? ⟨b2, 3, none⟩ ∧ w30.cell? ⟨kb, ko, none⟩ = w15.cell? ⟨kb, ko, none⟩ ∧ w30.cell? ⟨kb, ko + 1, none⟩ = w15.cell? ⟨kb, ko + 1, none⟩ ∧ w30.cell? ⟨kb, ko + 2, none⟩ = w15.cell? ⟨kb, ko + 2, none⟩ ∧ w30.cell? ⟨kb, ko + 3, none⟩ = w15.cell? ⟨kb, ko + 3, none⟩ ∧ w30.cell? ⟨b2, 0, none⟩ = w15.cell? ⟨b2, 0, none⟩ ∧ w30.cell? ⟨b2, 1, none⟩ = w15.cell? ⟨b2, 1, none⟩ ∧ w30.cell? ⟨b2, 2, none⟩ = w15.cell? ⟨b2, 2, none⟩ := ⟨(hB3.cell 3).trans (s_hB3.cell 3).symm, ((low_now hE hVB hkb lbB).trans (low_now hEs hVB hkb lbB).symm), ((low_now hE hVB hkb lbB).trans (low_now hEs hVB hkb lbB).symm), ((low_now hE hVB hkb lbB).trans (low_now hEs hVB hkb lbB).symm), ((low_now hE hVB hkb lbB).trans (low_now hEs hVB hkb lbB).symm), (hB3.cell 0).trans (s_hB3.cell 0).symm, (hB3.cell 1).trans (s_hB3.cell 1).symm, (hB3.cell 2).trans (s_hB3.cell 2).symm⟩
  refine ⟨.inl hS0, ?_⟩
  refine dV 8 rfl rfl hsel (by kernel_rfl) hf rfl (.inl hS0) (fun x => ex_bd (ps := [(0, (.tmp 198)), (1, (.const (.string ⟨#[93]⟩)))]) (z := [.string ⟨([] : List UInt8).toArray⟩, .string ⟨([] : List UInt8).toArray⟩]) (os := [0, 1]) hf rfl (by kernel_rfl) (by kernel_rfl) (by kernel_rfl) rfl rfl) fun a hf => ?_
  obtain ⟨w31, b32, he, hB33, hx34, eb35, lb36⟩ := ef_bslice (P := Try.prog) (ps := [(0, (.tmp 199))]) (m := 1) (sz := 2) (z := [.string ⟨([] : List UInt8).toArray⟩, .string ⟨([] : List UInt8).toArray⟩]) hf rfl Try.underlying54 (by kernel_rfl) (by kernel_rfl) rfl rfl (by kernel_rfl) rfl w30 54
  refine dl_e 9 (by kernel_rfl) rfl hf rfl rfl he fun a hf => ?_
  have ne_b2_b32 : b2 ≠ b32 := ne_new hB3.lt eb35
  have ge_b32 := ge_new hE eb35
  replace hB3 := hB3.c0 hx34
  replace hO := hO.t0 hx34
  replace hE := hE.t0 hx34
  clear eb35 lb36
  clear hS0
  have hS0 : w31.cell? ⟨b2, 3, none⟩ = w15.cell? ⟨b2, 3, none⟩ ∧ w31.cell? ⟨kb, ko, none⟩ = w15.cell? ⟨kb, ko, none⟩ ∧ w31.cell? ⟨kb, ko + 1, none⟩ = w15.cell? ⟨kb, ko + 1, none⟩ ∧ w31.cell? ⟨kb, ko + 2, none⟩ = w15.cell? ⟨kb, ko + 2, none⟩ ∧ w31.cell? ⟨kb, ko + 3, none⟩ = w15.cell? ⟨kb, ko + 3, none⟩ ∧ w31.cell? ⟨b2, 0, none⟩ = w15.cell? ⟨b2, 0, none⟩ ∧ w31.cell? ⟨b2, 1, none⟩ = w15.cell? ⟨b2, 1, none⟩ ∧ w31.cell? ⟨b2, 2, none⟩ = w15.cell? ⟨b2, 2, none⟩ := ⟨(hB3.cell 3).trans (s_hB3.cell 3).symm, ((low_now hE hVB hkb lbB).trans (low_now hEs hVB hkb lbB).symm), ((low_now hE hVB hkb lbB).trans (low_now hEs hVB hkb lbB).symm), ((low_now hE hVB hkb lbB).trans (low_now hEs hVB hkb lbB).symm), ((low_now hE hVB hkb lbB).trans (low_now hEs hVB hkb lbB).symm), (hB3.cell 0).trans (s_hB3.cell 0).symm, (hB3.cell 1).trans (s_hB3.cell 1).symm, (hB3.cell 2).trans (s_hB3.cell 2).symm⟩
  refine ⟨.inl hS0, ?_⟩
  obtain ⟨v38, w37, he, hO39, hx40, hfr41⟩ := eP (.tmp 196) (.tmp 200) [(l1, [93])] hf rfl rfl hO hB33 rfl (by (try simp only [List.length_cons, List.length_nil]); omega) (nlt hBs hE.size) 54
  refine dl_e 10 (by kernel_rfl) rfl hf rfl rfl he fun a hf => ?_
  have hn2 := own_ne hfr41 hn hB3.lt
  have hg2 := own_from hfr41 hg hE.size
  replace hB3 := hB3.chg hx40 (nmO hn)
  replace hE := chg_own hE hx40 hg
  clear hO hn hg hfr41
  have hO := hO39; clear hO39
  have hn := hn2; clear hn2
  have hg := hg2; clear hg2
  obtain ⟨ps42, eps42⟩ : ∃ z, z = ps28 ++ [(l1, [93])] := ⟨_, rfl⟩
  rw [← eps42] at hO
  have lps42 : ps42.length = ps28.length + 1 := by rw [eps42]; simp
  clear hS0
  have hS0 : w37.cell? ⟨b2, 3, none⟩ = w15.cell? ⟨b2, 3, none⟩ ∧ w37.cell? ⟨kb, ko, none⟩ = w15.cell? ⟨kb, ko, none⟩ ∧ w37.cell? ⟨kb, ko + 1, none⟩ = w15.cell? ⟨kb, ko + 1, none⟩ ∧ w37.cell? ⟨kb, ko + 2, none⟩ = w15.cell? ⟨kb, ko + 2, none⟩ ∧ w37.cell? ⟨kb, ko + 3, none⟩ = w15.cell? ⟨kb, ko + 3, none⟩ ∧ w37.cell? ⟨b2, 0, none⟩ = w15.cell? ⟨b2, 0, none⟩ ∧ w37.cell? ⟨b2, 1, none⟩ = w15.cell? ⟨b2, 1, none⟩ ∧ w37.cell? ⟨b2, 2, none⟩ = w15.cell? ⟨b2, 2, none⟩ := ⟨(hB3.cell 3).trans (s_hB3.cell 3).symm, ((low_now hE hVB hkb lbB).trans (low_now hEs hVB hkb lbB).symm), ((low_now hE hVB hkb lbB).trans (low_now hEs hVB hkb lbB).symm), ((low_now hE hVB hkb lbB).trans (low_now hEs hVB hkb lbB).symm), ((low_now hE hVB hkb lbB).trans (low_now hEs hVB hkb lbB).symm), (hB3.cell 0).trans (s_hB3.cell 0).symm, (hB3.cell 1).trans (s_hB3.cell 1).symm, (hB3.cell 2).trans (s_hB3.cell 2).symm⟩
  refine ⟨.inl hS0, ?_⟩
  refine dR [11] hsel (by kernel_rfl) hf rfl rfl (.inl hS0) fun a hf => rN (by kernel_rfl) ?_
  clear hS0 hsel
  refine rR 4 hf rfl fun a hf => ?_
  have eq : ps ++ pcsT (.node 8 x [l0, l1] [k0]) = ps42 := by subst eps42; subst eps28; subst eps20; simp [pcsT, pcsTs, nodeC, singleT]
  exact rT (rs := [.tmp 4]) hf rfl ⟨_, _, rfl, rfl, rfl⟩ ⟨_, rfl, eq ▸ hO, hE, fresh_all hg (.inl (own_some hO))⟩
theorem p19 {N : Nat} (ih : PiecesOk N) {w : World} {Bs : Nat} {v0 : Value} {ps : List Pc} {x : List UInt8} {l0 l1 l2 : List UInt8} {k0 k1 k2 : Tree} {cs : List Value} {A B : Option Addr} {m n : Nat} (hks : ∀ t, t ∈ [k0, k1, k2] → tsize t ≤ N ∧ (shapedT t && leadedT t && decide (tbulk t ≤ 1000000000)) = true)
    (hl1 : ps.length + (pcsT (.node 19 x [l0, l1, l2] [k0, k1, k2])).length ≤ 1000000000) (hO : Ow Bs w v0 ps) (hL : RowIn (fun b => b < Bs) w 1 A [l0, l1, l2].length ([l0, l1, l2].map strV)) (hn0 : [k0, k1, k2].length ≤ n) (hn2 : n ≤ maxLen) (hK : KidsAre (fun b => b < Bs) w [k0, k1, k2] cs) (hR : RowIn (fun b => b < Bs) w 4 B [k0, k1, k2].length cs) (hBs : Bs ≤ w.heap.size) :
    Calls Try.prog 64 [v0, .agg #[.int .i64 19, strV x, .slice A [l0, l1, l2].length m, .slice B [k0, k1, k2].length n]].toArray w fun e w' => ∃ v', e = .returned v' ∧ Ow Bs w' v' (ps ++ pcsT (.node 19 x [l0, l1, l2] [k0, k1, k2])) ∧ Chg v0.ownBlock.toList w w' ∧ Fresh w v0 v' := by
  have hq : (pcsT (.node 19 x [l0, l1, l2] [k0, k1, k2])).length = 3 + (pcsT k0).length + (pcsT k1).length + (pcsT k2).length := by simp [pcsT, pcsTs, nodeC, singleT] <;> omega
  have hE := Chg.refl v0.ownBlock.toList w
  have hVB : ∀ g, g ∈ v0.ownBlock.toList → Bs ≤ g := fun g h => (hO.ge (by simpa using h)).1
  have hg : ∀ g, v0.ownBlock = some g → g ∈ v0.ownBlock.toList ∨ w.heap.size ≤ g := fun g e => .inl (by simpa using e)
  obtain ⟨kb, ko, rfl, lbB, hkb, _⟩ := hR.2 (by simp)
  obtain ⟨d00, d01, d02, d03, hT0, hc0⟩ := kid_at hK hR rfl (i := 0) (t := k0) rfl
  have on0 := hT0.one
  obtain ⟨d10, d11, d12, d13, hT1, hc1⟩ := kid_at hK hR rfl (i := 1) (t := k1) rfl
  have on1 := hT1.one
  obtain ⟨d20, d21, d22, d23, hT2, hc2⟩ := kid_at hK hR rfl (i := 2) (t := k2) rfl
  have on2 := hT2.one
  refine rE 365 Try.func64 rfl rfl rfl ?_
  intro a hf
  refine rR 2 hf rfl fun a hf => ?_
  obtain ⟨w1, b2, he, hB3, hx4, eb5, lb6⟩ := ef_box (P := Try.prog) (t := 26) (x := (.tmp 1)) hf rfl rfl w 0
  refine rV hf rfl he fun a hf => ?_
  have ge_b2 := ge_new hE eb5
  have hn : v0.ownBlock ≠ some b2 := fun e => by have := (hO.ge e).2; omega
  replace hO := hO.t0 hx4
  replace hE := hE.t0 hx4
  clear eb5 lb6
  refine rR 6 hf rfl fun a hf => rV hf rfl (ex_loadB hf rfl (by kernel_rfl) hB3 rfl) fun a hf => rV hf rfl (ex_len hf Try.underlying24 rfl) fun a hf => rR 7 hf rfl fun a hf => rV hf rfl (ex_loadB hf rfl (by kernel_rfl) hB3 rfl) fun a hf => rR 109 hf rfl fun a hf => ?_
  have s_k00 := (low_now (o := ko) hE hVB hkb lbB).trans (hc0 0 (by decide))
  have s_k01 := (low_now (o := ko + 1) hE hVB hkb lbB).trans (hc0 1 (by decide))
  have s_k02 := (low_now (o := ko + 2) hE hVB hkb lbB).trans (hc0 2 (by decide))
  have s_k03 := (low_now (o := ko + 3) hE hVB hkb lbB).trans (hc0 3 (by decide))
  have hEs := hE
  have s_hB3 := hB3
  refine rD (fun x => x.cell? ⟨b2, 0, none⟩ = w1.cell? ⟨b2, 0, none⟩ ∧ x.cell? ⟨b2, 1, none⟩ = w1.cell? ⟨b2, 1, none⟩ ∧ x.cell? ⟨b2, 2, none⟩ = w1.cell? ⟨b2, 2, none⟩ ∧ x.cell? ⟨b2, 3, none⟩ = w1.cell? ⟨b2, 3, none⟩ ∧ x.cell? ⟨kb, ko, none⟩ = w1.cell? ⟨kb, ko, none⟩ ∧ x.cell? ⟨kb, ko + 1, none⟩ = w1.cell? ⟨kb, ko + 1, none⟩ ∧ x.cell? ⟨kb, ko + 2, none⟩ = w1.cell? ⟨kb, ko + 2, none⟩ ∧ x.cell? ⟨kb, ko + 3, none⟩ = w1.cell? ⟨kb, ko + 3, none⟩) 12 12 rfl (by kernel_rfl) (by kernel_rfl) ?_
  intro w7 hx8 hsel
  replace hB3 := hB3.c0 hx8
  replace hO := hO.t0 hx8
  replace hE := hE.t0 hx8
  have hS0 : w7.cell? ⟨b2, 0, none⟩ = w1.cell? ⟨b2, 0, none⟩ ∧ w7.cell? ⟨b2, 1, none⟩ = w1.cell? ⟨b2, 1, none⟩ ∧ w7.cell? ⟨b2, 2, none⟩ = w1.cell? ⟨b2, 2, none⟩ ∧ w7.cell? ⟨b2, 3, none⟩ = w1.cell? ⟨b2, 3, none⟩ ∧ w7.cell? ⟨kb, ko, none⟩ = w1.cell? ⟨kb, ko, none⟩ ∧ w7.cell? ⟨kb, ko + 1, none⟩ = w1.cell? ⟨kb, ko + 1, none⟩ ∧ w7.cell? ⟨kb, ko + 2, none⟩ = w1.cell? ⟨kb, ko + 2, none⟩ ∧ w7.cell? ⟨kb, ko + 3, none⟩ = w1.cell? ⟨kb, ko + 3, none⟩ := ⟨(hB3.cell 0).trans (s_hB3.cell 0).symm, (hB3.cell 1).trans (s_hB3.cell 1).symm, (hB3.cell 2).trans (s_hB3.cell 2).symm, (hB3.cell 3).trans (s_hB3.cell 3).symm, ((low_now hE hVB hkb lbB).trans (low_now hEs hVB hkb lbB).symm), ((low_now hE hVB hkb lbB).trans (low_now hEs hVB hkb lbB).symm), ((low_now hE hVB hkb lbB).trans (low_now hEs hVB hkb lbB).symm), ((low_now hE hVB hkb lbB).trans (low_now hEs hVB hkb lbB).symm)⟩
  refine dR [0] hsel (by kernel_rfl) hf rfl rfl (.inl hS0) fun a hf => dL 1 rfl rfl hsel (by kernel_rfl) hf rfl hS0 (fun x hS => ex_loadX4 hf rfl (by kernel_rfl) s_hB3 rfl hS.1 hS.2.1 hS.2.2.1 hS.2.2.2.1) fun a hf => dR [6] hsel (by kernel_rfl) hf rfl rfl (.inl hS0) fun a hf => dL 7 rfl rfl hsel (by kernel_rfl) hf rfl hS0 (fun x hS => ex_load hf rfl (by kernel_rfl) (hS.2.2.2.1.trans ((s_hB3.cell 3).trans rfl))) fun a hf => dV 8 rfl rfl hsel (by kernel_rfl) hf rfl (.inl hS0) (fun x => ex_index (sz := 4) (k := 0) (r := ko) hf Try.underlying24 (by kernel_rfl) rfl rfl rfl (by simp) rfl) fun a hf => dL 9 rfl rfl hsel (by kernel_rfl) hf rfl hS0 (fun x hS => ex_loadN (cs := [d00, d01, d02, d03]) (m := 4) hf rfl (by kernel_rfl) rfl (four (hS.2.2.2.2.1.trans s_k00) (hS.2.2.2.2.2.1.trans s_k01) (hS.2.2.2.2.2.2.1.trans s_k02) (hS.2.2.2.2.2.2.2.trans s_k03))) fun a hf => dl_c 2 (by kernel_rfl) rfl hf rfl rfl rfl (by kernel_rfl) (leadAtR (ls := [l0, l1, l2]) (j := 0) rfl (row_now hL hE hVB)) ?_
  rintro _ w10 ⟨rfl, hx9⟩
  refine ⟨_, rfl, fun a hf => ?_⟩
  replace hB3 := hB3.c0 hx9
  replace hO := hO.t0 hx9
  replace hE := hE.t0 hx9
  clear hS0
  have hS0 : w10.cell? ⟨b2, 0, none⟩ = w1.cell? ⟨b2, 0, none⟩ ∧ w10.cell? ⟨b2, 1, none⟩ = w1.cell? ⟨b2, 1, none⟩ ∧ w10.cell? ⟨b2, 2, none⟩ = w1.cell? ⟨b2, 2, none⟩ ∧ w10.cell? ⟨b2, 3, none⟩ = w1.cell? ⟨b2, 3, none⟩ ∧ w10.cell? ⟨kb, ko, none⟩ = w1.cell? ⟨kb, ko, none⟩ ∧ w10.cell? ⟨kb, ko + 1, none⟩ = w1.cell? ⟨kb, ko + 1, none⟩ ∧ w10.cell? ⟨kb, ko + 2, none⟩ = w1.cell? ⟨kb, ko + 2, none⟩ ∧ w10.cell? ⟨kb, ko + 3, none⟩ = w1.cell? ⟨kb, ko + 3, none⟩ := ⟨(hB3.cell 0).trans (s_hB3.cell 0).symm, (hB3.cell 1).trans (s_hB3.cell 1).symm, (hB3.cell 2).trans (s_hB3.cell 2).symm, (hB3.cell 3).trans (s_hB3.cell 3).symm, ((low_now hE hVB hkb lbB).trans (low_now hEs hVB hkb lbB).symm), ((low_now hE hVB hkb lbB).trans (low_now hEs hVB hkb lbB).symm), ((low_now hE hVB hkb lbB).trans (low_now hEs hVB hkb lbB).symm), ((low_now hE hVB hkb lbB).trans (low_now hEs hVB hkb lbB).symm)⟩
  refine ⟨.inl hS0, ?_⟩
  refine dV 3 rfl rfl hsel (by kernel_rfl) hf rfl (.inl hS0) (fun x => ex_bd (ps := [(0, (.tmp 253)), (1, (.const (.string ⟨#[105, 102]⟩)))]) (z := [.string ⟨([] : List UInt8).toArray⟩, .string ⟨([] : List UInt8).toArray⟩]) (os := [0, 1]) hf rfl (by kernel_rfl) (by kernel_rfl) (by kernel_rfl) rfl rfl) fun a hf => ?_
  obtain ⟨w11, b12, he, hB13, hx14, eb15, lb16⟩ := ef_bslice (P := Try.prog) (ps := [(0, (.tmp 254))]) (m := 1) (sz := 2) (z := [.string ⟨([] : List UInt8).toArray⟩, .string ⟨([] : List UInt8).toArray⟩]) hf rfl Try.underlying54 (by kernel_rfl) (by kernel_rfl) rfl rfl (by kernel_rfl) rfl w10 54
  refine dl_e 4 (by kernel_rfl) rfl hf rfl rfl he fun a hf => ?_
  have ne_b2_b12 : b2 ≠ b12 := ne_new hB3.lt eb15
  have ge_b12 := ge_new hE eb15
  replace hB3 := hB3.c0 hx14
  replace hO := hO.t0 hx14
  replace hE := hE.t0 hx14
  clear eb15 lb16
  clear hS0
  have hS0 : w11.cell? ⟨b2, 0, none⟩ = w1.cell? ⟨b2, 0, none⟩ ∧ w11.cell? ⟨b2, 1, none⟩ = w1.cell? ⟨b2, 1, none⟩ ∧ w11.cell? ⟨b2, 2, none⟩ = w1.cell? ⟨b2, 2, none⟩ ∧ w11.cell? ⟨b2, 3, none⟩ = w1.cell? ⟨b2, 3, none⟩ ∧ w11.cell? ⟨kb, ko, none⟩ = w1.cell? ⟨kb, ko, none⟩ ∧ w11.cell? ⟨kb, ko + 1, none⟩ = w1.cell? ⟨kb, ko + 1, none⟩ ∧ w11.cell? ⟨kb, ko + 2, none⟩ = w1.cell? ⟨kb, ko + 2, none⟩ ∧ w11.cell? ⟨kb, ko + 3, none⟩ = w1.cell? ⟨kb, ko + 3, none⟩ := ⟨(hB3.cell 0).trans (s_hB3.cell 0).symm, (hB3.cell 1).trans (s_hB3.cell 1).symm, (hB3.cell 2).trans (s_hB3.cell 2).symm, (hB3.cell 3).trans (s_hB3.cell 3).symm, ((low_now hE hVB hkb lbB).trans (low_now hEs hVB hkb lbB).symm), ((low_now hE hVB hkb lbB).trans (low_now hEs hVB hkb lbB).symm), ((low_now hE hVB hkb lbB).trans (low_now hEs hVB hkb lbB).symm), ((low_now hE hVB hkb lbB).trans (low_now hEs hVB hkb lbB).symm)⟩
  refine ⟨.inl hS0, ?_⟩
  obtain ⟨v18, w17, he, hO19, hx20, hfr21⟩ := eP (.tmp 251) (.tmp 255) [(l0, [105, 102])] hf rfl rfl hO hB13 rfl (by (try simp only [List.length_cons, List.length_nil]); omega) (nlt hBs hE.size) 54
  refine dl_e 5 (by kernel_rfl) rfl hf rfl rfl he fun a hf => ?_
  have hn2 := own_ne hfr21 hn hB3.lt
  have hg2 := own_from hfr21 hg hE.size
  replace hB3 := hB3.chg hx20 (nmO hn)
  replace hE := chg_own hE hx20 hg
  clear hO hn hg hfr21
  have hO := hO19; clear hO19
  have hn := hn2; clear hn2
  have hg := hg2; clear hg2
  obtain ⟨ps22, eps22⟩ : ∃ z, z = ps ++ [(l0, [105, 102])] := ⟨_, rfl⟩
  rw [← eps22] at hO
  have lps22 : ps22.length = ps.length + 1 := by rw [eps22]; simp
  clear hS0
  have hS0 : w17.cell? ⟨b2, 0, none⟩ = w1.cell? ⟨b2, 0, none⟩ ∧ w17.cell? ⟨b2, 1, none⟩ = w1.cell? ⟨b2, 1, none⟩ ∧ w17.cell? ⟨b2, 2, none⟩ = w1.cell? ⟨b2, 2, none⟩ ∧ w17.cell? ⟨b2, 3, none⟩ = w1.cell? ⟨b2, 3, none⟩ ∧ w17.cell? ⟨kb, ko, none⟩ = w1.cell? ⟨kb, ko, none⟩ ∧ w17.cell? ⟨kb, ko + 1, none⟩ = w1.cell? ⟨kb, ko + 1, none⟩ ∧ w17.cell? ⟨kb, ko + 2, none⟩ = w1.cell? ⟨kb, ko + 2, none⟩ ∧ w17.cell? ⟨kb, ko + 3, none⟩ = w1.cell? ⟨kb, ko + 3, none⟩ := ⟨(hB3.cell 0).trans (s_hB3.cell 0).symm, (hB3.cell 1).trans (s_hB3.cell 1).symm, (hB3.cell 2).trans (s_hB3.cell 2).symm, (hB3.cell 3).trans (s_hB3.cell 3).symm, ((low_now hE hVB hkb lbB).trans (low_now hEs hVB hkb lbB).symm), ((low_now hE hVB hkb lbB).trans (low_now hEs hVB hkb lbB).symm), ((low_now hE hVB hkb lbB).trans (low_now hEs hVB hkb lbB).symm), ((low_now hE hVB hkb lbB).trans (low_now hEs hVB hkb lbB).symm)⟩
  refine ⟨.inl hS0, ?_⟩
  refine dl_c 10 (by kernel_rfl) rfl hf rfl rfl rfl (by kernel_rfl) (ih k0 _ Bs _ ps22 _ _ _ _ (hks _ (by simp)).1 (hks _ (by simp)).2 (by omega) hO (tree_now hT0 hE hVB) (nlt hBs hE.size)) ?_
  rintro _ w27 ⟨v24, rfl, hO25, hx23, hfr26⟩
  refine ⟨_, rfl, fun a hf => ?_⟩
  have hn2 := own_ne hfr26 hn hB3.lt
  have hg2 := own_from hfr26 hg hE.size
  replace hB3 := hB3.chg hx23 (nmO hn)
  replace hE := chg_own hE hx23 hg
  clear hO hn hg hfr26
  have hO := hO25; clear hO25
  have hn := hn2; clear hn2
  have hg := hg2; clear hg2
  obtain ⟨ps28, eps28⟩ : ∃ z, z = ps22 ++ pcsT k0 := ⟨_, rfl⟩
  rw [← eps28] at hO
  have lps28 : ps28.length = ps22.length + (pcsT k0).length := by rw [eps28, List.length_append]
  clear hS0
  have hS0 : w27.cell? ⟨b2, 0, none⟩ = w1.cell? ⟨b2, 0, none⟩ ∧ w27.cell? ⟨b2, 1, none⟩ = w1.cell? ⟨b2, 1, none⟩ ∧ w27.cell? ⟨b2, 2, none⟩ = w1.cell? ⟨b2, 2, none⟩ ∧ w27.cell? ⟨b2, 3, none⟩ = w1.cell? ⟨b2, 3, none⟩ ∧ w27.cell? ⟨kb, ko, none⟩ = w1.cell? ⟨kb, ko, none⟩ ∧ w27.cell? ⟨kb, ko + 1, none⟩ = w1.cell? ⟨kb, ko + 1, none⟩ ∧ w27.cell? ⟨kb, ko + 2, none⟩ = w1.cell? ⟨kb, ko + 2, none⟩ ∧ w27.cell? ⟨kb, ko + 3, none⟩ = w1.cell? ⟨kb, ko + 3, none⟩ := ⟨(hB3.cell 0).trans (s_hB3.cell 0).symm, (hB3.cell 1).trans (s_hB3.cell 1).symm, (hB3.cell 2).trans (s_hB3.cell 2).symm, (hB3.cell 3).trans (s_hB3.cell 3).symm, ((low_now hE hVB hkb lbB).trans (low_now hEs hVB hkb lbB).symm), ((low_now hE hVB hkb lbB).trans (low_now hEs hVB hkb lbB).symm), ((low_now hE hVB hkb lbB).trans (low_now hEs hVB hkb lbB).symm), ((low_now hE hVB hkb lbB).trans (low_now hEs hVB hkb lbB).symm)⟩
  refine ⟨.inl hS0, ?_⟩
  refine dR [11] hsel (by kernel_rfl) hf rfl rfl (.inl hS0) fun a hf => rN (by kernel_rfl) ?_
  clear hS0 hsel
  refine rR 2 hf rfl fun a hf => ?_
  have s_k10 := (low_now (o := ko + 4) hE hVB hkb lbB).trans (hc1 0 (by decide))
  have s_k11 := (low_now (o := ko + 4 + 1) hE hVB hkb lbB).trans (hc1 1 (by decide))
  have s_k12 := (low_now (o := ko + 4 + 2) hE hVB hkb lbB).trans (hc1 2 (by decide))
  have s_k13 := (low_now (o := ko + 4 + 3) hE hVB hkb lbB).trans (hc1 3 (by decide))
  have hEs := hE
  have s_hB3 := hB3
  refine rD (fun x => x.cell? ⟨b2, 0, none⟩ = w27.cell? ⟨b2, 0, none⟩ ∧ x.cell? ⟨b2, 1, none⟩ = w27.cell? ⟨b2, 1, none⟩ ∧ x.cell? ⟨b2, 2, none⟩ = w27.cell? ⟨b2, 2, none⟩ ∧ x.cell? ⟨b2, 3, none⟩ = w27.cell? ⟨b2, 3, none⟩ ∧ x.cell? ⟨kb, ko + 4, none⟩ = w27.cell? ⟨kb, ko + 4, none⟩ ∧ x.cell? ⟨kb, ko + 4 + 1, none⟩ = w27.cell? ⟨kb, ko + 4 + 1, none⟩ ∧ x.cell? ⟨kb, ko + 4 + 2, none⟩ = w27.cell? ⟨kb, ko + 4 + 2, none⟩ ∧ x.cell? ⟨kb, ko + 4 + 3, none⟩ = w27.cell? ⟨kb, ko + 4 + 3, none⟩) 12 12 rfl (by kernel_rfl) (by kernel_rfl) ?_
  intro w29 hx30 hsel
  replace hB3 := hB3.c0 hx30
  replace hO := hO.t0 hx30
  replace hE := hE.t0 hx30
  have hS0 : w29.cell? ⟨b2, 0, none⟩ = w27.cell? ⟨b2, 0, none⟩ ∧ w29.cell? ⟨b2, 1, none⟩ = w27.cell? ⟨b2, 1, none⟩ ∧ w29.cell? ⟨b2, 2, none⟩ = w27.cell? ⟨b2, 2, none⟩ ∧ w29.cell? ⟨b2, 3, none⟩ = w27.cell? ⟨b2, 3, none⟩ ∧ w29.cell? ⟨kb, ko + 4, none⟩ = w27.cell? ⟨kb, ko + 4, none⟩ ∧ w29.cell? ⟨kb, ko + 4 + 1, none⟩ = w27.cell? ⟨kb, ko + 4 + 1, none⟩ ∧ w29.cell? ⟨kb, ko + 4 + 2, none⟩ = w27.cell? ⟨kb, ko + 4 + 2, none⟩ ∧ w29.cell? ⟨kb, ko + 4 + 3, none⟩ = w27.cell? ⟨kb, ko + 4 + 3, none⟩ := ⟨(hB3.cell 0).trans (s_hB3.cell 0).symm, (hB3.cell 1).trans (s_hB3.cell 1).symm, (hB3.cell 2).trans (s_hB3.cell 2).symm, (hB3.cell 3).trans (s_hB3.cell 3).symm, ((low_now hE hVB hkb lbB).trans (low_now hEs hVB hkb lbB).symm), ((low_now hE hVB hkb lbB).trans (low_now hEs hVB hkb lbB).symm), ((low_now hE hVB hkb lbB).trans (low_now hEs hVB hkb lbB).symm), ((low_now hE hVB hkb lbB).trans (low_now hEs hVB hkb lbB).symm)⟩
  refine dR [0] hsel (by kernel_rfl) hf rfl rfl (.inl hS0) fun a hf => dL 1 rfl rfl hsel (by kernel_rfl) hf rfl hS0 (fun x hS => ex_loadX4 hf rfl (by kernel_rfl) s_hB3 rfl hS.1 hS.2.1 hS.2.2.1 hS.2.2.2.1) fun a hf => dR [6] hsel (by kernel_rfl) hf rfl rfl (.inl hS0) fun a hf => dL 7 rfl rfl hsel (by kernel_rfl) hf rfl hS0 (fun x hS => ex_load hf rfl (by kernel_rfl) (hS.2.2.2.1.trans ((s_hB3.cell 3).trans rfl))) fun a hf => dV 8 rfl rfl hsel (by kernel_rfl) hf rfl (.inl hS0) (fun x => ex_index (sz := 4) (k := 1) (r := ko + 4) hf Try.underlying24 (by kernel_rfl) rfl rfl rfl (by simp) rfl) fun a hf => dL 9 rfl rfl hsel (by kernel_rfl) hf rfl hS0 (fun x hS => ex_loadN (cs := [d10, d11, d12, d13]) (m := 4) hf rfl (by kernel_rfl) rfl (four (hS.2.2.2.2.1.trans s_k10) (hS.2.2.2.2.2.1.trans s_k11) (hS.2.2.2.2.2.2.1.trans s_k12) (hS.2.2.2.2.2.2.2.trans s_k13))) fun a hf => dl_c 2 (by kernel_rfl) rfl hf rfl rfl rfl (by kernel_rfl) (leadAtR (ls := [l0, l1, l2]) (j := 1) rfl (row_now hL hE hVB)) ?_
  rintro _ w32 ⟨rfl, hx31⟩
  refine ⟨_, rfl, fun a hf => ?_⟩
  replace hB3 := hB3.c0 hx31
  replace hO := hO.t0 hx31
  replace hE := hE.t0 hx31
  clear hS0
  have hS0 : w32.cell? ⟨b2, 0, none⟩ = w27.cell? ⟨b2, 0, none⟩ ∧ w32.cell? ⟨b2, 1, none⟩ = w27.cell? ⟨b2, 1, none⟩ ∧ w32.cell? ⟨b2, 2, none⟩ = w27.cell? ⟨b2, 2, none⟩ ∧ w32.cell? ⟨b2, 3, none⟩ = w27.cell? ⟨b2, 3, none⟩ ∧ w32.cell? ⟨kb, ko + 4, none⟩ = w27.cell? ⟨kb, ko + 4, none⟩ ∧ w32.cell? ⟨kb, ko + 4 + 1, none⟩ = w27.cell? ⟨kb, ko + 4 + 1, none⟩ ∧ w32.cell? ⟨kb, ko + 4 + 2, none⟩ = w27.cell? ⟨kb, ko + 4 + 2, none⟩ ∧ w32.cell? ⟨kb, ko + 4 + 3, none⟩ = w27.cell? ⟨kb, ko + 4 + 3, none⟩ := ⟨(hB3.cell 0).trans (s_hB3.cell 0).symm, (hB3.cell 1).trans (s_hB3.cell 1).symm, (hB3.cell 2).trans (s_hB3.cell 2).symm, (hB3.cell 3).trans (s_hB3.cell 3).symm, ((low_now hE hVB hkb lbB).trans (low_now hEs hVB hkb lbB).symm), ((low_now hE hVB hkb lbB).trans (low_now hEs hVB hkb lbB).symm), ((low_now hE hVB hkb lbB).trans (low_now hEs hVB hkb lbB).symm), ((low_now hE hVB hkb lbB).trans (low_now hEs hVB hkb lbB).symm)⟩
  refine ⟨.inl hS0, ?_⟩
  refine dV 3 rfl rfl hsel (by kernel_rfl) hf rfl (.inl hS0) (fun x => ex_bd (ps := [(0, (.tmp 264)), (1, (.const (.string ⟨#[116, 104, 101, 110]⟩)))]) (z := [.string ⟨([] : List UInt8).toArray⟩, .string ⟨([] : List UInt8).toArray⟩]) (os := [0, 1]) hf rfl (by kernel_rfl) (by kernel_rfl) (by kernel_rfl) rfl rfl) fun a hf => ?_
  obtain ⟨w33, b34, he, hB35, hx36, eb37, lb38⟩ := ef_bslice (P := Try.prog) (ps := [(0, (.tmp 265))]) (m := 1) (sz := 2) (z := [.string ⟨([] : List UInt8).toArray⟩, .string ⟨([] : List UInt8).toArray⟩]) hf rfl Try.underlying54 (by kernel_rfl) (by kernel_rfl) rfl rfl (by kernel_rfl) rfl w32 54
  refine dl_e 4 (by kernel_rfl) rfl hf rfl rfl he fun a hf => ?_
  have ne_b2_b34 : b2 ≠ b34 := ne_new hB3.lt eb37
  have ge_b34 := ge_new hE eb37
  replace hB3 := hB3.c0 hx36
  replace hO := hO.t0 hx36
  replace hE := hE.t0 hx36
  clear eb37 lb38
  clear hS0
  have hS0 : w33.cell? ⟨b2, 0, none⟩ = w27.cell? ⟨b2, 0, none⟩ ∧ w33.cell? ⟨b2, 1, none⟩ = w27.cell? ⟨b2, 1, none⟩ ∧ w33.cell? ⟨b2, 2, none⟩ = w27.cell? ⟨b2, 2, none⟩ ∧ w33.cell? ⟨b2, 3, none⟩ = w27.cell? ⟨b2, 3, none⟩ ∧ w33.cell? ⟨kb, ko + 4, none⟩ = w27.cell? ⟨kb, ko + 4, none⟩ ∧ w33.cell? ⟨kb, ko + 4 + 1, none⟩ = w27.cell? ⟨kb, ko + 4 + 1, none⟩ ∧ w33.cell? ⟨kb, ko + 4 + 2, none⟩ = w27.cell? ⟨kb, ko + 4 + 2, none⟩ ∧ w33.cell? ⟨kb, ko + 4 + 3, none⟩ = w27.cell? ⟨kb, ko + 4 + 3, none⟩ := ⟨(hB3.cell 0).trans (s_hB3.cell 0).symm, (hB3.cell 1).trans (s_hB3.cell 1).symm, (hB3.cell 2).trans (s_hB3.cell 2).symm, (hB3.cell 3).trans (s_hB3.cell 3).symm, ((low_now hE hVB hkb lbB).trans (low_now hEs hVB hkb lbB).symm), ((low_now hE hVB hkb lbB).trans (low_now hEs hVB hkb lbB).symm), ((low_now hE hVB hkb lbB).trans (low_now hEs hVB hkb lbB).symm), ((low_now hE hVB hkb lbB).trans (low_now hEs hVB hkb lbB).symm)⟩
  refine ⟨.inl hS0, ?_⟩
  obtain ⟨v40, w39, he, hO41, hx42, hfr43⟩ := eP (.tmp 262) (.tmp 266) [(l1, [116, 104, 101, 110])] hf rfl rfl hO hB35 rfl (by (try simp only [List.length_cons, List.length_nil]); omega) (nlt hBs hE.size) 54
  refine dl_e 5 (by kernel_rfl) rfl hf rfl rfl he fun a hf => ?_
  have hn2 := own_ne hfr43 hn hB3.lt
  have hg2 := own_from hfr43 hg hE.size
  replace hB3 := hB3.chg hx42 (nmO hn)
  replace hE := chg_own hE hx42 hg
  clear hO hn hg hfr43
  have hO := hO41; clear hO41
  have hn := hn2; clear hn2
  have hg := hg2; clear hg2
  obtain ⟨ps44, eps44⟩ : ∃ z, z = ps28 ++ [(l1, [116, 104, 101, 110])] := ⟨_, rfl⟩
  rw [← eps44] at hO
  have lps44 : ps44.length = ps28.length + 1 := by rw [eps44]; simp
  clear hS0
  have hS0 : w39.cell? ⟨b2, 0, none⟩ = w27.cell? ⟨b2, 0, none⟩ ∧ w39.cell? ⟨b2, 1, none⟩ = w27.cell? ⟨b2, 1, none⟩ ∧ w39.cell? ⟨b2, 2, none⟩ = w27.cell? ⟨b2, 2, none⟩ ∧ w39.cell? ⟨b2, 3, none⟩ = w27.cell? ⟨b2, 3, none⟩ ∧ w39.cell? ⟨kb, ko + 4, none⟩ = w27.cell? ⟨kb, ko + 4, none⟩ ∧ w39.cell? ⟨kb, ko + 4 + 1, none⟩ = w27.cell? ⟨kb, ko + 4 + 1, none⟩ ∧ w39.cell? ⟨kb, ko + 4 + 2, none⟩ = w27.cell? ⟨kb, ko + 4 + 2, none⟩ ∧ w39.cell? ⟨kb, ko + 4 + 3, none⟩ = w27.cell? ⟨kb, ko + 4 + 3, none⟩ := ⟨(hB3.cell 0).trans (s_hB3.cell 0).symm, (hB3.cell 1).trans (s_hB3.cell 1).symm, (hB3.cell 2).trans (s_hB3.cell 2).symm, (hB3.cell 3).trans (s_hB3.cell 3).symm, ((low_now hE hVB hkb lbB).trans (low_now hEs hVB hkb lbB).symm), ((low_now hE hVB hkb lbB).trans (low_now hEs hVB hkb lbB).symm), ((low_now hE hVB hkb lbB).trans (low_now hEs hVB hkb lbB).symm), ((low_now hE hVB hkb lbB).trans (low_now hEs hVB hkb lbB).symm)⟩
  refine ⟨.inl hS0, ?_⟩
  refine dl_c 10 (by kernel_rfl) rfl hf rfl rfl rfl (by kernel_rfl) (ih k1 _ Bs _ ps44 _ _ _ _ (hks _ (by simp)).1 (hks _ (by simp)).2 (by omega) hO (tree_now hT1 hE hVB) (nlt hBs hE.size)) ?_
  rintro _ w49 ⟨v46, rfl, hO47, hx45, hfr48⟩
  refine ⟨_, rfl, fun a hf => ?_⟩
  have hn2 := own_ne hfr48 hn hB3.lt
  have hg2 := own_from hfr48 hg hE.size
  replace hB3 := hB3.chg hx45 (nmO hn)
  replace hE := chg_own hE hx45 hg
  clear hO hn hg hfr48
  have hO := hO47; clear hO47
  have hn := hn2; clear hn2
  have hg := hg2; clear hg2
  obtain ⟨ps50, eps50⟩ : ∃ z, z = ps44 ++ pcsT k1 := ⟨_, rfl⟩
  rw [← eps50] at hO
  have lps50 : ps50.length = ps44.length + (pcsT k1).length := by rw [eps50, List.length_append]
  clear hS0
  have hS0 : w49.cell? ⟨b2, 0, none⟩ = w27.cell? ⟨b2, 0, none⟩ ∧ w49.cell? ⟨b2, 1, none⟩ = w27.cell? ⟨b2, 1, none⟩ ∧ w49.cell? ⟨b2, 2, none⟩ = w27.cell? ⟨b2, 2, none⟩ ∧ w49.cell? ⟨b2, 3, none⟩ = w27.cell? ⟨b2, 3, none⟩ ∧ w49.cell? ⟨kb, ko + 4, none⟩ = w27.cell? ⟨kb, ko + 4, none⟩ ∧ w49.cell? ⟨kb, ko + 4 + 1, none⟩ = w27.cell? ⟨kb, ko + 4 + 1, none⟩ ∧ w49.cell? ⟨kb, ko + 4 + 2, none⟩ = w27.cell? ⟨kb, ko + 4 + 2, none⟩ ∧ w49.cell? ⟨kb, ko + 4 + 3, none⟩ = w27.cell? ⟨kb, ko + 4 + 3, none⟩ := ⟨(hB3.cell 0).trans (s_hB3.cell 0).symm, (hB3.cell 1).trans (s_hB3.cell 1).symm, (hB3.cell 2).trans (s_hB3.cell 2).symm, (hB3.cell 3).trans (s_hB3.cell 3).symm, ((low_now hE hVB hkb lbB).trans (low_now hEs hVB hkb lbB).symm), ((low_now hE hVB hkb lbB).trans (low_now hEs hVB hkb lbB).symm), ((low_now hE hVB hkb lbB).trans (low_now hEs hVB hkb lbB).symm), ((low_now hE hVB hkb lbB).trans (low_now hEs hVB hkb lbB).symm)⟩
  refine ⟨.inl hS0, ?_⟩
  refine dR [11] hsel (by kernel_rfl) hf rfl rfl (.inl hS0) fun a hf => rN (by kernel_rfl) ?_
  clear hS0 hsel
  refine rR 2 hf rfl fun a hf => ?_
  have s_k20 := (low_now (o := ko + 8) hE hVB hkb lbB).trans (hc2 0 (by decide))
  have s_k21 := (low_now (o := ko + 8 + 1) hE hVB hkb lbB).trans (hc2 1 (by decide))
  have s_k22 := (low_now (o := ko + 8 + 2) hE hVB hkb lbB).trans (hc2 2 (by decide))
  have s_k23 := (low_now (o := ko + 8 + 3) hE hVB hkb lbB).trans (hc2 3 (by decide))
  have hEs := hE
  have s_hB3 := hB3
  refine rD (fun x => x.cell? ⟨b2, 0, none⟩ = w49.cell? ⟨b2, 0, none⟩ ∧ x.cell? ⟨b2, 1, none⟩ = w49.cell? ⟨b2, 1, none⟩ ∧ x.cell? ⟨b2, 2, none⟩ = w49.cell? ⟨b2, 2, none⟩ ∧ x.cell? ⟨b2, 3, none⟩ = w49.cell? ⟨b2, 3, none⟩ ∧ x.cell? ⟨kb, ko + 8, none⟩ = w49.cell? ⟨kb, ko + 8, none⟩ ∧ x.cell? ⟨kb, ko + 8 + 1, none⟩ = w49.cell? ⟨kb, ko + 8 + 1, none⟩ ∧ x.cell? ⟨kb, ko + 8 + 2, none⟩ = w49.cell? ⟨kb, ko + 8 + 2, none⟩ ∧ x.cell? ⟨kb, ko + 8 + 3, none⟩ = w49.cell? ⟨kb, ko + 8 + 3, none⟩) 12 12 rfl (by kernel_rfl) (by kernel_rfl) ?_
  intro w51 hx52 hsel
  replace hB3 := hB3.c0 hx52
  replace hO := hO.t0 hx52
  replace hE := hE.t0 hx52
  have hS0 : w51.cell? ⟨b2, 0, none⟩ = w49.cell? ⟨b2, 0, none⟩ ∧ w51.cell? ⟨b2, 1, none⟩ = w49.cell? ⟨b2, 1, none⟩ ∧ w51.cell? ⟨b2, 2, none⟩ = w49.cell? ⟨b2, 2, none⟩ ∧ w51.cell? ⟨b2, 3, none⟩ = w49.cell? ⟨b2, 3, none⟩ ∧ w51.cell? ⟨kb, ko + 8, none⟩ = w49.cell? ⟨kb, ko + 8, none⟩ ∧ w51.cell? ⟨kb, ko + 8 + 1, none⟩ = w49.cell? ⟨kb, ko + 8 + 1, none⟩ ∧ w51.cell? ⟨kb, ko + 8 + 2, none⟩ = w49.cell? ⟨kb, ko + 8 + 2, none⟩ ∧ w51.cell? ⟨kb, ko + 8 + 3, none⟩ = w49.cell? ⟨kb, ko + 8 + 3, none⟩ := ⟨(hB3.cell 0).trans (s_hB3.cell 0).symm, (hB3.cell 1).trans (s_hB3.cell 1).symm, (hB3.cell 2).trans (s_hB3.cell 2).symm, (hB3.cell 3).trans (s_hB3.cell 3).symm, ((low_now hE hVB hkb lbB).trans (low_now hEs hVB hkb lbB).symm), ((low_now hE hVB hkb lbB).trans (low_now hEs hVB hkb lbB).symm), ((low_now hE hVB hkb lbB).trans (low_now hEs hVB hkb lbB).symm), ((low_now hE hVB hkb lbB).trans (low_now hEs hVB hkb lbB).symm)⟩
  refine dR [0] hsel (by kernel_rfl) hf rfl rfl (.inl hS0) fun a hf => dL 1 rfl rfl hsel (by kernel_rfl) hf rfl hS0 (fun x hS => ex_loadX4 hf rfl (by kernel_rfl) s_hB3 rfl hS.1 hS.2.1 hS.2.2.1 hS.2.2.2.1) fun a hf => dR [6] hsel (by kernel_rfl) hf rfl rfl (.inl hS0) fun a hf => dL 7 rfl rfl hsel (by kernel_rfl) hf rfl hS0 (fun x hS => ex_load hf rfl (by kernel_rfl) (hS.2.2.2.1.trans ((s_hB3.cell 3).trans rfl))) fun a hf => dV 8 rfl rfl hsel (by kernel_rfl) hf rfl (.inl hS0) (fun x => ex_index (sz := 4) (k := 2) (r := ko + 8) hf Try.underlying24 (by kernel_rfl) rfl rfl rfl (by simp) rfl) fun a hf => dL 9 rfl rfl hsel (by kernel_rfl) hf rfl hS0 (fun x hS => ex_loadN (cs := [d20, d21, d22, d23]) (m := 4) hf rfl (by kernel_rfl) rfl (four (hS.2.2.2.2.1.trans s_k20) (hS.2.2.2.2.2.1.trans s_k21) (hS.2.2.2.2.2.2.1.trans s_k22) (hS.2.2.2.2.2.2.2.trans s_k23))) fun a hf => dl_c 2 (by kernel_rfl) rfl hf rfl rfl rfl (by kernel_rfl) (leadAtR (ls := [l0, l1, l2]) (j := 2) rfl (row_now hL hE hVB)) ?_
  rintro _ w54 ⟨rfl, hx53⟩
  refine ⟨_, rfl, fun a hf => ?_⟩
  replace hB3 := hB3.c0 hx53
  replace hO := hO.t0 hx53
  replace hE := hE.t0 hx53
  clear hS0
  have hS0 : w54.cell? ⟨b2, 0, none⟩ = w49.cell? ⟨b2, 0, none⟩ ∧ w54.cell? ⟨b2, 1, none⟩ = w49.cell? ⟨b2, 1, none⟩ ∧ w54.cell? ⟨b2, 2, none⟩ = w49.cell? ⟨b2, 2, none⟩ ∧ w54.cell? ⟨b2, 3, none⟩ = w49.cell? ⟨b2, 3, none⟩ ∧ w54.cell? ⟨kb, ko + 8, none⟩ = w49.cell? ⟨kb, ko + 8, none⟩ ∧ w54.cell? ⟨kb, ko + 8 + 1, none⟩ = w49.cell? ⟨kb, ko + 8 + 1, none⟩ ∧ w54.cell? ⟨kb, ko + 8 + 2, none⟩ = w49.cell? ⟨kb, ko + 8 + 2, none⟩ ∧ w54.cell? ⟨kb, ko + 8 + 3, none⟩ = w49.cell? ⟨kb, ko + 8 + 3, none⟩ := ⟨(hB3.cell 0).trans (s_hB3.cell 0).symm, (hB3.cell 1).trans (s_hB3.cell 1).symm, (hB3.cell 2).trans (s_hB3.cell 2).symm, (hB3.cell 3).trans (s_hB3.cell 3).symm, ((low_now hE hVB hkb lbB).trans (low_now hEs hVB hkb lbB).symm), ((low_now hE hVB hkb lbB).trans (low_now hEs hVB hkb lbB).symm), ((low_now hE hVB hkb lbB).trans (low_now hEs hVB hkb lbB).symm), ((low_now hE hVB hkb lbB).trans (low_now hEs hVB hkb lbB).symm)⟩
  refine ⟨.inl hS0, ?_⟩
  refine dV 3 rfl rfl hsel (by kernel_rfl) hf rfl (.inl hS0) (fun x => ex_bd (ps := [(0, (.tmp 275)), (1, (.const (.string ⟨#[101, 108, 115, 101]⟩)))]) (z := [.string ⟨([] : List UInt8).toArray⟩, .string ⟨([] : List UInt8).toArray⟩]) (os := [0, 1]) hf rfl (by kernel_rfl) (by kernel_rfl) (by kernel_rfl) rfl rfl) fun a hf => ?_
  obtain ⟨w55, b56, he, hB57, hx58, eb59, lb60⟩ := ef_bslice (P := Try.prog) (ps := [(0, (.tmp 276))]) (m := 1) (sz := 2) (z := [.string ⟨([] : List UInt8).toArray⟩, .string ⟨([] : List UInt8).toArray⟩]) hf rfl Try.underlying54 (by kernel_rfl) (by kernel_rfl) rfl rfl (by kernel_rfl) rfl w54 54
  refine dl_e 4 (by kernel_rfl) rfl hf rfl rfl he fun a hf => ?_
  have ne_b2_b56 : b2 ≠ b56 := ne_new hB3.lt eb59
  have ge_b56 := ge_new hE eb59
  replace hB3 := hB3.c0 hx58
  replace hO := hO.t0 hx58
  replace hE := hE.t0 hx58
  clear eb59 lb60
  clear hS0
  have hS0 : w55.cell? ⟨b2, 0, none⟩ = w49.cell? ⟨b2, 0, none⟩ ∧ w55.cell? ⟨b2, 1, none⟩ = w49.cell? ⟨b2, 1, none⟩ ∧ w55.cell? ⟨b2, 2, none⟩ = w49.cell? ⟨b2, 2, none⟩ ∧ w55.cell? ⟨b2, 3, none⟩ = w49.cell? ⟨b2, 3, none⟩ ∧ w55.cell? ⟨kb, ko + 8, none⟩ = w49.cell? ⟨kb, ko + 8, none⟩ ∧ w55.cell? ⟨kb, ko + 8 + 1, none⟩ = w49.cell? ⟨kb, ko + 8 + 1, none⟩ ∧ w55.cell? ⟨kb, ko + 8 + 2, none⟩ = w49.cell? ⟨kb, ko + 8 + 2, none⟩ ∧ w55.cell? ⟨kb, ko + 8 + 3, none⟩ = w49.cell? ⟨kb, ko + 8 + 3, none⟩ := ⟨(hB3.cell 0).trans (s_hB3.cell 0).symm, (hB3.cell 1).trans (s_hB3.cell 1).symm, (hB3.cell 2).trans (s_hB3.cell 2).symm, (hB3.cell 3).trans (s_hB3.cell 3).symm, ((low_now hE hVB hkb lbB).trans (low_now hEs hVB hkb lbB).symm), ((low_now hE hVB hkb lbB).trans (low_now hEs hVB hkb lbB).symm), ((low_now hE hVB hkb lbB).trans (low_now hEs hVB hkb lbB).symm), ((low_now hE hVB hkb lbB).trans (low_now hEs hVB hkb lbB).symm)⟩
  refine ⟨.inl hS0, ?_⟩
  obtain ⟨v62, w61, he, hO63, hx64, hfr65⟩ := eP (.tmp 273) (.tmp 277) [(l2, [101, 108, 115, 101])] hf rfl rfl hO hB57 rfl (by (try simp only [List.length_cons, List.length_nil]); omega) (nlt hBs hE.size) 54
  refine dl_e 5 (by kernel_rfl) rfl hf rfl rfl he fun a hf => ?_
  have hn2 := own_ne hfr65 hn hB3.lt
  have hg2 := own_from hfr65 hg hE.size
  replace hB3 := hB3.chg hx64 (nmO hn)
  replace hE := chg_own hE hx64 hg
  clear hO hn hg hfr65
  have hO := hO63; clear hO63
  have hn := hn2; clear hn2
  have hg := hg2; clear hg2
  obtain ⟨ps66, eps66⟩ : ∃ z, z = ps50 ++ [(l2, [101, 108, 115, 101])] := ⟨_, rfl⟩
  rw [← eps66] at hO
  have lps66 : ps66.length = ps50.length + 1 := by rw [eps66]; simp
  clear hS0
  have hS0 : w61.cell? ⟨b2, 0, none⟩ = w49.cell? ⟨b2, 0, none⟩ ∧ w61.cell? ⟨b2, 1, none⟩ = w49.cell? ⟨b2, 1, none⟩ ∧ w61.cell? ⟨b2, 2, none⟩ = w49.cell? ⟨b2, 2, none⟩ ∧ w61.cell? ⟨b2, 3, none⟩ = w49.cell? ⟨b2, 3, none⟩ ∧ w61.cell? ⟨kb, ko + 8, none⟩ = w49.cell? ⟨kb, ko + 8, none⟩ ∧ w61.cell? ⟨kb, ko + 8 + 1, none⟩ = w49.cell? ⟨kb, ko + 8 + 1, none⟩ ∧ w61.cell? ⟨kb, ko + 8 + 2, none⟩ = w49.cell? ⟨kb, ko + 8 + 2, none⟩ ∧ w61.cell? ⟨kb, ko + 8 + 3, none⟩ = w49.cell? ⟨kb, ko + 8 + 3, none⟩ := ⟨(hB3.cell 0).trans (s_hB3.cell 0).symm, (hB3.cell 1).trans (s_hB3.cell 1).symm, (hB3.cell 2).trans (s_hB3.cell 2).symm, (hB3.cell 3).trans (s_hB3.cell 3).symm, ((low_now hE hVB hkb lbB).trans (low_now hEs hVB hkb lbB).symm), ((low_now hE hVB hkb lbB).trans (low_now hEs hVB hkb lbB).symm), ((low_now hE hVB hkb lbB).trans (low_now hEs hVB hkb lbB).symm), ((low_now hE hVB hkb lbB).trans (low_now hEs hVB hkb lbB).symm)⟩
  refine ⟨.inl hS0, ?_⟩
  refine dl_c 10 (by kernel_rfl) rfl hf rfl rfl rfl (by kernel_rfl) (ih k2 _ Bs _ ps66 _ _ _ _ (hks _ (by simp)).1 (hks _ (by simp)).2 (by omega) hO (tree_now hT2 hE hVB) (nlt hBs hE.size)) ?_
  rintro _ w71 ⟨v68, rfl, hO69, hx67, hfr70⟩
  refine ⟨_, rfl, fun a hf => ?_⟩
  have hn2 := own_ne hfr70 hn hB3.lt
  have hg2 := own_from hfr70 hg hE.size
  replace hB3 := hB3.chg hx67 (nmO hn)
  replace hE := chg_own hE hx67 hg
  clear hO hn hg hfr70
  have hO := hO69; clear hO69
  have hn := hn2; clear hn2
  have hg := hg2; clear hg2
  obtain ⟨ps72, eps72⟩ : ∃ z, z = ps66 ++ pcsT k2 := ⟨_, rfl⟩
  rw [← eps72] at hO
  have lps72 : ps72.length = ps66.length + (pcsT k2).length := by rw [eps72, List.length_append]
  clear hS0
  have hS0 : w71.cell? ⟨b2, 0, none⟩ = w49.cell? ⟨b2, 0, none⟩ ∧ w71.cell? ⟨b2, 1, none⟩ = w49.cell? ⟨b2, 1, none⟩ ∧ w71.cell? ⟨b2, 2, none⟩ = w49.cell? ⟨b2, 2, none⟩ ∧ w71.cell? ⟨b2, 3, none⟩ = w49.cell? ⟨b2, 3, none⟩ ∧ w71.cell? ⟨kb, ko + 8, none⟩ = w49.cell? ⟨kb, ko + 8, none⟩ ∧ w71.cell? ⟨kb, ko + 8 + 1, none⟩ = w49.cell? ⟨kb, ko + 8 + 1, none⟩ ∧ w71.cell? ⟨kb, ko + 8 + 2, none⟩ = w49.cell? ⟨kb, ko + 8 + 2, none⟩ ∧ w71.cell? ⟨kb, ko + 8 + 3, none⟩ = w49.cell? ⟨kb, ko + 8 + 3, none⟩ := ⟨(hB3.cell 0).trans (s_hB3.cell 0).symm, (hB3.cell 1).trans (s_hB3.cell 1).symm, (hB3.cell 2).trans (s_hB3.cell 2).symm, (hB3.cell 3).trans (s_hB3.cell 3).symm, ((low_now hE hVB hkb lbB).trans (low_now hEs hVB hkb lbB).symm), ((low_now hE hVB hkb lbB).trans (low_now hEs hVB hkb lbB).symm), ((low_now hE hVB hkb lbB).trans (low_now hEs hVB hkb lbB).symm), ((low_now hE hVB hkb lbB).trans (low_now hEs hVB hkb lbB).symm)⟩
  refine ⟨.inl hS0, ?_⟩
  refine dR [11] hsel (by kernel_rfl) hf rfl rfl (.inl hS0) fun a hf => rN (by kernel_rfl) ?_
  clear hS0 hsel
  refine rR 4 hf rfl fun a hf => ?_
  have eq : ps ++ pcsT (.node 19 x [l0, l1, l2] [k0, k1, k2]) = ps72 := by subst eps72; subst eps66; subst eps50; subst eps44; subst eps28; subst eps22; simp [pcsT, pcsTs, nodeC, singleT]
  exact rT (rs := [.tmp 4]) hf rfl ⟨_, _, rfl, rfl, rfl⟩ ⟨_, rfl, eq ▸ hO, hE, fresh_all hg (.inl (own_some hO))⟩
theorem p20 {N : Nat} (ih : PiecesOk N) {w : World} {Bs : Nat} {v0 : Value} {ps : List Pc} {x : List UInt8} {l0 l1 l2 l3 : List UInt8} {k0 k1 : Tree} {cs : List Value} {A B : Option Addr} {m n : Nat} (hks : ∀ t, t ∈ [k0, k1] → tsize t ≤ N ∧ (shapedT t && leadedT t && decide (tbulk t ≤ 1000000000)) = true)
    (hl1 : ps.length + (pcsT (.node 20 x [l0, l1, l2, l3] [k0, k1])).length ≤ 1000000000) (hO : Ow Bs w v0 ps) (hL : RowIn (fun b => b < Bs) w 1 A [l0, l1, l2, l3].length ([l0, l1, l2, l3].map strV)) (hn0 : [k0, k1].length ≤ n) (hn2 : n ≤ maxLen) (hK : KidsAre (fun b => b < Bs) w [k0, k1] cs) (hR : RowIn (fun b => b < Bs) w 4 B [k0, k1].length cs) (hBs : Bs ≤ w.heap.size) :
    Calls Try.prog 64 [v0, .agg #[.int .i64 20, strV x, .slice A [l0, l1, l2, l3].length m, .slice B [k0, k1].length n]].toArray w fun e w' => ∃ v', e = .returned v' ∧ Ow Bs w' v' (ps ++ pcsT (.node 20 x [l0, l1, l2, l3] [k0, k1])) ∧ Chg v0.ownBlock.toList w w' ∧ Fresh w v0 v' := by
  have hq : (pcsT (.node 20 x [l0, l1, l2, l3] [k0, k1])).length = 4 + (pcsT k0).length + (pcsT k1).length := by simp [pcsT, pcsTs, nodeC, singleT] <;> omega
  have hE := Chg.refl v0.ownBlock.toList w
  have hVB : ∀ g, g ∈ v0.ownBlock.toList → Bs ≤ g := fun g h => (hO.ge (by simpa using h)).1
  have hg : ∀ g, v0.ownBlock = some g → g ∈ v0.ownBlock.toList ∨ w.heap.size ≤ g := fun g e => .inl (by simpa using e)
  obtain ⟨kb, ko, rfl, lbB, hkb, _⟩ := hR.2 (by simp)
  obtain ⟨d00, d01, d02, d03, hT0, hc0⟩ := kid_at hK hR rfl (i := 0) (t := k0) rfl
  have on0 := hT0.one
  obtain ⟨d10, d11, d12, d13, hT1, hc1⟩ := kid_at hK hR rfl (i := 1) (t := k1) rfl
  have on1 := hT1.one
  refine rE 365 Try.func64 rfl rfl rfl ?_
  intro a hf
  refine rR 2 hf rfl fun a hf => ?_
  obtain ⟨w1, b2, he, hB3, hx4, eb5, lb6⟩ := ef_box (P := Try.prog) (t := 26) (x := (.tmp 1)) hf rfl rfl w 0
  refine rV hf rfl he fun a hf => ?_
  have ge_b2 := ge_new hE eb5
  have hn : v0.ownBlock ≠ some b2 := fun e => by have := (hO.ge e).2; omega
  replace hO := hO.t0 hx4
  replace hE := hE.t0 hx4
  clear eb5 lb6
  refine rR 6 hf rfl fun a hf => rV hf rfl (ex_loadB hf rfl (by kernel_rfl) hB3 rfl) fun a hf => rV hf rfl (ex_len hf Try.underlying24 rfl) fun a hf => rR 7 hf rfl fun a hf => rV hf rfl (ex_loadB hf rfl (by kernel_rfl) hB3 rfl) fun a hf => rR 116 hf rfl fun a hf => ?_
  have hEs := hE
  have s_hB3 := hB3
  refine rD (fun x => x.cell? ⟨b2, 0, none⟩ = w1.cell? ⟨b2, 0, none⟩ ∧ x.cell? ⟨b2, 1, none⟩ = w1.cell? ⟨b2, 1, none⟩ ∧ x.cell? ⟨b2, 2, none⟩ = w1.cell? ⟨b2, 2, none⟩ ∧ x.cell? ⟨b2, 3, none⟩ = w1.cell? ⟨b2, 3, none⟩) 15 15 rfl (by kernel_rfl) (by kernel_rfl) ?_
  intro w7 hx8 hsel
  replace hB3 := hB3.c0 hx8
  replace hO := hO.t0 hx8
  replace hE := hE.t0 hx8
  have hS0 : w7.cell? ⟨b2, 0, none⟩ = w1.cell? ⟨b2, 0, none⟩ ∧ w7.cell? ⟨b2, 1, none⟩ = w1.cell? ⟨b2, 1, none⟩ ∧ w7.cell? ⟨b2, 2, none⟩ = w1.cell? ⟨b2, 2, none⟩ ∧ w7.cell? ⟨b2, 3, none⟩ = w1.cell? ⟨b2, 3, none⟩ := ⟨(hB3.cell 0).trans (s_hB3.cell 0).symm, (hB3.cell 1).trans (s_hB3.cell 1).symm, (hB3.cell 2).trans (s_hB3.cell 2).symm, (hB3.cell 3).trans (s_hB3.cell 3).symm⟩
  refine dR [0] hsel (by kernel_rfl) hf rfl rfl (.inl hS0) fun a hf => dL 1 rfl rfl hsel (by kernel_rfl) hf rfl hS0 (fun x hS => ex_loadX4 hf rfl (by kernel_rfl) s_hB3 rfl hS.1 hS.2.1 hS.2.2.1 hS.2.2.2) fun a hf => dL 4 rfl rfl hsel (by kernel_rfl) hf rfl hS0 (fun x hS => ex_loadX4 hf rfl (by kernel_rfl) s_hB3 rfl hS.1 hS.2.1 hS.2.2.1 hS.2.2.2) fun a hf => dR [6] hsel (by kernel_rfl) hf rfl rfl (.inl hS0) fun a hf => dL 7 rfl rfl hsel (by kernel_rfl) hf rfl hS0 (fun x hS => ex_load hf rfl (by kernel_rfl) (hS.2.1.trans ((s_hB3.cell 1).trans rfl))) fun a hf => dL 9 rfl rfl hsel (by kernel_rfl) hf rfl hS0 (fun x hS => ex_loadX4 hf rfl (by kernel_rfl) s_hB3 rfl hS.1 hS.2.1 hS.2.2.1 hS.2.2.2) fun a hf => dl_c 2 (by kernel_rfl) rfl hf rfl rfl rfl (by kernel_rfl) (leadAtR (ls := [l0, l1, l2, l3]) (j := 0) rfl (row_now hL hE hVB)) ?_
  rintro _ w10 ⟨rfl, hx9⟩
  refine ⟨_, rfl, fun a hf => ?_⟩
  replace hB3 := hB3.c0 hx9
  replace hO := hO.t0 hx9
  replace hE := hE.t0 hx9
  clear hS0
  have hS0 : w10.cell? ⟨b2, 0, none⟩ = w1.cell? ⟨b2, 0, none⟩ ∧ w10.cell? ⟨b2, 1, none⟩ = w1.cell? ⟨b2, 1, none⟩ ∧ w10.cell? ⟨b2, 2, none⟩ = w1.cell? ⟨b2, 2, none⟩ ∧ w10.cell? ⟨b2, 3, none⟩ = w1.cell? ⟨b2, 3, none⟩ := ⟨(hB3.cell 0).trans (s_hB3.cell 0).symm, (hB3.cell 1).trans (s_hB3.cell 1).symm, (hB3.cell 2).trans (s_hB3.cell 2).symm, (hB3.cell 3).trans (s_hB3.cell 3).symm⟩
  refine ⟨.inl hS0, ?_⟩
  refine dV 3 rfl rfl hsel (by kernel_rfl) hf rfl (.inl hS0) (fun x => ex_bd (ps := [(0, (.tmp 288)), (1, (.const (.string ⟨#[108, 101, 116]⟩)))]) (z := [.string ⟨([] : List UInt8).toArray⟩, .string ⟨([] : List UInt8).toArray⟩]) (os := [0, 1]) hf rfl (by kernel_rfl) (by kernel_rfl) (by kernel_rfl) rfl rfl) fun a hf => dl_c 5 (by kernel_rfl) rfl hf rfl rfl rfl (by kernel_rfl) (leadAtR (ls := [l0, l1, l2, l3]) (j := 1) rfl (row_now hL hE hVB)) ?_
  rintro _ w12 ⟨rfl, hx11⟩
  refine ⟨_, rfl, fun a hf => ?_⟩
  replace hB3 := hB3.c0 hx11
  replace hO := hO.t0 hx11
  replace hE := hE.t0 hx11
  clear hS0
  have hS0 : w12.cell? ⟨b2, 0, none⟩ = w1.cell? ⟨b2, 0, none⟩ ∧ w12.cell? ⟨b2, 1, none⟩ = w1.cell? ⟨b2, 1, none⟩ ∧ w12.cell? ⟨b2, 2, none⟩ = w1.cell? ⟨b2, 2, none⟩ ∧ w12.cell? ⟨b2, 3, none⟩ = w1.cell? ⟨b2, 3, none⟩ := ⟨(hB3.cell 0).trans (s_hB3.cell 0).symm, (hB3.cell 1).trans (s_hB3.cell 1).symm, (hB3.cell 2).trans (s_hB3.cell 2).symm, (hB3.cell 3).trans (s_hB3.cell 3).symm⟩
  refine ⟨.inl hS0, ?_⟩
  refine dV 8 rfl rfl hsel (by kernel_rfl) hf rfl (.inl hS0) (fun x => ex_bd (ps := [(0, (.tmp 291)), (1, (.tmp 293))]) (z := [.string ⟨([] : List UInt8).toArray⟩, .string ⟨([] : List UInt8).toArray⟩]) (os := [0, 1]) hf rfl (by kernel_rfl) (by kernel_rfl) (by kernel_rfl) rfl rfl) fun a hf => dl_c 10 (by kernel_rfl) rfl hf rfl rfl rfl (by kernel_rfl) (leadAtR (ls := [l0, l1, l2, l3]) (j := 2) rfl (row_now hL hE hVB)) ?_
  rintro _ w14 ⟨rfl, hx13⟩
  refine ⟨_, rfl, fun a hf => ?_⟩
  replace hB3 := hB3.c0 hx13
  replace hO := hO.t0 hx13
  replace hE := hE.t0 hx13
  clear hS0
  have hS0 : w14.cell? ⟨b2, 0, none⟩ = w1.cell? ⟨b2, 0, none⟩ ∧ w14.cell? ⟨b2, 1, none⟩ = w1.cell? ⟨b2, 1, none⟩ ∧ w14.cell? ⟨b2, 2, none⟩ = w1.cell? ⟨b2, 2, none⟩ ∧ w14.cell? ⟨b2, 3, none⟩ = w1.cell? ⟨b2, 3, none⟩ := ⟨(hB3.cell 0).trans (s_hB3.cell 0).symm, (hB3.cell 1).trans (s_hB3.cell 1).symm, (hB3.cell 2).trans (s_hB3.cell 2).symm, (hB3.cell 3).trans (s_hB3.cell 3).symm⟩
  refine ⟨.inl hS0, ?_⟩
  refine dV 11 rfl rfl hsel (by kernel_rfl) hf rfl (.inl hS0) (fun x => ex_bd (ps := [(0, (.tmp 296)), (1, (.const (.string ⟨#[61]⟩)))]) (z := [.string ⟨([] : List UInt8).toArray⟩, .string ⟨([] : List UInt8).toArray⟩]) (os := [0, 1]) hf rfl (by kernel_rfl) (by kernel_rfl) (by kernel_rfl) rfl rfl) fun a hf => ?_
  obtain ⟨w15, b16, he, hB17, hx18, eb19, lb20⟩ := ef_bslice (P := Try.prog) (ps := [(0, (.tmp 289)), (1, (.tmp 294)), (2, (.tmp 297))]) (m := 3) (sz := 2) (z := [.string ⟨([] : List UInt8).toArray⟩, .string ⟨([] : List UInt8).toArray⟩]) hf rfl Try.underlying54 (by kernel_rfl) (by kernel_rfl) rfl rfl (by kernel_rfl) rfl w14 54
  refine dl_e 12 (by kernel_rfl) rfl hf rfl rfl he fun a hf => ?_
  have ne_b2_b16 : b2 ≠ b16 := ne_new hB3.lt eb19
  have ge_b16 := ge_new hE eb19
  replace hB3 := hB3.c0 hx18
  replace hO := hO.t0 hx18
  replace hE := hE.t0 hx18
  clear eb19 lb20
  clear hS0
  have hS0 : w15.cell? ⟨b2, 0, none⟩ = w1.cell? ⟨b2, 0, none⟩ ∧ w15.cell? ⟨b2, 1, none⟩ = w1.cell? ⟨b2, 1, none⟩ ∧ w15.cell? ⟨b2, 2, none⟩ = w1.cell? ⟨b2, 2, none⟩ ∧ w15.cell? ⟨b2, 3, none⟩ = w1.cell? ⟨b2, 3, none⟩ := ⟨(hB3.cell 0).trans (s_hB3.cell 0).symm, (hB3.cell 1).trans (s_hB3.cell 1).symm, (hB3.cell 2).trans (s_hB3.cell 2).symm, (hB3.cell 3).trans (s_hB3.cell 3).symm⟩
  refine ⟨.inl hS0, ?_⟩
  obtain ⟨v22, w21, he, hO23, hx24, hfr25⟩ := eP (.tmp 286) (.tmp 298) [(l0, [108, 101, 116]), (l1, x), (l2, [61])] hf rfl rfl hO hB17 rfl (by (try simp only [List.length_cons, List.length_nil]); omega) (nlt hBs hE.size) 54
  refine dl_e 13 (by kernel_rfl) rfl hf rfl rfl he fun a hf => ?_
  have hn2 := own_ne hfr25 hn hB3.lt
  have hg2 := own_from hfr25 hg hE.size
  replace hB3 := hB3.chg hx24 (nmO hn)
  replace hE := chg_own hE hx24 hg
  clear hO hn hg hfr25
  have hO := hO23; clear hO23
  have hn := hn2; clear hn2
  have hg := hg2; clear hg2
  obtain ⟨ps26, eps26⟩ : ∃ z, z = ps ++ [(l0, [108, 101, 116]), (l1, x), (l2, [61])] := ⟨_, rfl⟩
  rw [← eps26] at hO
  have lps26 : ps26.length = ps.length + 3 := by rw [eps26]; simp
  clear hS0
  have hS0 : w21.cell? ⟨b2, 0, none⟩ = w1.cell? ⟨b2, 0, none⟩ ∧ w21.cell? ⟨b2, 1, none⟩ = w1.cell? ⟨b2, 1, none⟩ ∧ w21.cell? ⟨b2, 2, none⟩ = w1.cell? ⟨b2, 2, none⟩ ∧ w21.cell? ⟨b2, 3, none⟩ = w1.cell? ⟨b2, 3, none⟩ := ⟨(hB3.cell 0).trans (s_hB3.cell 0).symm, (hB3.cell 1).trans (s_hB3.cell 1).symm, (hB3.cell 2).trans (s_hB3.cell 2).symm, (hB3.cell 3).trans (s_hB3.cell 3).symm⟩
  refine ⟨.inl hS0, ?_⟩
  refine dR [14] hsel (by kernel_rfl) hf rfl rfl (.inl hS0) fun a hf => rN (by kernel_rfl) ?_
  clear hS0 hsel
  refine rR 2 hf rfl fun a hf => ?_
  have s_k00 := (low_now (o := ko) hE hVB hkb lbB).trans (hc0 0 (by decide))
  have s_k01 := (low_now (o := ko + 1) hE hVB hkb lbB).trans (hc0 1 (by decide))
  have s_k02 := (low_now (o := ko + 2) hE hVB hkb lbB).trans (hc0 2 (by decide))
  have s_k03 := (low_now (o := ko + 3) hE hVB hkb lbB).trans (hc0 3 (by decide))
  have hEs := hE
  have s_hB3 := hB3
  refine rD (fun x => x.cell? ⟨b2, 3, none⟩ = w21.cell? ⟨b2, 3, none⟩ ∧ x.cell? ⟨kb, ko, none⟩ = w21.cell? ⟨kb, ko, none⟩ ∧ x.cell? ⟨kb, ko + 1, none⟩ = w21.cell? ⟨kb, ko + 1, none⟩ ∧ x.cell? ⟨kb, ko + 2, none⟩ = w21.cell? ⟨kb, ko + 2, none⟩ ∧ x.cell? ⟨kb, ko + 3, none⟩ = w21.cell? ⟨kb, ko + 3, none⟩ ∧ x.cell? ⟨b2, 0, none⟩ = w21.cell? ⟨b2, 0, none⟩ ∧ x.cell? ⟨b2, 1, none⟩ = w21.cell? ⟨b2, 1, none⟩ ∧ x.cell? ⟨b2, 2, none⟩ = w21.cell? ⟨b2, 2, none⟩) 12 12 rfl (by kernel_rfl) (by kernel_rfl) ?_
  intro w27 hx28 hsel
  replace hB3 := hB3.c0 hx28
  replace hO := hO.t0 hx28
  replace hE := hE.t0 hx28
  have hS0 : w27.cell? ⟨b2, 3, none⟩ = w21.cell? ⟨b2, 3, none⟩ ∧ w27.cell? ⟨kb, ko, none⟩ = w21.cell? ⟨kb, ko, none⟩ ∧ w27.cell? ⟨kb, ko + 1, none⟩ = w21.cell? ⟨kb, ko + 1, none⟩ ∧ w27.cell? ⟨kb, ko + 2, none⟩ = w21.cell? ⟨kb, ko + 2, none⟩ ∧ w27.cell? ⟨kb, ko + 3, none⟩ = w21.cell? ⟨kb, ko + 3, none⟩ ∧ w27.cell? ⟨b2, 0, none⟩ = w21.cell? ⟨b2, 0, none⟩ ∧ w27.cell? ⟨b2, 1, none⟩ = w21.cell? ⟨b2, 1, none⟩ ∧ w27.cell? ⟨b2, 2, none⟩ = w21.cell? ⟨b2, 2, none⟩ := ⟨(hB3.cell 3).trans (s_hB3.cell 3).symm, ((low_now hE hVB hkb lbB).trans (low_now hEs hVB hkb lbB).symm), ((low_now hE hVB hkb lbB).trans (low_now hEs hVB hkb lbB).symm), ((low_now hE hVB hkb lbB).trans (low_now hEs hVB hkb lbB).symm), ((low_now hE hVB hkb lbB).trans (low_now hEs hVB hkb lbB).symm), (hB3.cell 0).trans (s_hB3.cell 0).symm, (hB3.cell 1).trans (s_hB3.cell 1).symm, (hB3.cell 2).trans (s_hB3.cell 2).symm⟩
  refine dR [0, 1] hsel (by kernel_rfl) hf rfl rfl (.inl hS0) fun a hf => dL 2 rfl rfl hsel (by kernel_rfl) hf rfl hS0 (fun x hS => ex_load hf rfl (by kernel_rfl) (hS.1.trans ((s_hB3.cell 3).trans rfl))) fun a hf => dV 3 rfl rfl hsel (by kernel_rfl) hf rfl (.inl hS0) (fun x => ex_index (sz := 4) (k := 0) (r := ko) hf Try.underlying24 (by kernel_rfl) rfl rfl rfl (by simp) rfl) fun a hf => dL 4 rfl rfl hsel (by kernel_rfl) hf rfl hS0 (fun x hS => ex_loadN (cs := [d00, d01, d02, d03]) (m := 4) hf rfl (by kernel_rfl) rfl (four (hS.2.1.trans s_k00) (hS.2.2.1.trans s_k01) (hS.2.2.2.1.trans s_k02) (hS.2.2.2.2.1.trans s_k03))) fun a hf => dL 6 rfl rfl hsel (by kernel_rfl) hf rfl hS0 (fun x hS => ex_loadX4 hf rfl (by kernel_rfl) s_hB3 rfl hS.2.2.2.2.2.1 hS.2.2.2.2.2.2.1 hS.2.2.2.2.2.2.2 hS.1) fun a hf => dl_c 5 (by kernel_rfl) rfl hf rfl rfl rfl (by kernel_rfl) (ih k0 _ Bs _ ps26 _ _ _ _ (hks _ (by simp)).1 (hks _ (by simp)).2 (by omega) hO (tree_now hT0 hE hVB) (nlt hBs hE.size)) ?_
  rintro _ w33 ⟨v30, rfl, hO31, hx29, hfr32⟩
  refine ⟨_, rfl, fun a hf => ?_⟩
  have hn2 := own_ne hfr32 hn hB3.lt
  have hg2 := own_from hfr32 hg hE.size
  replace hB3 := hB3.chg hx29 (nmO hn)
  replace hE := chg_own hE hx29 hg
  clear hO hn hg hfr32
  have hO := hO31; clear hO31
  have hn := hn2; clear hn2
  have hg := hg2; clear hg2
  obtain ⟨ps34, eps34⟩ : ∃ z, z = ps26 ++ pcsT k0 := ⟨_, rfl⟩
  rw [← eps34] at hO
  have lps34 : ps34.length = ps26.length + (pcsT k0).length := by rw [eps34, List.length_append]
  clear hS0
  have hS0 : w33.cell? ⟨b2, 3, none⟩ = w21.cell? ⟨b2, 3, none⟩ ∧ w33.cell? ⟨kb, ko, none⟩ = w21.cell? ⟨kb, ko, none⟩ ∧ w33.cell? ⟨kb, ko + 1, none⟩ = w21.cell? ⟨kb, ko + 1, none⟩ ∧ w33.cell? ⟨kb, ko + 2, none⟩ = w21.cell? ⟨kb, ko + 2, none⟩ ∧ w33.cell? ⟨kb, ko + 3, none⟩ = w21.cell? ⟨kb, ko + 3, none⟩ ∧ w33.cell? ⟨b2, 0, none⟩ = w21.cell? ⟨b2, 0, none⟩ ∧ w33.cell? ⟨b2, 1, none⟩ = w21.cell? ⟨b2, 1, none⟩ ∧ w33.cell? ⟨b2, 2, none⟩ = w21.cell? ⟨b2, 2, none⟩ := ⟨(hB3.cell 3).trans (s_hB3.cell 3).symm, ((low_now hE hVB hkb lbB).trans (low_now hEs hVB hkb lbB).symm), ((low_now hE hVB hkb lbB).trans (low_now hEs hVB hkb lbB).symm), ((low_now hE hVB hkb lbB).trans (low_now hEs hVB hkb lbB).symm), ((low_now hE hVB hkb lbB).trans (low_now hEs hVB hkb lbB).symm), (hB3.cell 0).trans (s_hB3.cell 0).symm, (hB3.cell 1).trans (s_hB3.cell 1).symm, (hB3.cell 2).trans (s_hB3.cell 2).symm⟩
  refine ⟨.inl hS0, ?_⟩
  refine dl_c 7 (by kernel_rfl) rfl hf rfl rfl rfl (by kernel_rfl) (leadAtR (ls := [l0, l1, l2, l3]) (j := 3) rfl (row_now hL hE hVB)) ?_
  rintro _ w36 ⟨rfl, hx35⟩
  refine ⟨_, rfl, fun a hf => ?_⟩
  replace hB3 := hB3.c0 hx35
  replace hO := hO.t0 hx35
  replace hE := hE.t0 hx35
  clear hS0
  have hS0 : w36.cell? ⟨b2, 3, none⟩ = w21.cell? ⟨b2, 3, none⟩ ∧ w36.cell? ⟨kb, ko, none⟩ = w21.cell? ⟨kb, ko, none⟩ ∧ w36.cell? ⟨kb, ko + 1, none⟩ = w21.cell? ⟨kb, ko + 1, none⟩ ∧ w36.cell? ⟨kb, ko + 2, none⟩ = w21.cell? ⟨kb, ko + 2, none⟩ ∧ w36.cell? ⟨kb, ko + 3, none⟩ = w21.cell? ⟨kb, ko + 3, none⟩ ∧ w36.cell? ⟨b2, 0, none⟩ = w21.cell? ⟨b2, 0, none⟩ ∧ w36.cell? ⟨b2, 1, none⟩ = w21.cell? ⟨b2, 1, none⟩ ∧ w36.cell? ⟨b2, 2, none⟩ = w21.cell? ⟨b2, 2, none⟩ := ⟨(hB3.cell 3).trans (s_hB3.cell 3).symm, ((low_now hE hVB hkb lbB).trans (low_now hEs hVB hkb lbB).symm), ((low_now hE hVB hkb lbB).trans (low_now hEs hVB hkb lbB).symm), ((low_now hE hVB hkb lbB).trans (low_now hEs hVB hkb lbB).symm), ((low_now hE hVB hkb lbB).trans (low_now hEs hVB hkb lbB).symm), (hB3.cell 0).trans (s_hB3.cell 0).symm, (hB3.cell 1).trans (s_hB3.cell 1).symm, (hB3.cell 2).trans (s_hB3.cell 2).symm⟩
  refine ⟨.inl hS0, ?_⟩
  refine dV 8 rfl rfl hsel (by kernel_rfl) hf rfl (.inl hS0) (fun x => ex_bd (ps := [(0, (.tmp 307)), (1, (.const (.string ⟨#[105, 110]⟩)))]) (z := [.string ⟨([] : List UInt8).toArray⟩, .string ⟨([] : List UInt8).toArray⟩]) (os := [0, 1]) hf rfl (by kernel_rfl) (by kernel_rfl) (by kernel_rfl) rfl rfl) fun a hf => ?_
  obtain ⟨w37, b38, he, hB39, hx40, eb41, lb42⟩ := ef_bslice (P := Try.prog) (ps := [(0, (.tmp 308))]) (m := 1) (sz := 2) (z := [.string ⟨([] : List UInt8).toArray⟩, .string ⟨([] : List UInt8).toArray⟩]) hf rfl Try.underlying54 (by kernel_rfl) (by kernel_rfl) rfl rfl (by kernel_rfl) rfl w36 54
  refine dl_e 9 (by kernel_rfl) rfl hf rfl rfl he fun a hf => ?_
  have ne_b2_b38 : b2 ≠ b38 := ne_new hB3.lt eb41
  have ge_b38 := ge_new hE eb41
  replace hB3 := hB3.c0 hx40
  replace hO := hO.t0 hx40
  replace hE := hE.t0 hx40
  clear eb41 lb42
  clear hS0
  have hS0 : w37.cell? ⟨b2, 3, none⟩ = w21.cell? ⟨b2, 3, none⟩ ∧ w37.cell? ⟨kb, ko, none⟩ = w21.cell? ⟨kb, ko, none⟩ ∧ w37.cell? ⟨kb, ko + 1, none⟩ = w21.cell? ⟨kb, ko + 1, none⟩ ∧ w37.cell? ⟨kb, ko + 2, none⟩ = w21.cell? ⟨kb, ko + 2, none⟩ ∧ w37.cell? ⟨kb, ko + 3, none⟩ = w21.cell? ⟨kb, ko + 3, none⟩ ∧ w37.cell? ⟨b2, 0, none⟩ = w21.cell? ⟨b2, 0, none⟩ ∧ w37.cell? ⟨b2, 1, none⟩ = w21.cell? ⟨b2, 1, none⟩ ∧ w37.cell? ⟨b2, 2, none⟩ = w21.cell? ⟨b2, 2, none⟩ := ⟨(hB3.cell 3).trans (s_hB3.cell 3).symm, ((low_now hE hVB hkb lbB).trans (low_now hEs hVB hkb lbB).symm), ((low_now hE hVB hkb lbB).trans (low_now hEs hVB hkb lbB).symm), ((low_now hE hVB hkb lbB).trans (low_now hEs hVB hkb lbB).symm), ((low_now hE hVB hkb lbB).trans (low_now hEs hVB hkb lbB).symm), (hB3.cell 0).trans (s_hB3.cell 0).symm, (hB3.cell 1).trans (s_hB3.cell 1).symm, (hB3.cell 2).trans (s_hB3.cell 2).symm⟩
  refine ⟨.inl hS0, ?_⟩
  obtain ⟨v44, w43, he, hO45, hx46, hfr47⟩ := eP (.tmp 305) (.tmp 309) [(l3, [105, 110])] hf rfl rfl hO hB39 rfl (by (try simp only [List.length_cons, List.length_nil]); omega) (nlt hBs hE.size) 54
  refine dl_e 10 (by kernel_rfl) rfl hf rfl rfl he fun a hf => ?_
  have hn2 := own_ne hfr47 hn hB3.lt
  have hg2 := own_from hfr47 hg hE.size
  replace hB3 := hB3.chg hx46 (nmO hn)
  replace hE := chg_own hE hx46 hg
  clear hO hn hg hfr47
  have hO := hO45; clear hO45
  have hn := hn2; clear hn2
  have hg := hg2; clear hg2
  obtain ⟨ps48, eps48⟩ : ∃ z, z = ps34 ++ [(l3, [105, 110])] := ⟨_, rfl⟩
  rw [← eps48] at hO
  have lps48 : ps48.length = ps34.length + 1 := by rw [eps48]; simp
  clear hS0
  have hS0 : w43.cell? ⟨b2, 3, none⟩ = w21.cell? ⟨b2, 3, none⟩ ∧ w43.cell? ⟨kb, ko, none⟩ = w21.cell? ⟨kb, ko, none⟩ ∧ w43.cell? ⟨kb, ko + 1, none⟩ = w21.cell? ⟨kb, ko + 1, none⟩ ∧ w43.cell? ⟨kb, ko + 2, none⟩ = w21.cell? ⟨kb, ko + 2, none⟩ ∧ w43.cell? ⟨kb, ko + 3, none⟩ = w21.cell? ⟨kb, ko + 3, none⟩ ∧ w43.cell? ⟨b2, 0, none⟩ = w21.cell? ⟨b2, 0, none⟩ ∧ w43.cell? ⟨b2, 1, none⟩ = w21.cell? ⟨b2, 1, none⟩ ∧ w43.cell? ⟨b2, 2, none⟩ = w21.cell? ⟨b2, 2, none⟩ := ⟨(hB3.cell 3).trans (s_hB3.cell 3).symm, ((low_now hE hVB hkb lbB).trans (low_now hEs hVB hkb lbB).symm), ((low_now hE hVB hkb lbB).trans (low_now hEs hVB hkb lbB).symm), ((low_now hE hVB hkb lbB).trans (low_now hEs hVB hkb lbB).symm), ((low_now hE hVB hkb lbB).trans (low_now hEs hVB hkb lbB).symm), (hB3.cell 0).trans (s_hB3.cell 0).symm, (hB3.cell 1).trans (s_hB3.cell 1).symm, (hB3.cell 2).trans (s_hB3.cell 2).symm⟩
  refine ⟨.inl hS0, ?_⟩
  refine dR [11] hsel (by kernel_rfl) hf rfl rfl (.inl hS0) fun a hf => rN (by kernel_rfl) ?_
  clear hS0 hsel
  refine rR 5 hf rfl fun a hf => rV hf rfl (ex_loadB hf rfl (by kernel_rfl) hB3 rfl) fun a hf => rV hf rfl (ex_index (sz := 4) (k := 1) (r := ko + 4) hf Try.underlying24 (by kernel_rfl) rfl rfl rfl (by simp) rfl) fun a hf => rV hf rfl (ex_loadN (cs := [d10, d11, d12, d13]) (m := 4) hf rfl (by kernel_rfl) rfl (fun r hr => (low_now hE hVB hkb lbB).trans (hc1 r hr))) fun a hf => rC hf rfl rfl (by kernel_rfl) (ih k1 _ Bs _ ps48 _ _ _ _ (hks _ (by simp)).1 (hks _ (by simp)).2 (by omega) hO (tree_now hT1 hE hVB) (nlt hBs hE.size)) ?_
  rintro _ w53 ⟨v50, rfl, hO51, hx49, hfr52⟩
  refine ⟨_, rfl, fun a hf => ?_⟩
  have hn2 := own_ne hfr52 hn hB3.lt
  have hg2 := own_from hfr52 hg hE.size
  replace hB3 := hB3.chg hx49 (nmO hn)
  replace hE := chg_own hE hx49 hg
  clear hO hn hg hfr52
  have hO := hO51; clear hO51
  have hn := hn2; clear hn2
  have hg := hg2; clear hg2
  obtain ⟨ps54, eps54⟩ : ∃ z, z = ps48 ++ pcsT k1 := ⟨_, rfl⟩
  rw [← eps54] at hO
  have lps54 : ps54.length = ps48.length + (pcsT k1).length := by rw [eps54, List.length_append]
  refine rR 6 hf rfl fun a hf => ?_
  have eq : ps ++ pcsT (.node 20 x [l0, l1, l2, l3] [k0, k1]) = ps54 := by subst eps54; subst eps48; subst eps34; subst eps26; simp [pcsT, pcsTs, nodeC, singleT]
  exact rT (rs := [.tmp 4]) hf rfl ⟨_, _, rfl, rfl, rfl⟩ ⟨_, rfl, eq ▸ hO, hE, fresh_all hg (.inl (own_some hO))⟩
theorem p21 {N : Nat} (ih : PiecesOk N) {w : World} {Bs : Nat} {v0 : Value} {ps : List Pc} {x : List UInt8} {l0 : List UInt8} {k0 k1 : Tree} {cs : List Value} {A B : Option Addr} {m n : Nat} (hks : ∀ t, t ∈ [k0, k1] → tsize t ≤ N ∧ (shapedT t && leadedT t && decide (tbulk t ≤ 1000000000)) = true)
    (hl1 : ps.length + (pcsT (.node 21 x [l0] [k0, k1])).length ≤ 1000000000) (hO : Ow Bs w v0 ps) (hL : RowIn (fun b => b < Bs) w 1 A [l0].length ([l0].map strV)) (hn0 : [k0, k1].length ≤ n) (hn2 : n ≤ maxLen) (hK : KidsAre (fun b => b < Bs) w [k0, k1] cs) (hR : RowIn (fun b => b < Bs) w 4 B [k0, k1].length cs) (hBs : Bs ≤ w.heap.size) :
    Calls Try.prog 64 [v0, .agg #[.int .i64 21, strV x, .slice A [l0].length m, .slice B [k0, k1].length n]].toArray w fun e w' => ∃ v', e = .returned v' ∧ Ow Bs w' v' (ps ++ pcsT (.node 21 x [l0] [k0, k1])) ∧ Chg v0.ownBlock.toList w w' ∧ Fresh w v0 v' := by
  have hq : (pcsT (.node 21 x [l0] [k0, k1])).length = 1 + (pcsT k0).length + (pcsT k1).length := by simp [pcsT, pcsTs, nodeC, singleT] <;> omega
  have hE := Chg.refl v0.ownBlock.toList w
  have hVB : ∀ g, g ∈ v0.ownBlock.toList → Bs ≤ g := fun g h => (hO.ge (by simpa using h)).1
  have hg : ∀ g, v0.ownBlock = some g → g ∈ v0.ownBlock.toList ∨ w.heap.size ≤ g := fun g e => .inl (by simpa using e)
  obtain ⟨kb, ko, rfl, lbB, hkb, _⟩ := hR.2 (by simp)
  obtain ⟨d00, d01, d02, d03, hT0, hc0⟩ := kid_at hK hR rfl (i := 0) (t := k0) rfl
  have on0 := hT0.one
  obtain ⟨d10, d11, d12, d13, hT1, hc1⟩ := kid_at hK hR rfl (i := 1) (t := k1) rfl
  have on1 := hT1.one
  refine rE 365 Try.func64 rfl rfl rfl ?_
  intro a hf
  refine rR 2 hf rfl fun a hf => ?_
  obtain ⟨w1, b2, he, hB3, hx4, eb5, lb6⟩ := ef_box (P := Try.prog) (t := 26) (x := (.tmp 1)) hf rfl rfl w 0
  refine rV hf rfl he fun a hf => ?_
  have ge_b2 := ge_new hE eb5
  have hn : v0.ownBlock ≠ some b2 := fun e => by have := (hO.ge e).2; omega
  replace hO := hO.t0 hx4
  replace hE := hE.t0 hx4
  clear eb5 lb6
  refine rR 6 hf rfl fun a hf => rV hf rfl (ex_loadB hf rfl (by kernel_rfl) hB3 rfl) fun a hf => rV hf rfl (ex_len hf Try.underlying24 rfl) fun a hf => rR 7 hf rfl fun a hf => rV hf rfl (ex_loadB hf rfl (by kernel_rfl) hB3 rfl) fun a hf => rR 123 hf rfl fun a hf => ?_
  have s_k00 := (low_now (o := ko) hE hVB hkb lbB).trans (hc0 0 (by decide))
  have s_k01 := (low_now (o := ko + 1) hE hVB hkb lbB).trans (hc0 1 (by decide))
  have s_k02 := (low_now (o := ko + 2) hE hVB hkb lbB).trans (hc0 2 (by decide))
  have s_k03 := (low_now (o := ko + 3) hE hVB hkb lbB).trans (hc0 3 (by decide))
  have hEs := hE
  have s_hB3 := hB3
  refine rD (fun x => x.cell? ⟨b2, 3, none⟩ = w1.cell? ⟨b2, 3, none⟩ ∧ x.cell? ⟨kb, ko, none⟩ = w1.cell? ⟨kb, ko, none⟩ ∧ x.cell? ⟨kb, ko + 1, none⟩ = w1.cell? ⟨kb, ko + 1, none⟩ ∧ x.cell? ⟨kb, ko + 2, none⟩ = w1.cell? ⟨kb, ko + 2, none⟩ ∧ x.cell? ⟨kb, ko + 3, none⟩ = w1.cell? ⟨kb, ko + 3, none⟩ ∧ x.cell? ⟨b2, 0, none⟩ = w1.cell? ⟨b2, 0, none⟩ ∧ x.cell? ⟨b2, 1, none⟩ = w1.cell? ⟨b2, 1, none⟩ ∧ x.cell? ⟨b2, 2, none⟩ = w1.cell? ⟨b2, 2, none⟩) 14 14 rfl (by kernel_rfl) (by kernel_rfl) ?_
  intro w7 hx8 hsel
  replace hB3 := hB3.c0 hx8
  replace hO := hO.t0 hx8
  replace hE := hE.t0 hx8
  have hS0 : w7.cell? ⟨b2, 3, none⟩ = w1.cell? ⟨b2, 3, none⟩ ∧ w7.cell? ⟨kb, ko, none⟩ = w1.cell? ⟨kb, ko, none⟩ ∧ w7.cell? ⟨kb, ko + 1, none⟩ = w1.cell? ⟨kb, ko + 1, none⟩ ∧ w7.cell? ⟨kb, ko + 2, none⟩ = w1.cell? ⟨kb, ko + 2, none⟩ ∧ w7.cell? ⟨kb, ko + 3, none⟩ = w1.cell? ⟨kb, ko + 3, none⟩ ∧ w7.cell? ⟨b2, 0, none⟩ = w1.cell? ⟨b2, 0, none⟩ ∧ w7.cell? ⟨b2, 1, none⟩ = w1.cell? ⟨b2, 1, none⟩ ∧ w7.cell? ⟨b2, 2, none⟩ = w1.cell? ⟨b2, 2, none⟩ := ⟨(hB3.cell 3).trans (s_hB3.cell 3).symm, ((low_now hE hVB hkb lbB).trans (low_now hEs hVB hkb lbB).symm), ((low_now hE hVB hkb lbB).trans (low_now hEs hVB hkb lbB).symm), ((low_now hE hVB hkb lbB).trans (low_now hEs hVB hkb lbB).symm), ((low_now hE hVB hkb lbB).trans (low_now hEs hVB hkb lbB).symm), (hB3.cell 0).trans (s_hB3.cell 0).symm, (hB3.cell 1).trans (s_hB3.cell 1).symm, (hB3.cell 2).trans (s_hB3.cell 2).symm⟩
  refine dR [0, 1] hsel (by kernel_rfl) hf rfl rfl (.inl hS0) fun a hf => dL 2 rfl rfl hsel (by kernel_rfl) hf rfl hS0 (fun x hS => ex_load hf rfl (by kernel_rfl) (hS.1.trans ((s_hB3.cell 3).trans rfl))) fun a hf => dV 3 rfl rfl hsel (by kernel_rfl) hf rfl (.inl hS0) (fun x => ex_index (sz := 4) (k := 0) (r := ko) hf Try.underlying24 (by kernel_rfl) rfl rfl rfl (by simp) rfl) fun a hf => dL 4 rfl rfl hsel (by kernel_rfl) hf rfl hS0 (fun x hS => ex_loadN (cs := [d00, d01, d02, d03]) (m := 4) hf rfl (by kernel_rfl) rfl (four (hS.2.1.trans s_k00) (hS.2.2.1.trans s_k01) (hS.2.2.2.1.trans s_k02) (hS.2.2.2.2.1.trans s_k03))) fun a hf => dL 6 rfl rfl hsel (by kernel_rfl) hf rfl hS0 (fun x hS => ex_loadX4 hf rfl (by kernel_rfl) s_hB3 rfl hS.2.2.2.2.2.1 hS.2.2.2.2.2.2.1 hS.2.2.2.2.2.2.2 hS.1) fun a hf => dR [8] hsel (by kernel_rfl) hf rfl rfl (.inl hS0) fun a hf => dL 9 rfl rfl hsel (by kernel_rfl) hf rfl hS0 (fun x hS => ex_load hf rfl (by kernel_rfl) (hS.2.2.2.2.2.2.1.trans ((s_hB3.cell 1).trans rfl))) fun a hf => dl_c 5 (by kernel_rfl) rfl hf rfl rfl rfl (by kernel_rfl) (ih k0 _ Bs _ ps _ _ _ _ (hks _ (by simp)).1 (hks _ (by simp)).2 (by omega) hO (tree_now hT0 hE hVB) (nlt hBs hE.size)) ?_
  rintro _ w13 ⟨v10, rfl, hO11, hx9, hfr12⟩
  refine ⟨_, rfl, fun a hf => ?_⟩
  have hn2 := own_ne hfr12 hn hB3.lt
  have hg2 := own_from hfr12 hg hE.size
  replace hB3 := hB3.chg hx9 (nmO hn)
  replace hE := chg_own hE hx9 hg
  clear hO hn hg hfr12
  have hO := hO11; clear hO11
  have hn := hn2; clear hn2
  have hg := hg2; clear hg2
  obtain ⟨ps14, eps14⟩ : ∃ z, z = ps ++ pcsT k0 := ⟨_, rfl⟩
  rw [← eps14] at hO
  have lps14 : ps14.length = ps.length + (pcsT k0).length := by rw [eps14, List.length_append]
  clear hS0
  have hS0 : w13.cell? ⟨b2, 3, none⟩ = w1.cell? ⟨b2, 3, none⟩ ∧ w13.cell? ⟨kb, ko, none⟩ = w1.cell? ⟨kb, ko, none⟩ ∧ w13.cell? ⟨kb, ko + 1, none⟩ = w1.cell? ⟨kb, ko + 1, none⟩ ∧ w13.cell? ⟨kb, ko + 2, none⟩ = w1.cell? ⟨kb, ko + 2, none⟩ ∧ w13.cell? ⟨kb, ko + 3, none⟩ = w1.cell? ⟨kb, ko + 3, none⟩ ∧ w13.cell? ⟨b2, 0, none⟩ = w1.cell? ⟨b2, 0, none⟩ ∧ w13.cell? ⟨b2, 1, none⟩ = w1.cell? ⟨b2, 1, none⟩ ∧ w13.cell? ⟨b2, 2, none⟩ = w1.cell? ⟨b2, 2, none⟩ := ⟨(hB3.cell 3).trans (s_hB3.cell 3).symm, ((low_now hE hVB hkb lbB).trans (low_now hEs hVB hkb lbB).symm), ((low_now hE hVB hkb lbB).trans (low_now hEs hVB hkb lbB).symm), ((low_now hE hVB hkb lbB).trans (low_now hEs hVB hkb lbB).symm), ((low_now hE hVB hkb lbB).trans (low_now hEs hVB hkb lbB).symm), (hB3.cell 0).trans (s_hB3.cell 0).symm, (hB3.cell 1).trans (s_hB3.cell 1).symm, (hB3.cell 2).trans (s_hB3.cell 2).symm⟩
  refine ⟨.inl hS0, ?_⟩
  refine dl_c 7 (by kernel_rfl) rfl hf rfl rfl rfl (by kernel_rfl) (leadAtR (ls := [l0]) (j := 0) rfl (row_now hL hE hVB)) ?_
  rintro _ w16 ⟨rfl, hx15⟩
  refine ⟨_, rfl, fun a hf => ?_⟩
  replace hB3 := hB3.c0 hx15
  replace hO := hO.t0 hx15
  replace hE := hE.t0 hx15
  clear hS0
  have hS0 : w16.cell? ⟨b2, 3, none⟩ = w1.cell? ⟨b2, 3, none⟩ ∧ w16.cell? ⟨kb, ko, none⟩ = w1.cell? ⟨kb, ko, none⟩ ∧ w16.cell? ⟨kb, ko + 1, none⟩ = w1.cell? ⟨kb, ko + 1, none⟩ ∧ w16.cell? ⟨kb, ko + 2, none⟩ = w1.cell? ⟨kb, ko + 2, none⟩ ∧ w16.cell? ⟨kb, ko + 3, none⟩ = w1.cell? ⟨kb, ko + 3, none⟩ ∧ w16.cell? ⟨b2, 0, none⟩ = w1.cell? ⟨b2, 0, none⟩ ∧ w16.cell? ⟨b2, 1, none⟩ = w1.cell? ⟨b2, 1, none⟩ ∧ w16.cell? ⟨b2, 2, none⟩ = w1.cell? ⟨b2, 2, none⟩ := ⟨(hB3.cell 3).trans (s_hB3.cell 3).symm, ((low_now hE hVB hkb lbB).trans (low_now hEs hVB hkb lbB).symm), ((low_now hE hVB hkb lbB).trans (low_now hEs hVB hkb lbB).symm), ((low_now hE hVB hkb lbB).trans (low_now hEs hVB hkb lbB).symm), ((low_now hE hVB hkb lbB).trans (low_now hEs hVB hkb lbB).symm), (hB3.cell 0).trans (s_hB3.cell 0).symm, (hB3.cell 1).trans (s_hB3.cell 1).symm, (hB3.cell 2).trans (s_hB3.cell 2).symm⟩
  refine ⟨.inl hS0, ?_⟩
  refine dV 10 rfl rfl hsel (by kernel_rfl) hf rfl (.inl hS0) (fun x => ex_bd (ps := [(0, (.tmp 326)), (1, (.tmp 328))]) (z := [.string ⟨([] : List UInt8).toArray⟩, .string ⟨([] : List UInt8).toArray⟩]) (os := [0, 1]) hf rfl (by kernel_rfl) (by kernel_rfl) (by kernel_rfl) rfl rfl) fun a hf => ?_
  obtain ⟨w17, b18, he, hB19, hx20, eb21, lb22⟩ := ef_bslice (P := Try.prog) (ps := [(0, (.tmp 329))]) (m := 1) (sz := 2) (z := [.string ⟨([] : List UInt8).toArray⟩, .string ⟨([] : List UInt8).toArray⟩]) hf rfl Try.underlying54 (by kernel_rfl) (by kernel_rfl) rfl rfl (by kernel_rfl) rfl w16 54
  refine dl_e 11 (by kernel_rfl) rfl hf rfl rfl he fun a hf => ?_
  have ne_b2_b18 : b2 ≠ b18 := ne_new hB3.lt eb21
  have ge_b18 := ge_new hE eb21
  replace hB3 := hB3.c0 hx20
  replace hO := hO.t0 hx20
  replace hE := hE.t0 hx20
  clear eb21 lb22
  clear hS0
  have hS0 : w17.cell? ⟨b2, 3, none⟩ = w1.cell? ⟨b2, 3, none⟩ ∧ w17.cell? ⟨kb, ko, none⟩ = w1.cell? ⟨kb, ko, none⟩ ∧ w17.cell? ⟨kb, ko + 1, none⟩ = w1.cell? ⟨kb, ko + 1, none⟩ ∧ w17.cell? ⟨kb, ko + 2, none⟩ = w1.cell? ⟨kb, ko + 2, none⟩ ∧ w17.cell? ⟨kb, ko + 3, none⟩ = w1.cell? ⟨kb, ko + 3, none⟩ ∧ w17.cell? ⟨b2, 0, none⟩ = w1.cell? ⟨b2, 0, none⟩ ∧ w17.cell? ⟨b2, 1, none⟩ = w1.cell? ⟨b2, 1, none⟩ ∧ w17.cell? ⟨b2, 2, none⟩ = w1.cell? ⟨b2, 2, none⟩ := ⟨(hB3.cell 3).trans (s_hB3.cell 3).symm, ((low_now hE hVB hkb lbB).trans (low_now hEs hVB hkb lbB).symm), ((low_now hE hVB hkb lbB).trans (low_now hEs hVB hkb lbB).symm), ((low_now hE hVB hkb lbB).trans (low_now hEs hVB hkb lbB).symm), ((low_now hE hVB hkb lbB).trans (low_now hEs hVB hkb lbB).symm), (hB3.cell 0).trans (s_hB3.cell 0).symm, (hB3.cell 1).trans (s_hB3.cell 1).symm, (hB3.cell 2).trans (s_hB3.cell 2).symm⟩
  refine ⟨.inl hS0, ?_⟩
  obtain ⟨v24, w23, he, hO25, hx26, hfr27⟩ := eP (.tmp 324) (.tmp 330) [(l0, x)] hf rfl rfl hO hB19 rfl (by (try simp only [List.length_cons, List.length_nil]); omega) (nlt hBs hE.size) 54
  refine dl_e 12 (by kernel_rfl) rfl hf rfl rfl he fun a hf => ?_
  have hn2 := own_ne hfr27 hn hB3.lt
  have hg2 := own_from hfr27 hg hE.size
  replace hB3 := hB3.chg hx26 (nmO hn)
  replace hE := chg_own hE hx26 hg
  clear hO hn hg hfr27
  have hO := hO25; clear hO25
  have hn := hn2; clear hn2
  have hg := hg2; clear hg2
  obtain ⟨ps28, eps28⟩ : ∃ z, z = ps14 ++ [(l0, x)] := ⟨_, rfl⟩
  rw [← eps28] at hO
  have lps28 : ps28.length = ps14.length + 1 := by rw [eps28]; simp
  clear hS0
  have hS0 : w23.cell? ⟨b2, 3, none⟩ = w1.cell? ⟨b2, 3, none⟩ ∧ w23.cell? ⟨kb, ko, none⟩ = w1.cell? ⟨kb, ko, none⟩ ∧ w23.cell? ⟨kb, ko + 1, none⟩ = w1.cell? ⟨kb, ko + 1, none⟩ ∧ w23.cell? ⟨kb, ko + 2, none⟩ = w1.cell? ⟨kb, ko + 2, none⟩ ∧ w23.cell? ⟨kb, ko + 3, none⟩ = w1.cell? ⟨kb, ko + 3, none⟩ ∧ w23.cell? ⟨b2, 0, none⟩ = w1.cell? ⟨b2, 0, none⟩ ∧ w23.cell? ⟨b2, 1, none⟩ = w1.cell? ⟨b2, 1, none⟩ ∧ w23.cell? ⟨b2, 2, none⟩ = w1.cell? ⟨b2, 2, none⟩ := ⟨(hB3.cell 3).trans (s_hB3.cell 3).symm, ((low_now hE hVB hkb lbB).trans (low_now hEs hVB hkb lbB).symm), ((low_now hE hVB hkb lbB).trans (low_now hEs hVB hkb lbB).symm), ((low_now hE hVB hkb lbB).trans (low_now hEs hVB hkb lbB).symm), ((low_now hE hVB hkb lbB).trans (low_now hEs hVB hkb lbB).symm), (hB3.cell 0).trans (s_hB3.cell 0).symm, (hB3.cell 1).trans (s_hB3.cell 1).symm, (hB3.cell 2).trans (s_hB3.cell 2).symm⟩
  refine ⟨.inl hS0, ?_⟩
  refine dR [13] hsel (by kernel_rfl) hf rfl rfl (.inl hS0) fun a hf => rN (by kernel_rfl) ?_
  clear hS0 hsel
  refine rR 5 hf rfl fun a hf => rV hf rfl (ex_loadB hf rfl (by kernel_rfl) hB3 rfl) fun a hf => rV hf rfl (ex_index (sz := 4) (k := 1) (r := ko + 4) hf Try.underlying24 (by kernel_rfl) rfl rfl rfl (by simp) rfl) fun a hf => rV hf rfl (ex_loadN (cs := [d10, d11, d12, d13]) (m := 4) hf rfl (by kernel_rfl) rfl (fun r hr => (low_now hE hVB hkb lbB).trans (hc1 r hr))) fun a hf => rC hf rfl rfl (by kernel_rfl) (ih k1 _ Bs _ ps28 _ _ _ _ (hks _ (by simp)).1 (hks _ (by simp)).2 (by omega) hO (tree_now hT1 hE hVB) (nlt hBs hE.size)) ?_
  rintro _ w33 ⟨v30, rfl, hO31, hx29, hfr32⟩
  refine ⟨_, rfl, fun a hf => ?_⟩
  have hn2 := own_ne hfr32 hn hB3.lt
  have hg2 := own_from hfr32 hg hE.size
  replace hB3 := hB3.chg hx29 (nmO hn)
  replace hE := chg_own hE hx29 hg
  clear hO hn hg hfr32
  have hO := hO31; clear hO31
  have hn := hn2; clear hn2
  have hg := hg2; clear hg2
  obtain ⟨ps34, eps34⟩ : ∃ z, z = ps28 ++ pcsT k1 := ⟨_, rfl⟩
  rw [← eps34] at hO
  have lps34 : ps34.length = ps28.length + (pcsT k1).length := by rw [eps34, List.length_append]
  refine rR 6 hf rfl fun a hf => ?_
  have eq : ps ++ pcsT (.node 21 x [l0] [k0, k1]) = ps34 := by subst eps34; subst eps28; subst eps14; simp [pcsT, pcsTs, nodeC, singleT]
  exact rT (rs := [.tmp 4]) hf rfl ⟨_, _, rfl, rfl, rfl⟩ ⟨_, rfl, eq ▸ hO, hE, fresh_all hg (.inl (own_some hO))⟩
theorem p22 {N : Nat} (ih : PiecesOk N) {w : World} {Bs : Nat} {v0 : Value} {ps : List Pc} {x : List UInt8} {l0 l1 : List UInt8} {k0 : Tree} {cs : List Value} {A B : Option Addr} {m n : Nat} (hks : ∀ t, t ∈ [k0] → tsize t ≤ N ∧ (shapedT t && leadedT t && decide (tbulk t ≤ 1000000000)) = true)
    (hl1 : ps.length + (pcsT (.node 22 x [l0, l1] [k0])).length ≤ 1000000000) (hO : Ow Bs w v0 ps) (hL : RowIn (fun b => b < Bs) w 1 A [l0, l1].length ([l0, l1].map strV)) (hn0 : [k0].length ≤ n) (hn2 : n ≤ maxLen) (hK : KidsAre (fun b => b < Bs) w [k0] cs) (hR : RowIn (fun b => b < Bs) w 4 B [k0].length cs) (hBs : Bs ≤ w.heap.size) :
    Calls Try.prog 64 [v0, .agg #[.int .i64 22, strV x, .slice A [l0, l1].length m, .slice B [k0].length n]].toArray w fun e w' => ∃ v', e = .returned v' ∧ Ow Bs w' v' (ps ++ pcsT (.node 22 x [l0, l1] [k0])) ∧ Chg v0.ownBlock.toList w w' ∧ Fresh w v0 v' := by
  have hq : (pcsT (.node 22 x [l0, l1] [k0])).length = 2 + (pcsT k0).length := by simp [pcsT, pcsTs, nodeC, singleT] <;> omega
  have hE := Chg.refl v0.ownBlock.toList w
  have hVB : ∀ g, g ∈ v0.ownBlock.toList → Bs ≤ g := fun g h => (hO.ge (by simpa using h)).1
  have hg : ∀ g, v0.ownBlock = some g → g ∈ v0.ownBlock.toList ∨ w.heap.size ≤ g := fun g e => .inl (by simpa using e)
  obtain ⟨kb, ko, rfl, lbB, hkb, _⟩ := hR.2 (by simp)
  obtain ⟨d00, d01, d02, d03, hT0, hc0⟩ := kid_at hK hR rfl (i := 0) (t := k0) rfl
  have on0 := hT0.one
  refine rE 365 Try.func64 rfl rfl rfl ?_
  intro a hf
  refine rR 2 hf rfl fun a hf => ?_
  obtain ⟨w1, b2, he, hB3, hx4, eb5, lb6⟩ := ef_box (P := Try.prog) (t := 26) (x := (.tmp 1)) hf rfl rfl w 0
  refine rV hf rfl he fun a hf => ?_
  have ge_b2 := ge_new hE eb5
  have hn : v0.ownBlock ≠ some b2 := fun e => by have := (hO.ge e).2; omega
  replace hO := hO.t0 hx4
  replace hE := hE.t0 hx4
  clear eb5 lb6
  refine rR 6 hf rfl fun a hf => rV hf rfl (ex_loadB hf rfl (by kernel_rfl) hB3 rfl) fun a hf => rV hf rfl (ex_len hf Try.underlying24 rfl) fun a hf => rR 7 hf rfl fun a hf => rV hf rfl (ex_loadB hf rfl (by kernel_rfl) hB3 rfl) fun a hf => rR 132 hf rfl fun a hf => rV hf rfl (ex_loadBN (m := 4) hf rfl (by kernel_rfl) hB3 rfl) fun a hf => rC hf rfl rfl (by kernel_rfl) (leadAtR (ls := [l0, l1]) (j := 0) rfl (row_now hL hE hVB)) ?_
  rintro _ w8 ⟨rfl, hx7⟩
  refine ⟨_, rfl, fun a hf => ?_⟩
  replace hB3 := hB3.c0 hx7
  replace hO := hO.t0 hx7
  replace hE := hE.t0 hx7
  refine rV hf rfl (ex_bd (ps := [(0, (.tmp 342)), (1, (.const (.string ⟨#[40]⟩)))]) (z := [.string ⟨([] : List UInt8).toArray⟩, .string ⟨([] : List UInt8).toArray⟩]) (os := [0, 1]) hf rfl (by kernel_rfl) (by kernel_rfl) (by kernel_rfl) rfl rfl) fun a hf => ?_
  obtain ⟨w9, b10, he, hB11, hx12, eb13, lb14⟩ := ef_bslice (P := Try.prog) (ps := [(0, (.tmp 343))]) (m := 1) (sz := 2) (z := [.string ⟨([] : List UInt8).toArray⟩, .string ⟨([] : List UInt8).toArray⟩]) hf rfl Try.underlying54 (by kernel_rfl) (by kernel_rfl) rfl rfl (by kernel_rfl) rfl w8 54
  refine rV hf rfl he fun a hf => ?_
  have ne_b2_b10 : b2 ≠ b10 := ne_new hB3.lt eb13
  have ge_b10 := ge_new hE eb13
  replace hB3 := hB3.c0 hx12
  replace hO := hO.t0 hx12
  replace hE := hE.t0 hx12
  clear eb13 lb14
  obtain ⟨v16, w15, he, hO17, hx18, hfr19⟩ := eP (.tmp 340) (.tmp 344) [(l0, [40])] hf rfl rfl hO hB11 rfl (by (try simp only [List.length_cons, List.length_nil]); omega) (nlt hBs hE.size) 54
  refine rV hf rfl he fun a hf => ?_
  have hn2 := own_ne hfr19 hn hB3.lt
  have hg2 := own_from hfr19 hg hE.size
  replace hB3 := hB3.chg hx18 (nmO hn)
  replace hE := chg_own hE hx18 hg
  clear hO hn hg hfr19
  have hO := hO17; clear hO17
  have hn := hn2; clear hn2
  have hg := hg2; clear hg2
  obtain ⟨ps20, eps20⟩ : ∃ z, z = ps ++ [(l0, [40])] := ⟨_, rfl⟩
  rw [← eps20] at hO
  have lps20 : ps20.length = ps.length + 1 := by rw [eps20]; simp
  refine rR 4 hf rfl fun a hf => ?_
  have s_k00 := (low_now (o := ko) hE hVB hkb lbB).trans (hc0 0 (by decide))
  have s_k01 := (low_now (o := ko + 1) hE hVB hkb lbB).trans (hc0 1 (by decide))
  have s_k02 := (low_now (o := ko + 2) hE hVB hkb lbB).trans (hc0 2 (by decide))
  have s_k03 := (low_now (o := ko + 3) hE hVB hkb lbB).trans (hc0 3 (by decide))
  have hEs := hE
  have s_hB3 := hB3
  refine rD (fun x => x.cell? ⟨b2, 3, none⟩ = w15.cell? ⟨b2, 3, none⟩ ∧ x.cell? ⟨kb, ko, none⟩ = w15.cell? ⟨kb, ko, none⟩ ∧ x.cell? ⟨kb, ko + 1, none⟩ = w15.cell? ⟨kb, ko + 1, none⟩ ∧ x.cell? ⟨kb, ko + 2, none⟩ = w15.cell? ⟨kb, ko + 2, none⟩ ∧ x.cell? ⟨kb, ko + 3, none⟩ = w15.cell? ⟨kb, ko + 3, none⟩ ∧ x.cell? ⟨b2, 0, none⟩ = w15.cell? ⟨b2, 0, none⟩ ∧ x.cell? ⟨b2, 1, none⟩ = w15.cell? ⟨b2, 1, none⟩ ∧ x.cell? ⟨b2, 2, none⟩ = w15.cell? ⟨b2, 2, none⟩) 12 12 rfl (by kernel_rfl) (by kernel_rfl) ?_
  intro w21 hx22 hsel
  replace hB3 := hB3.c0 hx22
  replace hO := hO.t0 hx22
  replace hE := hE.t0 hx22
  have hS0 : w21.cell? ⟨b2, 3, none⟩ = w15.cell? ⟨b2, 3, none⟩ ∧ w21.cell? ⟨kb, ko, none⟩ = w15.cell? ⟨kb, ko, none⟩ ∧ w21.cell? ⟨kb, ko + 1, none⟩ = w15.cell? ⟨kb, ko + 1, none⟩ ∧ w21.cell? ⟨kb, ko + 2, none⟩ = w15.cell? ⟨kb, ko + 2, none⟩ ∧ w21.cell? ⟨kb, ko + 3, none⟩ = w15.cell? ⟨kb, ko + 3, none⟩ ∧ w21.cell? ⟨b2, 0, none⟩ = w15.cell? ⟨b2, 0, none⟩ ∧ w21.cell? ⟨b2, 1, none⟩ = w15.cell? ⟨b2, 1, none⟩ ∧ w21.cell? ⟨b2, 2, none⟩ = w15.cell? ⟨b2, 2, none⟩ := ⟨(hB3.cell 3).trans (s_hB3.cell 3).symm, ((low_now hE hVB hkb lbB).trans (low_now hEs hVB hkb lbB).symm), ((low_now hE hVB hkb lbB).trans (low_now hEs hVB hkb lbB).symm), ((low_now hE hVB hkb lbB).trans (low_now hEs hVB hkb lbB).symm), ((low_now hE hVB hkb lbB).trans (low_now hEs hVB hkb lbB).symm), (hB3.cell 0).trans (s_hB3.cell 0).symm, (hB3.cell 1).trans (s_hB3.cell 1).symm, (hB3.cell 2).trans (s_hB3.cell 2).symm⟩
  refine dR [0, 1] hsel (by kernel_rfl) hf rfl rfl (.inl hS0) fun a hf => dL 2 rfl rfl hsel (by kernel_rfl) hf rfl hS0 (fun x hS => ex_load hf rfl (by kernel_rfl) (hS.1.trans ((s_hB3.cell 3).trans rfl))) fun a hf => dV 3 rfl rfl hsel (by kernel_rfl) hf rfl (.inl hS0) (fun x => ex_index (sz := 4) (k := 0) (r := ko) hf Try.underlying24 (by kernel_rfl) rfl rfl rfl (by simp) rfl) fun a hf => dL 4 rfl rfl hsel (by kernel_rfl) hf rfl hS0 (fun x hS => ex_loadN (cs := [d00, d01, d02, d03]) (m := 4) hf rfl (by kernel_rfl) rfl (four (hS.2.1.trans s_k00) (hS.2.2.1.trans s_k01) (hS.2.2.2.1.trans s_k02) (hS.2.2.2.2.1.trans s_k03))) fun a hf => dL 6 rfl rfl hsel (by kernel_rfl) hf rfl hS0 (fun x hS => ex_loadX4 hf rfl (by kernel_rfl) s_hB3 rfl hS.2.2.2.2.2.1 hS.2.2.2.2.2.2.1 hS.2.2.2.2.2.2.2 hS.1) fun a hf => dl_c 5 (by kernel_rfl) rfl hf rfl rfl rfl (by kernel_rfl) (ih k0 _ Bs _ ps20 _ _ _ _ (hks _ (by simp)).1 (hks _ (by simp)).2 (by omega) hO (tree_now hT0 hE hVB) (nlt hBs hE.size)) ?_
  rintro _ w27 ⟨v24, rfl, hO25, hx23, hfr26⟩
  refine ⟨_, rfl, fun a hf => ?_⟩
  have hn2 := own_ne hfr26 hn hB3.lt
  have hg2 := own_from hfr26 hg hE.size
  replace hB3 := hB3.chg hx23 (nmO hn)
  replace hE := chg_own hE hx23 hg
  clear hO hn hg hfr26
  have hO := hO25; clear hO25
  have hn := hn2; clear hn2
  have hg := hg2; clear hg2
  obtain ⟨ps28, eps28⟩ : ∃ z, z = ps20 ++ pcsT k0 := ⟨_, rfl⟩
  rw [← eps28] at hO
  have lps28 : ps28.length = ps20.length + (pcsT k0).length := by rw [eps28, List.length_append]
  clear hS0
  have hS0 : w27.cell? ⟨b2, 3, none⟩ = w15.cell? ⟨b2, 3, none⟩ ∧ w27.cell? ⟨kb, ko, none⟩ = w15.cell? ⟨kb, ko, none⟩ ∧ w27.cell? ⟨kb, ko + 1, none⟩ = w15.cell? ⟨kb, ko + 1, none⟩ ∧ w27.cell? ⟨kb, ko + 2, none⟩ = w15.cell? ⟨kb, ko + 2, none⟩ ∧ w27.cell? ⟨kb, ko + 3, none⟩ = w15.cell? ⟨kb, ko + 3, none⟩ ∧ w27.cell? ⟨b2, 0, none⟩ = w15.cell? ⟨b2, 0, none⟩ ∧ w27.cell? ⟨b2, 1, none⟩ = w15.cell? ⟨b2, 1, none⟩ ∧ w27.cell? ⟨b2, 2, none⟩ = w15.cell? ⟨b2, 2, none⟩ := ⟨(hB3.cell 3).trans (s_hB3.cell 3).symm, ((low_now hE hVB hkb lbB).trans (low_now hEs hVB hkb lbB).symm), ((low_now hE hVB hkb lbB).trans (low_now hEs hVB hkb lbB).symm), ((low_now hE hVB hkb lbB).trans (low_now hEs hVB hkb lbB).symm), ((low_now hE hVB hkb lbB).trans (low_now hEs hVB hkb lbB).symm), (hB3.cell 0).trans (s_hB3.cell 0).symm, (hB3.cell 1).trans (s_hB3.cell 1).symm, (hB3.cell 2).trans (s_hB3.cell 2).symm⟩
  refine ⟨.inl hS0, ?_⟩
  refine dl_c 7 (by kernel_rfl) rfl hf rfl rfl rfl (by kernel_rfl) (leadAtR (ls := [l0, l1]) (j := 1) rfl (row_now hL hE hVB)) ?_
  rintro _ w30 ⟨rfl, hx29⟩
  refine ⟨_, rfl, fun a hf => ?_⟩
  replace hB3 := hB3.c0 hx29
  replace hO := hO.t0 hx29
  replace hE := hE.t0 hx29
  clear hS0
  have hS0 : w30.cell? ⟨b2, 3, none⟩ = w15.cell? ⟨b2, 3, none⟩ ∧ w30.cell? ⟨kb, ko, none⟩ = w15.cell? ⟨kb, ko, none⟩ ∧ w30.cell? ⟨kb, ko + 1, none⟩ = w15.cell? ⟨kb, ko + 1, none⟩ ∧ w30.cell? ⟨kb, ko + 2, none⟩ = w15.cell? ⟨kb, ko + 2, none⟩ ∧ w30.cell? ⟨kb, ko + 3, none⟩ = w15.cell? ⟨kb, ko + 3, none⟩ ∧ w30.cell? ⟨b2, 0, none⟩ = w15.cell? ⟨b2, 0, none⟩ ∧ w30.cell? ⟨b2, 1, none⟩ = w15.cell? ⟨b2, 1, none⟩ ∧ w30.cell? ⟨b2, 2, none⟩ = w15.cell? ⟨b2, 2, none⟩ := ⟨(hB3.cell 3).trans (s_hB3.cell 3).symm, ((low_now hE hVB hkb lbB).trans (low_now hEs hVB hkb lbB).symm), ((low_now hE hVB hkb lbB).trans (low_now hEs hVB hkb lbB).symm), ((low_now hE hVB hkb lbB).trans (low_now hEs hVB hkb lbB).symm), ((low_now hE hVB hkb lbB).trans (low_now hEs hVB hkb lbB).symm), (hB3.cell 0).trans (s_hB3.cell 0).symm, (hB3.cell 1).trans (s_hB3.cell 1).symm, (hB3.cell 2).trans (s_hB3.cell 2).symm⟩
  refine ⟨.inl hS0, ?_⟩
  refine dV 8 rfl rfl hsel (by kernel_rfl) hf rfl (.inl hS0) (fun x => ex_bd (ps := [(0, (.tmp 353)), (1, (.const (.string ⟨#[41]⟩)))]) (z := [.string ⟨([] : List UInt8).toArray⟩, .string ⟨([] : List UInt8).toArray⟩]) (os := [0, 1]) hf rfl (by kernel_rfl) (by kernel_rfl) (by kernel_rfl) rfl rfl) fun a hf => ?_
  obtain ⟨w31, b32, he, hB33, hx34, eb35, lb36⟩ := ef_bslice (P := Try.prog) (ps := [(0, (.tmp 354))]) (m := 1) (sz := 2) (z := [.string ⟨([] : List UInt8).toArray⟩, .string ⟨([] : List UInt8).toArray⟩]) hf rfl Try.underlying54 (by kernel_rfl) (by kernel_rfl) rfl rfl (by kernel_rfl) rfl w30 54
  refine dl_e 9 (by kernel_rfl) rfl hf rfl rfl he fun a hf => ?_
  have ne_b2_b32 : b2 ≠ b32 := ne_new hB3.lt eb35
  have ge_b32 := ge_new hE eb35
  replace hB3 := hB3.c0 hx34
  replace hO := hO.t0 hx34
  replace hE := hE.t0 hx34
  clear eb35 lb36
  clear hS0
  have hS0 : w31.cell? ⟨b2, 3, none⟩ = w15.cell? ⟨b2, 3, none⟩ ∧ w31.cell? ⟨kb, ko, none⟩ = w15.cell? ⟨kb, ko, none⟩ ∧ w31.cell? ⟨kb, ko + 1, none⟩ = w15.cell? ⟨kb, ko + 1, none⟩ ∧ w31.cell? ⟨kb, ko + 2, none⟩ = w15.cell? ⟨kb, ko + 2, none⟩ ∧ w31.cell? ⟨kb, ko + 3, none⟩ = w15.cell? ⟨kb, ko + 3, none⟩ ∧ w31.cell? ⟨b2, 0, none⟩ = w15.cell? ⟨b2, 0, none⟩ ∧ w31.cell? ⟨b2, 1, none⟩ = w15.cell? ⟨b2, 1, none⟩ ∧ w31.cell? ⟨b2, 2, none⟩ = w15.cell? ⟨b2, 2, none⟩ := ⟨(hB3.cell 3).trans (s_hB3.cell 3).symm, ((low_now hE hVB hkb lbB).trans (low_now hEs hVB hkb lbB).symm), ((low_now hE hVB hkb lbB).trans (low_now hEs hVB hkb lbB).symm), ((low_now hE hVB hkb lbB).trans (low_now hEs hVB hkb lbB).symm), ((low_now hE hVB hkb lbB).trans (low_now hEs hVB hkb lbB).symm), (hB3.cell 0).trans (s_hB3.cell 0).symm, (hB3.cell 1).trans (s_hB3.cell 1).symm, (hB3.cell 2).trans (s_hB3.cell 2).symm⟩
  refine ⟨.inl hS0, ?_⟩
  obtain ⟨v38, w37, he, hO39, hx40, hfr41⟩ := eP (.tmp 351) (.tmp 355) [(l1, [41])] hf rfl rfl hO hB33 rfl (by (try simp only [List.length_cons, List.length_nil]); omega) (nlt hBs hE.size) 54
  refine dl_e 10 (by kernel_rfl) rfl hf rfl rfl he fun a hf => ?_
  have hn2 := own_ne hfr41 hn hB3.lt
  have hg2 := own_from hfr41 hg hE.size
  replace hB3 := hB3.chg hx40 (nmO hn)
  replace hE := chg_own hE hx40 hg
  clear hO hn hg hfr41
  have hO := hO39; clear hO39
  have hn := hn2; clear hn2
  have hg := hg2; clear hg2
  obtain ⟨ps42, eps42⟩ : ∃ z, z = ps28 ++ [(l1, [41])] := ⟨_, rfl⟩
  rw [← eps42] at hO
  have lps42 : ps42.length = ps28.length + 1 := by rw [eps42]; simp
  clear hS0
  have hS0 : w37.cell? ⟨b2, 3, none⟩ = w15.cell? ⟨b2, 3, none⟩ ∧ w37.cell? ⟨kb, ko, none⟩ = w15.cell? ⟨kb, ko, none⟩ ∧ w37.cell? ⟨kb, ko + 1, none⟩ = w15.cell? ⟨kb, ko + 1, none⟩ ∧ w37.cell? ⟨kb, ko + 2, none⟩ = w15.cell? ⟨kb, ko + 2, none⟩ ∧ w37.cell? ⟨kb, ko + 3, none⟩ = w15.cell? ⟨kb, ko + 3, none⟩ ∧ w37.cell? ⟨b2, 0, none⟩ = w15.cell? ⟨b2, 0, none⟩ ∧ w37.cell? ⟨b2, 1, none⟩ = w15.cell? ⟨b2, 1, none⟩ ∧ w37.cell? ⟨b2, 2, none⟩ = w15.cell? ⟨b2, 2, none⟩ := ⟨(hB3.cell 3).trans (s_hB3.cell 3).symm, ((low_now hE hVB hkb lbB).trans (low_now hEs hVB hkb lbB).symm), ((low_now hE hVB hkb lbB).trans (low_now hEs hVB hkb lbB).symm), ((low_now hE hVB hkb lbB).trans (low_now hEs hVB hkb lbB).symm), ((low_now hE hVB hkb lbB).trans (low_now hEs hVB hkb lbB).symm), (hB3.cell 0).trans (s_hB3.cell 0).symm, (hB3.cell 1).trans (s_hB3.cell 1).symm, (hB3.cell 2).trans (s_hB3.cell 2).symm⟩
  refine ⟨.inl hS0, ?_⟩
  refine dR [11] hsel (by kernel_rfl) hf rfl rfl (.inl hS0) fun a hf => rN (by kernel_rfl) ?_
  clear hS0 hsel
  refine rR 4 hf rfl fun a hf => ?_
  have eq : ps ++ pcsT (.node 22 x [l0, l1] [k0]) = ps42 := by subst eps42; subst eps28; subst eps20; simp [pcsT, pcsTs, nodeC, singleT]
  exact rT (rs := [.tmp 4]) hf rfl ⟨_, _, rfl, rfl, rfl⟩ ⟨_, rfl, eq ▸ hO, hE, fresh_all hg (.inl (own_some hO))⟩
theorem p17 {N : Nat} (ih : PiecesOk N) {w : World} {Bs : Nat} {v0 : Value} {ps : List Pc} {x : List UInt8} {k0 : Tree} {cs : List Value} {A B : Option Addr} {m n : Nat} (hks : ∀ t, t ∈ [k0] → tsize t ≤ N ∧ (shapedT t && leadedT t && decide (tbulk t ≤ 1000000000)) = true)
    (hl1 : ps.length + (pcsT (.node 17 x ([] : List (List UInt8)) [k0])).length ≤ 1000000000) (hO : Ow Bs w v0 ps) (hL : RowIn (fun b => b < Bs) w 1 A ([] : List (List UInt8)).length (([] : List (List UInt8)).map strV)) (hn0 : [k0].length ≤ n) (hn2 : n ≤ maxLen) (hK : KidsAre (fun b => b < Bs) w [k0] cs) (hR : RowIn (fun b => b < Bs) w 4 B [k0].length cs) (hBs : Bs ≤ w.heap.size) :
    Calls Try.prog 64 [v0, .agg #[.int .i64 17, strV x, .slice A ([] : List (List UInt8)).length m, .slice B [k0].length n]].toArray w fun e w' => ∃ v', e = .returned v' ∧ Ow Bs w' v' (ps ++ pcsT (.node 17 x ([] : List (List UInt8)) [k0])) ∧ Chg v0.ownBlock.toList w w' ∧ Fresh w v0 v' := by
  have hq : (pcsT (.node 17 x ([] : List (List UInt8)) [k0])).length = 0 + (pcsT k0).length := by simp [pcsT, pcsTs, nodeC, singleT] <;> omega
  have hE := Chg.refl v0.ownBlock.toList w
  have hVB : ∀ g, g ∈ v0.ownBlock.toList → Bs ≤ g := fun g h => (hO.ge (by simpa using h)).1
  have hg : ∀ g, v0.ownBlock = some g → g ∈ v0.ownBlock.toList ∨ w.heap.size ≤ g := fun g e => .inl (by simpa using e)
  obtain ⟨kb, ko, rfl, lbB, hkb, _⟩ := hR.2 (by simp)
  obtain ⟨d00, d01, d02, d03, hT0, hc0⟩ := kid_at hK hR rfl (i := 0) (t := k0) rfl
  have on0 := hT0.one
  refine rE 365 Try.func64 rfl rfl rfl ?_
  intro a hf
  refine rR 2 hf rfl fun a hf => ?_
  obtain ⟨w1, b2, he, hB3, hx4, eb5, lb6⟩ := ef_box (P := Try.prog) (t := 26) (x := (.tmp 1)) hf rfl rfl w 0
  refine rV hf rfl he fun a hf => ?_
  have ge_b2 := ge_new hE eb5
  have hn : v0.ownBlock ≠ some b2 := fun e => by have := (hO.ge e).2; omega
  replace hO := hO.t0 hx4
  replace hE := hE.t0 hx4
  clear eb5 lb6
  refine rR 6 hf rfl fun a hf => rV hf rfl (ex_loadB hf rfl (by kernel_rfl) hB3 rfl) fun a hf => rV hf rfl (ex_len hf Try.underlying24 rfl) fun a hf => rR 7 hf rfl fun a hf => rV hf rfl (ex_loadB hf rfl (by kernel_rfl) hB3 rfl) fun a hf => rR 98 hf rfl fun a hf => rV hf rfl (ex_loadB hf rfl (by kernel_rfl) hB3 rfl) fun a hf => rV hf rfl (ex_index (sz := 4) (k := 0) (r := ko) hf Try.underlying24 (by kernel_rfl) rfl rfl rfl (by simp) rfl) fun a hf => rV hf rfl (ex_loadN (cs := [d00, d01, d02, d03]) (m := 4) hf rfl (by kernel_rfl) rfl (fun r hr => (low_now hE hVB hkb lbB).trans (hc0 r hr))) fun a hf => rC hf rfl rfl (by kernel_rfl) (ih k0 _ Bs _ ps _ _ _ _ (hks _ (by simp)).1 (hks _ (by simp)).2 (by omega) hO (tree_now hT0 hE hVB) (nlt hBs hE.size)) ?_
  rintro _ w11 ⟨v8, rfl, hO9, hx7, hfr10⟩
  refine ⟨_, rfl, fun a hf => ?_⟩
  have hn2 := own_ne hfr10 hn hB3.lt
  have hg2 := own_from hfr10 hg hE.size
  replace hB3 := hB3.chg hx7 (nmO hn)
  replace hE := chg_own hE hx7 hg
  clear hO hn hg
  have hO := hO9; clear hO9
  have hn := hn2; clear hn2
  have hg := hg2; clear hg2
  obtain ⟨ps12, eps12⟩ : ∃ z, z = ps ++ pcsT k0 := ⟨_, rfl⟩
  rw [← eps12] at hO
  have lps12 : ps12.length = ps.length + (pcsT k0).length := by rw [eps12, List.length_append]
  refine rR 6 hf rfl fun a hf => ?_
  have eq : ps ++ pcsT (.node 17 x ([] : List (List UInt8)) [k0]) = ps12 := by subst eps12; simp [pcsT, pcsTs, nodeC, singleT]
  exact rT (rs := [.tmp 4]) hf rfl ⟨_, _, rfl, rfl, rfl⟩ ⟨_, rfl, eq ▸ hO, hE, fresh_all hg (fresh_s hfr10)⟩
theorem pLeaf {N : Nat} {w : World} {Bs : Nat} {v0 : Value} {ps : List Pc} {k : Int} {x : List UInt8} {l0 : List UInt8} {cs : List Value} {A B : Option Addr} {m n : Nat} (hk : k = 9 ∨ k = 10 ∨ k = 11 ∨ k = 12) (hks : ∀ t, t ∈ ([] : List Tree) → tsize t ≤ N ∧ (shapedT t && leadedT t && decide (tbulk t ≤ 1000000000)) = true)
    (hl1 : ps.length + (pcsT (.node k x [l0] ([] : List Tree))).length ≤ 1000000000) (hO : Ow Bs w v0 ps) (hL : RowIn (fun b => b < Bs) w 1 A [l0].length ([l0].map strV)) (hn0 : ([] : List Tree).length ≤ n) (hn2 : n ≤ maxLen) (hK : KidsAre (fun b => b < Bs) w ([] : List Tree) cs) (hR : RowIn (fun b => b < Bs) w 4 B ([] : List Tree).length cs) (hBs : Bs ≤ w.heap.size) :
    Calls Try.prog 64 [v0, .agg #[.int .i64 k, strV x, .slice A [l0].length m, .slice B ([] : List Tree).length n]].toArray w fun e w' => ∃ v', e = .returned v' ∧ Ow Bs w' v' (ps ++ pcsT (.node k x [l0] ([] : List Tree))) ∧ Chg v0.ownBlock.toList w w' ∧ Fresh w v0 v' := by
  have hq : (pcsT (.node k x [l0] ([] : List Tree))).length = 1 := by rw [pcsT, pcsTs, nodeC_leaf hk]; rfl
  have hE := Chg.refl v0.ownBlock.toList w
  have hVB : ∀ g, g ∈ v0.ownBlock.toList → Bs ≤ g := fun g h => (hO.ge (by simpa using h)).1
  have hg : ∀ g, v0.ownBlock = some g → g ∈ v0.ownBlock.toList ∨ w.heap.size ≤ g := fun g e => .inl (by simpa using e)
  refine rE 365 Try.func64 rfl rfl rfl ?_
  intro a hf
  refine rR 2 hf rfl fun a hf => ?_
  obtain ⟨w1, b2, he, hB3, hx4, eb5, lb6⟩ := ef_box (P := Try.prog) (t := 26) (x := (.tmp 1)) hf rfl rfl w 0
  refine rV hf rfl he fun a hf => ?_
  have ge_b2 := ge_new hE eb5
  have hn : v0.ownBlock ≠ some b2 := fun e => by have := (hO.ge e).2; omega
  replace hO := hO.t0 hx4
  replace hE := hE.t0 hx4
  clear eb5 lb6
  refine rR 6 hf rfl fun a hf => rV hf rfl (ex_loadB hf rfl (by kernel_rfl) hB3 rfl) fun a hf => rV hf rfl (ex_len hf Try.underlying24 rfl) fun a hf => rR 7 hf rfl fun a hf => rV hf rfl (ex_loadB hf rfl (by kernel_rfl) hB3 rfl) fun a hf => rR 5 hf rfl fun a hf => rV hf rfl (ex_eqI (c := false) hf rfl rfl (by simp; omega)) fun a hf => rR 6 hf rfl fun a hf => rV hf rfl (ex_eqI (c := false) hf rfl rfl (by simp; omega)) fun a hf => rR 6 hf rfl fun a hf => rV hf rfl (ex_eqI (c := false) hf rfl rfl (by simp; omega)) fun a hf => rR 6 hf rfl fun a hf => rV hf rfl (ex_eqI (c := false) hf rfl rfl (by simp; omega)) fun a hf => rR 6 hf rfl fun a hf => rV hf rfl (ex_eqI (c := false) hf rfl rfl (by simp; omega)) fun a hf => rR 6 hf rfl fun a hf => rV hf rfl (ex_eqI (c := false) hf rfl rfl (by simp; omega)) fun a hf => rR 6 hf rfl fun a hf => rV hf rfl (ex_eqI (c := false) hf rfl rfl (by simp; omega)) fun a hf => rR 6 hf rfl fun a hf => rV hf rfl (ex_eqI (c := false) hf rfl rfl (by simp; omega)) fun a hf => rR 6 hf rfl fun a hf => rV hf rfl (ex_eqI (c := false) hf rfl rfl (by simp; omega)) fun a hf => rR 6 hf rfl fun a hf => rV hf rfl (ex_eqI (c := false) hf rfl rfl (by simp; omega)) fun a hf => rR 6 hf rfl fun a hf => rV hf rfl (ex_eqI (c := false) hf rfl rfl (by simp; omega)) fun a hf => rR 6 hf rfl fun a hf => rV hf rfl (ex_eqI (c := false) hf rfl rfl (by simp; omega)) fun a hf => rR 6 hf rfl fun a hf => rV hf rfl (ex_eqI (c := false) hf rfl rfl (by simp; omega)) fun a hf => rR 6 hf rfl fun a hf => rV hf rfl (ex_eqI (c := false) hf rfl rfl (by simp; omega)) fun a hf => rR 6 hf rfl fun a hf => rV hf rfl (ex_eqI (c := false) hf rfl rfl (by simp; omega)) fun a hf => rR 6 hf rfl fun a hf => rV hf rfl (ex_eqI (c := false) hf rfl rfl (by simp; omega)) fun a hf => rR 6 hf rfl fun a hf => rV hf rfl (ex_eqI (c := false) hf rfl rfl (by simp; omega)) fun a hf => rR 6 hf rfl fun a hf => rV hf rfl (ex_eqI (c := false) hf rfl rfl (by simp; omega)) fun a hf => rR 8 hf rfl fun a hf => ?_
  have hEs := hE
  have s_hB3 := hB3
  refine rD (fun x => x.cell? ⟨b2, 0, none⟩ = w1.cell? ⟨b2, 0, none⟩ ∧ x.cell? ⟨b2, 1, none⟩ = w1.cell? ⟨b2, 1, none⟩ ∧ x.cell? ⟨b2, 2, none⟩ = w1.cell? ⟨b2, 2, none⟩ ∧ x.cell? ⟨b2, 3, none⟩ = w1.cell? ⟨b2, 3, none⟩) 9 9 rfl (by kernel_rfl) (by kernel_rfl) ?_
  intro w7 hx8 hsel
  replace hB3 := hB3.c0 hx8
  replace hO := hO.t0 hx8
  replace hE := hE.t0 hx8
  have hS0 : w7.cell? ⟨b2, 0, none⟩ = w1.cell? ⟨b2, 0, none⟩ ∧ w7.cell? ⟨b2, 1, none⟩ = w1.cell? ⟨b2, 1, none⟩ ∧ w7.cell? ⟨b2, 2, none⟩ = w1.cell? ⟨b2, 2, none⟩ ∧ w7.cell? ⟨b2, 3, none⟩ = w1.cell? ⟨b2, 3, none⟩ := ⟨(hB3.cell 0).trans (s_hB3.cell 0).symm, (hB3.cell 1).trans (s_hB3.cell 1).symm, (hB3.cell 2).trans (s_hB3.cell 2).symm, (hB3.cell 3).trans (s_hB3.cell 3).symm⟩
  refine dR [0] hsel (by kernel_rfl) hf rfl rfl (.inl hS0) fun a hf => dL 1 rfl rfl hsel (by kernel_rfl) hf rfl hS0 (fun x hS => ex_loadX4 hf rfl (by kernel_rfl) s_hB3 rfl hS.1 hS.2.1 hS.2.2.1 hS.2.2.2) fun a hf => dR [3] hsel (by kernel_rfl) hf rfl rfl (.inl hS0) fun a hf => dL 4 rfl rfl hsel (by kernel_rfl) hf rfl hS0 (fun x hS => ex_load hf rfl (by kernel_rfl) (hS.2.1.trans ((s_hB3.cell 1).trans rfl))) fun a hf => dl_c 2 (by kernel_rfl) rfl hf rfl rfl rfl (by kernel_rfl) (leadAtR (ls := [l0]) (j := 0) rfl (row_now hL hE hVB)) ?_
  rintro _ w10 ⟨rfl, hx9⟩
  refine ⟨_, rfl, fun a hf => ?_⟩
  replace hB3 := hB3.c0 hx9
  replace hO := hO.t0 hx9
  replace hE := hE.t0 hx9
  clear hS0
  have hS0 : w10.cell? ⟨b2, 0, none⟩ = w1.cell? ⟨b2, 0, none⟩ ∧ w10.cell? ⟨b2, 1, none⟩ = w1.cell? ⟨b2, 1, none⟩ ∧ w10.cell? ⟨b2, 2, none⟩ = w1.cell? ⟨b2, 2, none⟩ ∧ w10.cell? ⟨b2, 3, none⟩ = w1.cell? ⟨b2, 3, none⟩ := ⟨(hB3.cell 0).trans (s_hB3.cell 0).symm, (hB3.cell 1).trans (s_hB3.cell 1).symm, (hB3.cell 2).trans (s_hB3.cell 2).symm, (hB3.cell 3).trans (s_hB3.cell 3).symm⟩
  refine ⟨.inl hS0, ?_⟩
  refine dV 5 rfl rfl hsel (by kernel_rfl) hf rfl (.inl hS0) (fun x => ex_bd (ps := [(0, (.tmp 359)), (1, (.tmp 361))]) (z := [.string ⟨([] : List UInt8).toArray⟩, .string ⟨([] : List UInt8).toArray⟩]) (os := [0, 1]) hf rfl (by kernel_rfl) (by kernel_rfl) (by kernel_rfl) rfl rfl) fun a hf => ?_
  obtain ⟨w11, b12, he, hB13, hx14, eb15, lb16⟩ := ef_bslice (P := Try.prog) (ps := [(0, (.tmp 362))]) (m := 1) (sz := 2) (z := [.string ⟨([] : List UInt8).toArray⟩, .string ⟨([] : List UInt8).toArray⟩]) hf rfl Try.underlying54 (by kernel_rfl) (by kernel_rfl) rfl rfl (by kernel_rfl) rfl w10 54
  refine dl_e 6 (by kernel_rfl) rfl hf rfl rfl he fun a hf => ?_
  have ne_b2_b12 : b2 ≠ b12 := ne_new hB3.lt eb15
  have ge_b12 := ge_new hE eb15
  replace hB3 := hB3.c0 hx14
  replace hO := hO.t0 hx14
  replace hE := hE.t0 hx14
  clear eb15 lb16
  clear hS0
  have hS0 : w11.cell? ⟨b2, 0, none⟩ = w1.cell? ⟨b2, 0, none⟩ ∧ w11.cell? ⟨b2, 1, none⟩ = w1.cell? ⟨b2, 1, none⟩ ∧ w11.cell? ⟨b2, 2, none⟩ = w1.cell? ⟨b2, 2, none⟩ ∧ w11.cell? ⟨b2, 3, none⟩ = w1.cell? ⟨b2, 3, none⟩ := ⟨(hB3.cell 0).trans (s_hB3.cell 0).symm, (hB3.cell 1).trans (s_hB3.cell 1).symm, (hB3.cell 2).trans (s_hB3.cell 2).symm, (hB3.cell 3).trans (s_hB3.cell 3).symm⟩
  refine ⟨.inl hS0, ?_⟩
  obtain ⟨v18, w17, he, hO19, hx20, hfr21⟩ := eP (.tmp 357) (.tmp 363) [(l0, x)] hf rfl rfl hO hB13 rfl (by (try simp only [List.length_cons, List.length_nil]); omega) (nlt hBs hE.size) 54
  refine dl_e 7 (by kernel_rfl) rfl hf rfl rfl he fun a hf => ?_
  have hn2 := own_ne hfr21 hn hB3.lt
  have hg2 := own_from hfr21 hg hE.size
  replace hB3 := hB3.chg hx20 (nmO hn)
  replace hE := chg_own hE hx20 hg
  clear hO hn hg hfr21
  have hO := hO19; clear hO19
  have hn := hn2; clear hn2
  have hg := hg2; clear hg2
  obtain ⟨ps22, eps22⟩ : ∃ z, z = ps ++ [(l0, x)] := ⟨_, rfl⟩
  rw [← eps22] at hO
  have lps22 : ps22.length = ps.length + 1 := by rw [eps22]; simp
  clear hS0
  have hS0 : w17.cell? ⟨b2, 0, none⟩ = w1.cell? ⟨b2, 0, none⟩ ∧ w17.cell? ⟨b2, 1, none⟩ = w1.cell? ⟨b2, 1, none⟩ ∧ w17.cell? ⟨b2, 2, none⟩ = w1.cell? ⟨b2, 2, none⟩ ∧ w17.cell? ⟨b2, 3, none⟩ = w1.cell? ⟨b2, 3, none⟩ := ⟨(hB3.cell 0).trans (s_hB3.cell 0).symm, (hB3.cell 1).trans (s_hB3.cell 1).symm, (hB3.cell 2).trans (s_hB3.cell 2).symm, (hB3.cell 3).trans (s_hB3.cell 3).symm⟩
  refine ⟨.inl hS0, ?_⟩
  refine dR [8] hsel (by kernel_rfl) hf rfl rfl (.inl hS0) fun a hf => rN (by kernel_rfl) ?_
  clear hS0 hsel
  refine rR 2 hf rfl fun a hf => ?_
  have eq : ps ++ pcsT (.node k x [l0] ([] : List Tree)) = ps22 := by subst eps22; rw [pcsT, pcsTs, nodeC_leaf hk]
  exact rT (rs := [.tmp 4]) hf rfl ⟨_, _, rfl, rfl, rfl⟩ ⟨_, rfl, eq ▸ hO, hE, fresh_all hg (.inl (own_some hO))⟩
end Go.Proofs.Ythpjpngfghcmcaa
