/- Contracts of the functions that the law reaches, part 6. -/
import Derived.Test.YthpjpngfghcmcaaPr5
set_option linter.unusedVariables false
set_option linter.unusedSimpArgs false
namespace Go.Proofs.Ythpjpngfghcmcaa
open Go.RowKit Lx Sx
set_option maxRecDepth 100000
set_option maxHeartbeats 4000000
theorem ex_addSR {P : Program} {a : Act} {w : World} {n : Nat} {f : Nat → Option Value} {ty t u : TypeId} {x y : Operand} {m l r : List UInt8} (h : Fr a n f) (hx : valF f x = some (.string ⟨m.toArray⟩)) (hy : valF f y = some (.string ⟨l.toArray⟩)) (hl : m.length + l.length ≤ 9223372036854775807) (hr : m ++ l = r) : Runs P a ty (.binOp .add t x y u) w (.value (.string ⟨r.toArray⟩)) w := fun _ _ _ _ => by
  subst hr
  simp only [execOp, h.eval hx, h.eval hy]
  simp [go_sem, eqGuard, app_list, hl]
theorem pcC_at : ∀ {ps : List Pc} {i : Nat} (h : i < ps.length), (pcC ps)[i * 2]? = some (strV ps[i].1) ∧ (pcC ps)[i * 2 + 1]? = some (strV ps[i].2)
  | (a, b) :: r, 0, _ => ⟨rfl, rfl⟩
  | (a, b) :: r, i + 1, h => by
    have := pcC_at (ps := r) (i := i) (by simpa using h)
    simp only [pcC, show (i + 1) * 2 = i * 2 + 1 + 1 by omega, show i * 2 + 1 + 1 + 1 = i * 2 + 1 + 1 + 1 from rfl, List.getElem?_cons_succ, List.getElem_cons_succ]
    exact this
theorem runC_mono : ∀ (ps : List Pc) (s : WS), s.2.length ≤ (runC ps s).2.length
  | [], s => Nat.le_refl _
  | p :: r, s => by
    have := runC_mono r (putP p.1 p.2 s)
    rw [runC_cons]
    simp only [putP, List.length_append] at this ⊢
    first | done | omega
theorem runC_take {ps : List Pc} {i : Nat} (h : i < ps.length) (s : WS) : runC (ps.take (i + 1)) s = putP ps[i].1 ps[i].2 (runC (ps.take i) s) := by
  rw [List.take_succ_eq_append_getElem h, runC_app]; rfl
theorem runC_le (ps : List Pc) (i : Nat) (s : WS) : (runC (ps.take i) s).2.length ≤ (runC ps s).2.length := by
  have e : runC ps s = runC (ps.drop i) (runC (ps.take i) s) := by rw [← runC_app, List.take_append_drop]
  rw [e]; exact runC_mono _ _
theorem runC_last {ps : List Pc} {i : Nat} (h : i < ps.length) (h0 : 0 < i) (s : WS) : (runC (ps.take i) s).1 = (ps[i - 1]'(by omega)).2 := by
  obtain ⟨j, rfl⟩ : ∃ j, i = j + 1 := ⟨i - 1, by omega⟩
  rw [runC_take (by omega)]; rfl
theorem glue_lead {a b c : List UInt8} (h : b ≠ [] ∨ a = [] ∨ fusesT a c = false) : glueT a b c = b := by
  unfold glueT
  rw [if_neg]
  rintro ⟨h1, h2, h3⟩
  rcases h with h | h | h
  · exact h h1
  · exact h2 h
  · rw [h] at h3; cases h3
theorem glue_blank {a b c : List UInt8} (h1 : b = []) (h3 : fusesT a c = true) : glueT a b c = [32] := by
  unfold glueT
  exact if_pos ⟨h1, fun e => (by rw [e, fusesT_no (.inl rfl)] at h3; cases h3), h3⟩
theorem PiecesR {t : Tree} {S : Nat → Prop} {w : World} {c0 c1 c2 c3 : Value} (hf1 : (shapedT t && leadedT t && decide (tbulk t ≤ 1000000000)) = true) (hpl : (pcsT t).length ≤ 1000000000) (hT : TreeIs S w t [c0, c1, c2, c3]) : Calls Try.prog 35 [.agg #[c0, c1, c2, c3]].toArray w fun e w' => ∃ v1, e = .returned v1 ∧ Ow w.heap.size w' v1 (pcsT t) ∧ Chg [] w w' := by
  obtain ⟨hi0, ehi0⟩ : ∃ x, x = w.heap.size := ⟨_, rfl⟩
  replace hT := hT.keepB (S' := fun b => b < hi0) (fun b _ hb => by omega) (fun _ _ _ => rfl)
  obtain ⟨A0, m1, B0, m2, hc⟩ := hT.cellsR
  simp only [List.cons.injEq, and_true] at hc
  obtain ⟨rfl, rfl, rfl, rfl⟩ := hc
  rw [← ehi0]
  refine rE 5 Try.func35 rfl rfl rfl ?_
  intro a hf
  have hE := Chg.refl [] w
  refine rR 2 hf rfl fun a hf => ?_
  obtain ⟨w1, b2, he, hB3, hx4, eb5, lb6⟩ := ef_box (P := Try.prog) (t := 26) (x := (.tmp 0)) hf rfl rfl w 0
  refine rV hf rfl he fun a hf => ?_
  have ge_b2 := ge_new hE eb5
  replace hT := hT.t0 hx4
  replace hE := hE.t0 hx4
  clear eb5 lb6
  refine rR 5 hf rfl fun a hf => rV hf rfl (ex_loadBN (m := 4) hf rfl (by kernel_rfl) hB3 rfl) fun a hf => rC hf rfl rfl (by kernel_rfl) (piecesR _ t _ hi0 (.slice none 0 0) [] _ _ _ _ (Nat.le_refl _) hf1 (by simp only [List.length_nil]; omega) (World.ownsRow_nil _ _ _ _) hT (by have := hE.size; omega)) ?_
  rintro _ w8 ⟨v1, rfl, hO, hx7, _⟩
  refine ⟨_, rfl, fun a hf => ?_⟩
  replace hB3 := hB3.c0 hx7
  replace hT := hT.t0 hx7
  replace hE := hE.t0 hx7
  refine rR 4 hf rfl fun a hf => ?_
  exact rT (rs := [.tmp 2]) hf rfl ⟨_, _, rfl, rfl, rfl⟩ ⟨v1, rfl, by simpa using hO, hE⟩
theorem printR {t : Tree} {S : Nat → Prop} {w : World} {c0 c1 c2 c3 : Value} (hb : tbulk t ≤ 2000000) (hT : TreeIs S w t [c0, c1, c2, c3]) : Calls Try.prog 17 [.agg #[c0, c1, c2, c3]].toArray w fun e w' => e = .returned (strV (printT t)) ∧ Chg [] w w' := by
  replace hb : tbulk t ≤ 2000000 ∧ tbulk t ≤ 1000000000 := ⟨hb, by omega⟩
  obtain ⟨hb0, hb⟩ := hb
  obtain ⟨hi0, ehi0⟩ : ∃ x, x = w.heap.size := ⟨_, rfl⟩
  replace hT := hT.keepB (S' := fun b => b < hi0) (fun b _ hb => by omega) (fun _ _ _ => rfl)
  obtain ⟨A0, m1, B0, m2, hc⟩ := hT.cellsR
  simp only [List.cons.injEq, and_true] at hc
  obtain ⟨rfl, rfl, rfl, rfl⟩ := hc
  refine rE 57 Try.func17 rfl rfl rfl ?_
  intro a hf
  have hE := Chg.refl [] w
  refine rR 2 hf rfl ?_
  clear hf a; intro a hf
  obtain ⟨w1, b2, he, hB3, hx4, eb5, lb6⟩ := ef_box (P := Try.prog) (t := 26) (x := (.tmp 0)) hf rfl rfl w 0
  refine rV hf rfl he ?_
  clear he hf a; intro a hf
  have ge_b2 := ge_new hE eb5
  replace hT := hT.t0 hx4
  replace hE := hE.t0 hx4
  clear eb5 lb6
  refine rR 6 hf rfl ?_
  clear hf a; intro a hf
  refine rV hf rfl (ex_loadBN (m := 4) hf rfl (by kernel_rfl) hB3 rfl) ?_
  clear hf a; intro a hf
  rcases Bool.eq_false_or_eq_true ((shapedT t && leadedT t)) with hpb | hpb
  refine rC hf rfl rfl (by kernel_rfl) (bool_is (printableR hb hT) hpb) ?_
  rintro _ w8 ⟨rfl, hx7⟩
  refine ⟨_, rfl, ?_⟩
  clear hf a; intro a hf
  replace hB3 := hB3.c0 hx7
  replace hT := hT.t0 hx7
  replace hE := hE.t0 hx7
  refine rR 8 hf rfl ?_
  clear hf a; intro a hf
  refine rV hf rfl (ex_loadBN (m := 4) hf rfl (by kernel_rfl) hB3 rfl) ?_
  clear hf a; intro a hf
  have hsl := hpb
  rw [Bool.and_eq_true] at hsl
  have hfine := pcs_fine _ t (Nat.le_refl _) hsl.1 hsl.2
  have htx := text_pcs hsl.1 hsl.2
  have hgw := (Gw.tree _ t (Nat.le_refl _) hsl.2 ([], [])).1
  have htl : (refTx (pcsT t)).length ≤ 100 * tbulk t := by rw [← htx]; simpa [textT] using hgw
  have hpl := hfine.2.2
  refine rC hf rfl rfl (by kernel_rfl) (PiecesR (by rw [hpb]; simp; omega) (by omega) hT) ?_
  rintro _ w10 ⟨v1, rfl, hO, hx9⟩
  refine ⟨_, rfl, ?_⟩
  clear hf a; intro a hf
  obtain ⟨A, cc, rfl, _, _⟩ := own_slice hO
  have hRow := RowIn.of_own hO
  replace hB3 := hB3.c0 hx9
  replace hT := hT.t0 hx9
  replace hE := hE.t0 hx9
  refine rR 15 hf rfl ?_
  clear hf a; intro a hf
  have hF := Chg.refl [] w10
  refine rL (fun g a w' => ∃ i, Fr a 57 (fm [(3, .slice A (pcsT t).length cc), (4, strV (runC ((pcsT t).take i) ([], [])).2), (5, .int .i64 (i : Nat))]) ∧ Chg [] w10 w' ∧ i ≤ (pcsT t).length ∧ g = (pcsT t).length - i) _ ⟨0, hf.pick ⟨rfl, rfl, rfl, trivial⟩, hF, Nat.zero_le _, rfl⟩ ?_
  clear hf a hF
  intro g0 a w' hI
  obtain ⟨i, hf, hF, hi, rfl⟩ := hI
  by_cases hlt : i < (pcsT t).length
  obtain ⟨pb, po, rfl, _, hpb0, hpc⟩ := hRow.2 (by omega)
  obtain ⟨hat0, hat1⟩ := pcC_at hlt
  have hL : w'.cell? ⟨pb, po + i * 2, none⟩ = some (strV (pcsT t)[i].1) := by rw [hF.cell hpb0 nm0, hpc _ (by omega), hat0]
  have hX : w'.cell? ⟨pb, po + i * 2 + 1, none⟩ = some (strV (pcsT t)[i].2) := by rw [hF.cell hpb0 nm0, Nat.add_assoc, hpc _ (by omega), hat1]
  have lt_pb := hF.lt hpb0
  have lt_pb2 := lt_pb
  have lt_pb3 := lt_pb
  have hst := runC_take hlt ([], [])
  have hle1 := runC_le (pcsT t) (i + 1) ([], [])
  have hle2 : (runC (pcsT t) ([], [])).2.length ≤ 100 * tbulk t := htl
  obtain ⟨LE, eLE⟩ : ∃ z, z = (pcsT t)[i].1 := ⟨_, rfl⟩
  obtain ⟨TE, eTE⟩ : ∃ z, z = (pcsT t)[i].2 := ⟨_, rfl⟩
  rw [← eLE] at hL hst
  rw [← eTE] at hX hst
  by_cases hz0 : i = 0
  have hgl : glueT (runC ((pcsT t).take i) ([], [])).1 LE TE = LE := glue_lead (.inr (.inl (by subst hz0; rfl)))
  have hnx : (runC ((pcsT t).take (i + 1)) ([], [])).2 = (runC ((pcsT t).take i) ([], [])).2 ++ LE ++ TE := by rw [hst]; simp only [putP, hgl]
  have hnl := congrArg List.length hnx
  simp only [List.length_append, List.length_cons, List.length_nil] at hnl
  refine rR 5 hf rfl ?_
  clear hf a; intro a hf
  refine rV hf rfl (ex_len hf Try.underlying54 rfl) ?_
  clear hf a; intro a hf
  refine rV hf rfl (ex_ltI (c := true) hf rfl rfl (by simp; omega)) ?_
  clear hf a; intro a hf
  refine rR 9 hf rfl ?_
  clear hf a; intro a hf
  have s_hL := hL
  have s_hX := hX
  refine rD (fun x => True) 24 24 rfl (by kernel_rfl) (by kernel_rfl) ?_
  intro w11 hx12 hsel
  replace hL := (hx12.cell lt_pb nm0).trans hL
  replace lt_pb := hx12.lt lt_pb
  replace hX := (hx12.cell lt_pb2 nm0).trans hX
  replace lt_pb2 := hx12.lt lt_pb2
  replace hF := hF.t0 hx12
  have hS0 : True := trivial
  refine dR [0] hsel (by kernel_rfl) hf rfl rfl (.inl hS0) ?_
  clear hf a; intro a hf
  refine dV 1 rfl rfl hsel (by kernel_rfl) hf rfl (.inl hS0) (fun x => ex_gtI (c := false) hf rfl rfl (by simp <;> omega)) ?_
  clear hf a; intro a hf
  refine dR [2, 3, 4, 5, 6, 7, 8, 9, 10, 11, 12, 13, 14, 15, 16, 17, 18, 19, 20, 21, 22, 23] hsel (by kernel_rfl) hf rfl rfl (.inl hS0) ?_
  clear hf a; intro a hf
  refine rN (by kernel_rfl) ?_
  clear hS0 hsel
  refine rR 4 hf rfl ?_
  clear hf a; intro a hf
  have s_hL := hL
  have s_hX := hX
  refine rD (fun x => x.cell? ⟨pb, po + i * 2, none⟩ = w11.cell? ⟨pb, po + i * 2, none⟩ ∧ x.cell? ⟨pb, po + i * 2 + 1, none⟩ = w11.cell? ⟨pb, po + i * 2 + 1, none⟩) 14 14 rfl (by kernel_rfl) (by kernel_rfl) ?_
  intro w13 hx14 hsel
  replace hL := (hx14.cell lt_pb nm0).trans hL
  replace lt_pb := hx14.lt lt_pb
  replace hX := (hx14.cell lt_pb2 nm0).trans hX
  replace lt_pb2 := hx14.lt lt_pb2
  replace hF := hF.t0 hx14
  have hS0 : w13.cell? ⟨pb, po + i * 2, none⟩ = w11.cell? ⟨pb, po + i * 2, none⟩ ∧ w13.cell? ⟨pb, po + i * 2 + 1, none⟩ = w11.cell? ⟨pb, po + i * 2 + 1, none⟩ := ⟨(hL.trans s_hL.symm), (hX.trans s_hX.symm)⟩
  refine dR [0, 1, 2] hsel (by kernel_rfl) hf rfl rfl (.inl hS0) ?_
  clear hf a; intro a hf
  refine dV 3 rfl rfl hsel (by kernel_rfl) hf rfl (.inl hS0) (fun x => ex_index (sz := 2) (k := i) (r := po + i * 2) hf Try.underlying54 (by kernel_rfl) rfl rfl rfl hlt rfl) ?_
  clear hf a; intro a hf
  refine dR [4] hsel (by kernel_rfl) hf rfl rfl (.inl hS0) ?_
  clear hf a; intro a hf
  refine dL 5 rfl rfl hsel (by kernel_rfl) hf rfl hS0 (fun x hS => ex_load hf rfl (by kernel_rfl) (hS.1.trans s_hL)) ?_
  clear hf a; intro a hf
  refine dV 6 rfl rfl hsel (by kernel_rfl) hf rfl (.inl hS0) (fun x => ex_addSR hf rfl rfl (by (try simp only [List.length_append, List.length_cons, List.length_nil]); omega) rfl) ?_
  clear hf a; intro a hf
  refine dR [7, 8] hsel (by kernel_rfl) hf rfl rfl (.inl hS0) ?_
  clear hf a; intro a hf
  refine dV 9 rfl rfl hsel (by kernel_rfl) hf rfl (.inl hS0) (fun x => ex_index (sz := 2) (k := i) (r := po + i * 2) hf Try.underlying54 (by kernel_rfl) rfl rfl rfl hlt rfl) ?_
  clear hf a; intro a hf
  refine dR [10] hsel (by kernel_rfl) hf rfl rfl (.inl hS0) ?_
  clear hf a; intro a hf
  refine dL 11 rfl rfl hsel (by kernel_rfl) hf rfl hS0 (fun x hS => ex_load hf rfl (by kernel_rfl) (hS.2.trans s_hX)) ?_
  clear hf a; intro a hf
  refine dV 12 rfl rfl hsel (by kernel_rfl) hf rfl (.inl hS0) (fun x => ex_addSR hf rfl rfl (by (try simp only [List.length_append, List.length_cons, List.length_nil]); omega) rfl) ?_
  clear hf a; intro a hf
  refine dR [13] hsel (by kernel_rfl) hf rfl rfl (.inl hS0) ?_
  clear hf a; intro a hf
  refine rN (by kernel_rfl) ?_
  clear hS0 hsel
  refine rR 4 hf rfl ?_
  clear hf a; intro a hf
  refine rV hf rfl (ex_addI hf rfl rfl rfl (by omega)) ?_
  clear hf a; intro a hf
  refine rR 2 hf rfl ?_
  clear hf a; intro a hf
  have hfin := hnx
  exact rX ⟨_, (by omega : (pcsT t).length - (i + 1) < (pcsT t).length - i), i + 1, by rw [hfin]; exact hf.pick ⟨rfl, rfl, rfl, trivial⟩, hF, by omega, rfl⟩
  obtain ⟨_, hat2⟩ := pcC_at (show i - 1 < (pcsT t).length from by omega)
  have hla := runC_last hlt (by omega) ([], [])
  obtain ⟨PE, ePE⟩ : ∃ z, z = (pcsT t)[i - 1].2 := ⟨_, rfl⟩
  rw [← ePE] at hat2 hla
  have hY : w'.cell? ⟨pb, po + (i - 1) * 2 + 1, none⟩ = some (strV PE) := by rw [hF.cell hpb0 nm0, Nat.add_assoc, hpc _ (by omega), hat2]
  have hpe : PE.length ≤ 1000000000000 := by have h1 := runC_le (pcsT t) i ([], []); have h2 := runC_take (show i - 1 < (pcsT t).length from by omega) ([], []); rw [show i - 1 + 1 = i by omega] at h2; rw [h2] at h1; simp only [putP, List.length_append, ← ePE] at h1; omega
  by_cases hle0 : LE = []
  have hte : TE.length ≤ 1000000000000 := by rw [hst] at hle1; simp only [putP, List.length_append] at hle1; omega
  rcases Bool.eq_false_or_eq_true (fusesT PE TE) with hfu | hfu
  have hgl : glueT (runC ((pcsT t).take i) ([], [])).1 LE TE = [32] := glue_blank hle0 (by rw [hla]; exact hfu)
  have hnx : (runC ((pcsT t).take (i + 1)) ([], [])).2 = (runC ((pcsT t).take i) ([], [])).2 ++ [32] ++ TE := by rw [hst]; simp only [putP, hgl]
  have hnl := congrArg List.length hnx
  simp only [List.length_append, List.length_cons, List.length_nil] at hnl
  have hlz : LE.length = 0 := by rw [hle0]; rfl
  refine rR 5 hf rfl ?_
  clear hf a; intro a hf
  refine rV hf rfl (ex_len hf Try.underlying54 rfl) ?_
  clear hf a; intro a hf
  refine rV hf rfl (ex_ltI (c := true) hf rfl rfl (by simp; omega)) ?_
  clear hf a; intro a hf
  refine rR 9 hf rfl ?_
  clear hf a; intro a hf
  have s_hL := hL
  have s_hX := hX
  have s_hY := hY
  refine rD (fun x => x.cell? ⟨pb, po + i * 2, none⟩ = w'.cell? ⟨pb, po + i * 2, none⟩ ∧ x.cell? ⟨pb, po + (i - 1) * 2 + 1, none⟩ = w'.cell? ⟨pb, po + (i - 1) * 2 + 1, none⟩ ∧ x.cell? ⟨pb, po + i * 2 + 1, none⟩ = w'.cell? ⟨pb, po + i * 2 + 1, none⟩) 24 24 rfl (by kernel_rfl) (by kernel_rfl) ?_
  intro w15 hx16 hsel
  replace hL := (hx16.cell lt_pb nm0).trans hL
  replace lt_pb := hx16.lt lt_pb
  replace hX := (hx16.cell lt_pb2 nm0).trans hX
  replace lt_pb2 := hx16.lt lt_pb2
  replace hY := (hx16.cell lt_pb3 nm0).trans hY
  replace lt_pb3 := hx16.lt lt_pb3
  replace hF := hF.t0 hx16
  have hS0 : w15.cell? ⟨pb, po + i * 2, none⟩ = w'.cell? ⟨pb, po + i * 2, none⟩ ∧ w15.cell? ⟨pb, po + (i - 1) * 2 + 1, none⟩ = w'.cell? ⟨pb, po + (i - 1) * 2 + 1, none⟩ ∧ w15.cell? ⟨pb, po + i * 2 + 1, none⟩ = w'.cell? ⟨pb, po + i * 2 + 1, none⟩ := ⟨(hL.trans s_hL.symm), (hY.trans s_hY.symm), (hX.trans s_hX.symm)⟩
  refine dR [0] hsel (by kernel_rfl) hf rfl rfl (.inl hS0) ?_
  clear hf a; intro a hf
  refine dV 1 rfl rfl hsel (by kernel_rfl) hf rfl (.inl hS0) (fun x => ex_gtI (c := true) hf rfl rfl (by simp <;> omega)) ?_
  clear hf a; intro a hf
  refine dR [2, 3, 4] hsel (by kernel_rfl) hf rfl rfl (.inl hS0) ?_
  clear hf a; intro a hf
  refine dV 5 rfl rfl hsel (by kernel_rfl) hf rfl (.inl hS0) (fun x => ex_index (sz := 2) (k := i) (r := po + i * 2) hf Try.underlying54 (by kernel_rfl) rfl rfl rfl hlt rfl) ?_
  clear hf a; intro a hf
  refine dR [6] hsel (by kernel_rfl) hf rfl rfl (.inl hS0) ?_
  clear hf a; intro a hf
  refine dL 7 rfl rfl hsel (by kernel_rfl) hf rfl hS0 (fun x hS => ex_load hf rfl (by kernel_rfl) (hS.1.trans s_hL)) ?_
  clear hf a; intro a hf
  refine dV 8 rfl rfl hsel (by kernel_rfl) hf rfl (.inl hS0) (fun x => ex_eqS (c := true) hf rfl rfl (by simp [hle0])) ?_
  clear hf a; intro a hf
  refine dR [9, 10, 11, 12] hsel (by kernel_rfl) hf rfl rfl (.inl hS0) ?_
  clear hf a; intro a hf
  refine dV 13 rfl rfl hsel (by kernel_rfl) hf rfl (.inl hS0) (fun x => ex_subI hf rfl rfl rfl (by omega)) ?_
  clear hf a; intro a hf
  refine dV 14 rfl rfl hsel (by kernel_rfl) hf rfl (.inl hS0) (fun x => ex_index (sz := 2) (k := (i - 1)) (r := po + (i - 1) * 2) hf Try.underlying54 (by kernel_rfl) rfl rfl (by omega) (by omega) rfl) ?_
  clear hf a; intro a hf
  refine dR [15] hsel (by kernel_rfl) hf rfl rfl (.inl hS0) ?_
  clear hf a; intro a hf
  refine dL 16 rfl rfl hsel (by kernel_rfl) hf rfl hS0 (fun x hS => ex_load hf rfl (by kernel_rfl) (hS.2.1.trans s_hY)) ?_
  clear hf a; intro a hf
  refine dR [17, 18] hsel (by kernel_rfl) hf rfl rfl (.inl hS0) ?_
  clear hf a; intro a hf
  refine dV 19 rfl rfl hsel (by kernel_rfl) hf rfl (.inl hS0) (fun x => ex_index (sz := 2) (k := i) (r := po + i * 2) hf Try.underlying54 (by kernel_rfl) rfl rfl rfl hlt rfl) ?_
  clear hf a; intro a hf
  refine dR [20] hsel (by kernel_rfl) hf rfl rfl (.inl hS0) ?_
  clear hf a; intro a hf
  refine dL 21 rfl rfl hsel (by kernel_rfl) hf rfl hS0 (fun x hS => ex_load hf rfl (by kernel_rfl) (hS.2.2.trans s_hX)) ?_
  clear hf a; intro a hf
  refine dl_c 22 (by kernel_rfl) rfl hf rfl rfl rfl (by kernel_rfl) (bool_is (calls_ext (fusesR _ _ _ (by omega) (by omega))) hfu) ?_
  rintro _ w18 ⟨rfl, hx17⟩
  refine ⟨_, rfl, ?_⟩
  clear hf a; intro a hf
  replace hL := (hx17.cell lt_pb nm0).trans hL
  replace lt_pb := hx17.lt lt_pb
  replace hX := (hx17.cell lt_pb2 nm0).trans hX
  replace lt_pb2 := hx17.lt lt_pb2
  replace hY := (hx17.cell lt_pb3 nm0).trans hY
  replace lt_pb3 := hx17.lt lt_pb3
  replace hF := hF.t0 hx17
  clear hS0
  have hS0 : w18.cell? ⟨pb, po + i * 2, none⟩ = w'.cell? ⟨pb, po + i * 2, none⟩ ∧ w18.cell? ⟨pb, po + (i - 1) * 2 + 1, none⟩ = w'.cell? ⟨pb, po + (i - 1) * 2 + 1, none⟩ ∧ w18.cell? ⟨pb, po + i * 2 + 1, none⟩ = w'.cell? ⟨pb, po + i * 2 + 1, none⟩ := ⟨(hL.trans s_hL.symm), (hY.trans s_hY.symm), (hX.trans s_hX.symm)⟩
  refine ⟨.inl hS0, ?_⟩
  refine dR [23] hsel (by kernel_rfl) hf rfl rfl (.inl hS0) ?_
  clear hf a; intro a hf
  refine rN (by kernel_rfl) ?_
  clear hS0 hsel
  refine rR 4 hf rfl ?_
  clear hf a; intro a hf
  refine rV hf rfl (ex_addSR hf rfl rfl (by (try simp only [List.length_append, List.length_cons, List.length_nil]); omega) rfl) ?_
  clear hf a; intro a hf
  refine rR 3 hf rfl ?_
  clear hf a; intro a hf
  have s_hL := hL
  have s_hX := hX
  have s_hY := hY
  refine rD (fun x => x.cell? ⟨pb, po + i * 2, none⟩ = w18.cell? ⟨pb, po + i * 2, none⟩ ∧ x.cell? ⟨pb, po + i * 2 + 1, none⟩ = w18.cell? ⟨pb, po + i * 2 + 1, none⟩) 14 14 rfl (by kernel_rfl) (by kernel_rfl) ?_
  intro w19 hx20 hsel
  replace hL := (hx20.cell lt_pb nm0).trans hL
  replace lt_pb := hx20.lt lt_pb
  replace hX := (hx20.cell lt_pb2 nm0).trans hX
  replace lt_pb2 := hx20.lt lt_pb2
  replace hY := (hx20.cell lt_pb3 nm0).trans hY
  replace lt_pb3 := hx20.lt lt_pb3
  replace hF := hF.t0 hx20
  have hS0 : w19.cell? ⟨pb, po + i * 2, none⟩ = w18.cell? ⟨pb, po + i * 2, none⟩ ∧ w19.cell? ⟨pb, po + i * 2 + 1, none⟩ = w18.cell? ⟨pb, po + i * 2 + 1, none⟩ := ⟨(hL.trans s_hL.symm), (hX.trans s_hX.symm)⟩
  refine dR [0, 1, 2] hsel (by kernel_rfl) hf rfl rfl (.inl hS0) ?_
  clear hf a; intro a hf
  refine dV 3 rfl rfl hsel (by kernel_rfl) hf rfl (.inl hS0) (fun x => ex_index (sz := 2) (k := i) (r := po + i * 2) hf Try.underlying54 (by kernel_rfl) rfl rfl rfl hlt rfl) ?_
  clear hf a; intro a hf
  refine dR [4] hsel (by kernel_rfl) hf rfl rfl (.inl hS0) ?_
  clear hf a; intro a hf
  refine dL 5 rfl rfl hsel (by kernel_rfl) hf rfl hS0 (fun x hS => ex_load hf rfl (by kernel_rfl) (hS.1.trans s_hL)) ?_
  clear hf a; intro a hf
  refine dV 6 rfl rfl hsel (by kernel_rfl) hf rfl (.inl hS0) (fun x => ex_addSR hf rfl rfl (by (try simp only [List.length_append, List.length_cons, List.length_nil]); omega) rfl) ?_
  clear hf a; intro a hf
  refine dR [7, 8] hsel (by kernel_rfl) hf rfl rfl (.inl hS0) ?_
  clear hf a; intro a hf
  refine dV 9 rfl rfl hsel (by kernel_rfl) hf rfl (.inl hS0) (fun x => ex_index (sz := 2) (k := i) (r := po + i * 2) hf Try.underlying54 (by kernel_rfl) rfl rfl rfl hlt rfl) ?_
  clear hf a; intro a hf
  refine dR [10] hsel (by kernel_rfl) hf rfl rfl (.inl hS0) ?_
  clear hf a; intro a hf
  refine dL 11 rfl rfl hsel (by kernel_rfl) hf rfl hS0 (fun x hS => ex_load hf rfl (by kernel_rfl) (hS.2.trans s_hX)) ?_
  clear hf a; intro a hf
  refine dV 12 rfl rfl hsel (by kernel_rfl) hf rfl (.inl hS0) (fun x => ex_addSR hf rfl rfl (by (try simp only [List.length_append, List.length_cons, List.length_nil]); omega) rfl) ?_
  clear hf a; intro a hf
  refine dR [13] hsel (by kernel_rfl) hf rfl rfl (.inl hS0) ?_
  clear hf a; intro a hf
  refine rN (by kernel_rfl) ?_
  clear hS0 hsel
  refine rR 4 hf rfl ?_
  clear hf a; intro a hf
  refine rV hf rfl (ex_addI hf rfl rfl rfl (by omega)) ?_
  clear hf a; intro a hf
  refine rR 2 hf rfl ?_
  clear hf a; intro a hf
  have hfin : (runC ((pcsT t).take (i + 1)) ([], [])).2 = (runC ((pcsT t).take i) ([], [])).2 ++ [32] ++ LE ++ TE := by rw [hnx, hle0, List.append_nil]
  exact rX ⟨_, (by omega : (pcsT t).length - (i + 1) < (pcsT t).length - i), i + 1, by rw [hfin]; exact hf.pick ⟨rfl, rfl, rfl, trivial⟩, hF, by omega, rfl⟩
  have hgl : glueT (runC ((pcsT t).take i) ([], [])).1 LE TE = LE := glue_lead (.inr (.inr (by rw [hla]; exact hfu)))
  have hnx : (runC ((pcsT t).take (i + 1)) ([], [])).2 = (runC ((pcsT t).take i) ([], [])).2 ++ LE ++ TE := by rw [hst]; simp only [putP, hgl]
  have hnl := congrArg List.length hnx
  simp only [List.length_append, List.length_cons, List.length_nil] at hnl
  refine rR 5 hf rfl ?_
  clear hf a; intro a hf
  refine rV hf rfl (ex_len hf Try.underlying54 rfl) ?_
  clear hf a; intro a hf
  refine rV hf rfl (ex_ltI (c := true) hf rfl rfl (by simp; omega)) ?_
  clear hf a; intro a hf
  refine rR 9 hf rfl ?_
  clear hf a; intro a hf
  have s_hL := hL
  have s_hX := hX
  have s_hY := hY
  refine rD (fun x => x.cell? ⟨pb, po + i * 2, none⟩ = w'.cell? ⟨pb, po + i * 2, none⟩ ∧ x.cell? ⟨pb, po + (i - 1) * 2 + 1, none⟩ = w'.cell? ⟨pb, po + (i - 1) * 2 + 1, none⟩ ∧ x.cell? ⟨pb, po + i * 2 + 1, none⟩ = w'.cell? ⟨pb, po + i * 2 + 1, none⟩) 24 24 rfl (by kernel_rfl) (by kernel_rfl) ?_
  intro w21 hx22 hsel
  replace hL := (hx22.cell lt_pb nm0).trans hL
  replace lt_pb := hx22.lt lt_pb
  replace hX := (hx22.cell lt_pb2 nm0).trans hX
  replace lt_pb2 := hx22.lt lt_pb2
  replace hY := (hx22.cell lt_pb3 nm0).trans hY
  replace lt_pb3 := hx22.lt lt_pb3
  replace hF := hF.t0 hx22
  have hS0 : w21.cell? ⟨pb, po + i * 2, none⟩ = w'.cell? ⟨pb, po + i * 2, none⟩ ∧ w21.cell? ⟨pb, po + (i - 1) * 2 + 1, none⟩ = w'.cell? ⟨pb, po + (i - 1) * 2 + 1, none⟩ ∧ w21.cell? ⟨pb, po + i * 2 + 1, none⟩ = w'.cell? ⟨pb, po + i * 2 + 1, none⟩ := ⟨(hL.trans s_hL.symm), (hY.trans s_hY.symm), (hX.trans s_hX.symm)⟩
  refine dR [0] hsel (by kernel_rfl) hf rfl rfl (.inl hS0) ?_
  clear hf a; intro a hf
  refine dV 1 rfl rfl hsel (by kernel_rfl) hf rfl (.inl hS0) (fun x => ex_gtI (c := true) hf rfl rfl (by simp <;> omega)) ?_
  clear hf a; intro a hf
  refine dR [2, 3, 4] hsel (by kernel_rfl) hf rfl rfl (.inl hS0) ?_
  clear hf a; intro a hf
  refine dV 5 rfl rfl hsel (by kernel_rfl) hf rfl (.inl hS0) (fun x => ex_index (sz := 2) (k := i) (r := po + i * 2) hf Try.underlying54 (by kernel_rfl) rfl rfl rfl hlt rfl) ?_
  clear hf a; intro a hf
  refine dR [6] hsel (by kernel_rfl) hf rfl rfl (.inl hS0) ?_
  clear hf a; intro a hf
  refine dL 7 rfl rfl hsel (by kernel_rfl) hf rfl hS0 (fun x hS => ex_load hf rfl (by kernel_rfl) (hS.1.trans s_hL)) ?_
  clear hf a; intro a hf
  refine dV 8 rfl rfl hsel (by kernel_rfl) hf rfl (.inl hS0) (fun x => ex_eqS (c := true) hf rfl rfl (by simp [hle0])) ?_
  clear hf a; intro a hf
  refine dR [9, 10, 11, 12] hsel (by kernel_rfl) hf rfl rfl (.inl hS0) ?_
  clear hf a; intro a hf
  refine dV 13 rfl rfl hsel (by kernel_rfl) hf rfl (.inl hS0) (fun x => ex_subI hf rfl rfl rfl (by omega)) ?_
  clear hf a; intro a hf
  refine dV 14 rfl rfl hsel (by kernel_rfl) hf rfl (.inl hS0) (fun x => ex_index (sz := 2) (k := (i - 1)) (r := po + (i - 1) * 2) hf Try.underlying54 (by kernel_rfl) rfl rfl (by omega) (by omega) rfl) ?_
  clear hf a; intro a hf
  refine dR [15] hsel (by kernel_rfl) hf rfl rfl (.inl hS0) ?_
  clear hf a; intro a hf
  refine dL 16 rfl rfl hsel (by kernel_rfl) hf rfl hS0 (fun x hS => ex_load hf rfl (by kernel_rfl) (hS.2.1.trans s_hY)) ?_
  clear hf a; intro a hf
  refine dR [17, 18] hsel (by kernel_rfl) hf rfl rfl (.inl hS0) ?_
  clear hf a; intro a hf
  refine dV 19 rfl rfl hsel (by kernel_rfl) hf rfl (.inl hS0) (fun x => ex_index (sz := 2) (k := i) (r := po + i * 2) hf Try.underlying54 (by kernel_rfl) rfl rfl rfl hlt rfl) ?_
  clear hf a; intro a hf
  refine dR [20] hsel (by kernel_rfl) hf rfl rfl (.inl hS0) ?_
  clear hf a; intro a hf
  refine dL 21 rfl rfl hsel (by kernel_rfl) hf rfl hS0 (fun x hS => ex_load hf rfl (by kernel_rfl) (hS.2.2.trans s_hX)) ?_
  clear hf a; intro a hf
  refine dl_c 22 (by kernel_rfl) rfl hf rfl rfl rfl (by kernel_rfl) (bool_is (calls_ext (fusesR _ _ _ (by omega) (by omega))) hfu) ?_
  rintro _ w24 ⟨rfl, hx23⟩
  refine ⟨_, rfl, ?_⟩
  clear hf a; intro a hf
  replace hL := (hx23.cell lt_pb nm0).trans hL
  replace lt_pb := hx23.lt lt_pb
  replace hX := (hx23.cell lt_pb2 nm0).trans hX
  replace lt_pb2 := hx23.lt lt_pb2
  replace hY := (hx23.cell lt_pb3 nm0).trans hY
  replace lt_pb3 := hx23.lt lt_pb3
  replace hF := hF.t0 hx23
  clear hS0
  have hS0 : w24.cell? ⟨pb, po + i * 2, none⟩ = w'.cell? ⟨pb, po + i * 2, none⟩ ∧ w24.cell? ⟨pb, po + (i - 1) * 2 + 1, none⟩ = w'.cell? ⟨pb, po + (i - 1) * 2 + 1, none⟩ ∧ w24.cell? ⟨pb, po + i * 2 + 1, none⟩ = w'.cell? ⟨pb, po + i * 2 + 1, none⟩ := ⟨(hL.trans s_hL.symm), (hY.trans s_hY.symm), (hX.trans s_hX.symm)⟩
  refine ⟨.inl hS0, ?_⟩
  refine dR [23] hsel (by kernel_rfl) hf rfl rfl (.inl hS0) ?_
  clear hf a; intro a hf
  refine rN (by kernel_rfl) ?_
  clear hS0 hsel
  refine rR 4 hf rfl ?_
  clear hf a; intro a hf
  have s_hL := hL
  have s_hX := hX
  have s_hY := hY
  refine rD (fun x => x.cell? ⟨pb, po + i * 2, none⟩ = w24.cell? ⟨pb, po + i * 2, none⟩ ∧ x.cell? ⟨pb, po + i * 2 + 1, none⟩ = w24.cell? ⟨pb, po + i * 2 + 1, none⟩) 14 14 rfl (by kernel_rfl) (by kernel_rfl) ?_
  intro w25 hx26 hsel
  replace hL := (hx26.cell lt_pb nm0).trans hL
  replace lt_pb := hx26.lt lt_pb
  replace hX := (hx26.cell lt_pb2 nm0).trans hX
  replace lt_pb2 := hx26.lt lt_pb2
  replace hY := (hx26.cell lt_pb3 nm0).trans hY
  replace lt_pb3 := hx26.lt lt_pb3
  replace hF := hF.t0 hx26
  have hS0 : w25.cell? ⟨pb, po + i * 2, none⟩ = w24.cell? ⟨pb, po + i * 2, none⟩ ∧ w25.cell? ⟨pb, po + i * 2 + 1, none⟩ = w24.cell? ⟨pb, po + i * 2 + 1, none⟩ := ⟨(hL.trans s_hL.symm), (hX.trans s_hX.symm)⟩
  refine dR [0, 1, 2] hsel (by kernel_rfl) hf rfl rfl (.inl hS0) ?_
  clear hf a; intro a hf
  refine dV 3 rfl rfl hsel (by kernel_rfl) hf rfl (.inl hS0) (fun x => ex_index (sz := 2) (k := i) (r := po + i * 2) hf Try.underlying54 (by kernel_rfl) rfl rfl rfl hlt rfl) ?_
  clear hf a; intro a hf
  refine dR [4] hsel (by kernel_rfl) hf rfl rfl (.inl hS0) ?_
  clear hf a; intro a hf
  refine dL 5 rfl rfl hsel (by kernel_rfl) hf rfl hS0 (fun x hS => ex_load hf rfl (by kernel_rfl) (hS.1.trans s_hL)) ?_
  clear hf a; intro a hf
  refine dV 6 rfl rfl hsel (by kernel_rfl) hf rfl (.inl hS0) (fun x => ex_addSR hf rfl rfl (by (try simp only [List.length_append, List.length_cons, List.length_nil]); omega) rfl) ?_
  clear hf a; intro a hf
  refine dR [7, 8] hsel (by kernel_rfl) hf rfl rfl (.inl hS0) ?_
  clear hf a; intro a hf
  refine dV 9 rfl rfl hsel (by kernel_rfl) hf rfl (.inl hS0) (fun x => ex_index (sz := 2) (k := i) (r := po + i * 2) hf Try.underlying54 (by kernel_rfl) rfl rfl rfl hlt rfl) ?_
  clear hf a; intro a hf
  refine dR [10] hsel (by kernel_rfl) hf rfl rfl (.inl hS0) ?_
  clear hf a; intro a hf
  refine dL 11 rfl rfl hsel (by kernel_rfl) hf rfl hS0 (fun x hS => ex_load hf rfl (by kernel_rfl) (hS.2.trans s_hX)) ?_
  clear hf a; intro a hf
  refine dV 12 rfl rfl hsel (by kernel_rfl) hf rfl (.inl hS0) (fun x => ex_addSR hf rfl rfl (by (try simp only [List.length_append, List.length_cons, List.length_nil]); omega) rfl) ?_
  clear hf a; intro a hf
  refine dR [13] hsel (by kernel_rfl) hf rfl rfl (.inl hS0) ?_
  clear hf a; intro a hf
  refine rN (by kernel_rfl) ?_
  clear hS0 hsel
  refine rR 4 hf rfl ?_
  clear hf a; intro a hf
  refine rV hf rfl (ex_addI hf rfl rfl rfl (by omega)) ?_
  clear hf a; intro a hf
  refine rR 2 hf rfl ?_
  clear hf a; intro a hf
  have hfin := hnx
  exact rX ⟨_, (by omega : (pcsT t).length - (i + 1) < (pcsT t).length - i), i + 1, by rw [hfin]; exact hf.pick ⟨rfl, rfl, rfl, trivial⟩, hF, by omega, rfl⟩
  have hgl : glueT (runC ((pcsT t).take i) ([], [])).1 LE TE = LE := glue_lead (.inl hle0)
  have hnx : (runC ((pcsT t).take (i + 1)) ([], [])).2 = (runC ((pcsT t).take i) ([], [])).2 ++ LE ++ TE := by rw [hst]; simp only [putP, hgl]
  have hnl := congrArg List.length hnx
  simp only [List.length_append, List.length_cons, List.length_nil] at hnl
  refine rR 5 hf rfl ?_
  clear hf a; intro a hf
  refine rV hf rfl (ex_len hf Try.underlying54 rfl) ?_
  clear hf a; intro a hf
  refine rV hf rfl (ex_ltI (c := true) hf rfl rfl (by simp; omega)) ?_
  clear hf a; intro a hf
  refine rR 9 hf rfl ?_
  clear hf a; intro a hf
  have s_hL := hL
  have s_hX := hX
  have s_hY := hY
  refine rD (fun x => x.cell? ⟨pb, po + i * 2, none⟩ = w'.cell? ⟨pb, po + i * 2, none⟩) 24 24 rfl (by kernel_rfl) (by kernel_rfl) ?_
  intro w27 hx28 hsel
  replace hL := (hx28.cell lt_pb nm0).trans hL
  replace lt_pb := hx28.lt lt_pb
  replace hX := (hx28.cell lt_pb2 nm0).trans hX
  replace lt_pb2 := hx28.lt lt_pb2
  replace hY := (hx28.cell lt_pb3 nm0).trans hY
  replace lt_pb3 := hx28.lt lt_pb3
  replace hF := hF.t0 hx28
  have hS0 : w27.cell? ⟨pb, po + i * 2, none⟩ = w'.cell? ⟨pb, po + i * 2, none⟩ := (hL.trans s_hL.symm)
  refine dR [0] hsel (by kernel_rfl) hf rfl rfl (.inl hS0) ?_
  clear hf a; intro a hf
  refine dV 1 rfl rfl hsel (by kernel_rfl) hf rfl (.inl hS0) (fun x => ex_gtI (c := true) hf rfl rfl (by simp <;> omega)) ?_
  clear hf a; intro a hf
  refine dR [2, 3, 4] hsel (by kernel_rfl) hf rfl rfl (.inl hS0) ?_
  clear hf a; intro a hf
  refine dV 5 rfl rfl hsel (by kernel_rfl) hf rfl (.inl hS0) (fun x => ex_index (sz := 2) (k := i) (r := po + i * 2) hf Try.underlying54 (by kernel_rfl) rfl rfl rfl hlt rfl) ?_
  clear hf a; intro a hf
  refine dR [6] hsel (by kernel_rfl) hf rfl rfl (.inl hS0) ?_
  clear hf a; intro a hf
  refine dL 7 rfl rfl hsel (by kernel_rfl) hf rfl hS0 (fun x hS => ex_load hf rfl (by kernel_rfl) (hS.trans s_hL)) ?_
  clear hf a; intro a hf
  refine dV 8 rfl rfl hsel (by kernel_rfl) hf rfl (.inl hS0) (fun x => ex_eqS (c := false) hf rfl rfl (by simp [hle0])) ?_
  clear hf a; intro a hf
  refine dR [9, 10, 11, 12, 13, 14, 15, 16, 17, 18, 19, 20, 21, 22, 23] hsel (by kernel_rfl) hf rfl rfl (.inl hS0) ?_
  clear hf a; intro a hf
  refine rN (by kernel_rfl) ?_
  clear hS0 hsel
  refine rR 4 hf rfl ?_
  clear hf a; intro a hf
  have s_hL := hL
  have s_hX := hX
  have s_hY := hY
  refine rD (fun x => x.cell? ⟨pb, po + i * 2, none⟩ = w27.cell? ⟨pb, po + i * 2, none⟩ ∧ x.cell? ⟨pb, po + i * 2 + 1, none⟩ = w27.cell? ⟨pb, po + i * 2 + 1, none⟩) 14 14 rfl (by kernel_rfl) (by kernel_rfl) ?_
  intro w29 hx30 hsel
  replace hL := (hx30.cell lt_pb nm0).trans hL
  replace lt_pb := hx30.lt lt_pb
  replace hX := (hx30.cell lt_pb2 nm0).trans hX
  replace lt_pb2 := hx30.lt lt_pb2
  replace hY := (hx30.cell lt_pb3 nm0).trans hY
  replace lt_pb3 := hx30.lt lt_pb3
  replace hF := hF.t0 hx30
  have hS0 : w29.cell? ⟨pb, po + i * 2, none⟩ = w27.cell? ⟨pb, po + i * 2, none⟩ ∧ w29.cell? ⟨pb, po + i * 2 + 1, none⟩ = w27.cell? ⟨pb, po + i * 2 + 1, none⟩ := ⟨(hL.trans s_hL.symm), (hX.trans s_hX.symm)⟩
  refine dR [0, 1, 2] hsel (by kernel_rfl) hf rfl rfl (.inl hS0) ?_
  clear hf a; intro a hf
  refine dV 3 rfl rfl hsel (by kernel_rfl) hf rfl (.inl hS0) (fun x => ex_index (sz := 2) (k := i) (r := po + i * 2) hf Try.underlying54 (by kernel_rfl) rfl rfl rfl hlt rfl) ?_
  clear hf a; intro a hf
  refine dR [4] hsel (by kernel_rfl) hf rfl rfl (.inl hS0) ?_
  clear hf a; intro a hf
  refine dL 5 rfl rfl hsel (by kernel_rfl) hf rfl hS0 (fun x hS => ex_load hf rfl (by kernel_rfl) (hS.1.trans s_hL)) ?_
  clear hf a; intro a hf
  refine dV 6 rfl rfl hsel (by kernel_rfl) hf rfl (.inl hS0) (fun x => ex_addSR hf rfl rfl (by (try simp only [List.length_append, List.length_cons, List.length_nil]); omega) rfl) ?_
  clear hf a; intro a hf
  refine dR [7, 8] hsel (by kernel_rfl) hf rfl rfl (.inl hS0) ?_
  clear hf a; intro a hf
  refine dV 9 rfl rfl hsel (by kernel_rfl) hf rfl (.inl hS0) (fun x => ex_index (sz := 2) (k := i) (r := po + i * 2) hf Try.underlying54 (by kernel_rfl) rfl rfl rfl hlt rfl) ?_
  clear hf a; intro a hf
  refine dR [10] hsel (by kernel_rfl) hf rfl rfl (.inl hS0) ?_
  clear hf a; intro a hf
  refine dL 11 rfl rfl hsel (by kernel_rfl) hf rfl hS0 (fun x hS => ex_load hf rfl (by kernel_rfl) (hS.2.trans s_hX)) ?_
  clear hf a; intro a hf
  refine dV 12 rfl rfl hsel (by kernel_rfl) hf rfl (.inl hS0) (fun x => ex_addSR hf rfl rfl (by (try simp only [List.length_append, List.length_cons, List.length_nil]); omega) rfl) ?_
  clear hf a; intro a hf
  refine dR [13] hsel (by kernel_rfl) hf rfl rfl (.inl hS0) ?_
  clear hf a; intro a hf
  refine rN (by kernel_rfl) ?_
  clear hS0 hsel
  refine rR 4 hf rfl ?_
  clear hf a; intro a hf
  refine rV hf rfl (ex_addI hf rfl rfl rfl (by omega)) ?_
  clear hf a; intro a hf
  refine rR 2 hf rfl ?_
  clear hf a; intro a hf
  have hfin := hnx
  exact rX ⟨_, (by omega : (pcsT t).length - (i + 1) < (pcsT t).length - i), i + 1, by rw [hfin]; exact hf.pick ⟨rfl, rfl, rfl, trivial⟩, hF, by omega, rfl⟩
  have hal : (pcsT t).take i = pcsT t := List.take_of_length_le (by omega)
  rw [hal] at hf
  replace hE := hE.t0 hF
  refine rR 5 hf rfl ?_
  clear hf a; intro a hf
  refine rV hf rfl (ex_len hf Try.underlying54 rfl) ?_
  clear hf a; intro a hf
  refine rV hf rfl (ex_ltI (c := false) hf rfl rfl (by simp; omega)) ?_
  clear hf a; intro a hf
  refine rR 5 hf rfl ?_
  clear hf a; intro a hf
  refine rO ?_
  refine rR 9 hf rfl ?_
  clear hf a; intro a hf
  exact rT (rs := [.tmp 2]) hf rfl ⟨_, _, rfl, rfl, rfl⟩ ⟨ret_s (by unfold printT; rw [hpb]; exact htx), hE⟩
  refine rC hf rfl rfl (by kernel_rfl) (bool_is (printableR hb hT) hpb) ?_
  rintro _ w31 ⟨rfl, hx7⟩
  refine ⟨_, rfl, ?_⟩
  clear hf a; intro a hf
  replace hB3 := hB3.c0 hx7
  replace hT := hT.t0 hx7
  replace hE := hE.t0 hx7
  refine rR 11 hf rfl ?_
  clear hf a; intro a hf
  exact rT (rs := [.tmp 2]) hf rfl ⟨_, _, rfl, rfl, rfl⟩ ⟨ret_s (by unfold printT; rw [hpb]; rfl), hE⟩
end Go.Proofs.Ythpjpngfghcmcaa
namespace Go.Proofs.Ythpjpngfghcmcaa
open Go.RowKit Lx Sx
set_option maxRecDepth 100000
set_option maxHeartbeats 4000000
theorem printsV {t : Tree} {S : Nat → Prop} {w : World} {c0 c1 c2 c3 : Value} (hb : tbulk t ≤ 2000000) (hT : TreeIs S w t [c0, c1, c2, c3]) : Calls Try.prog 4 [.agg #[c0, c1, c2, c3]].toArray w fun e w' => e = .returned (.bool true) ∧ Ext w w' := by
  replace hb : tbulk t ≤ 2000000 ∧ tbulk t ≤ 1000000000 := ⟨hb, by omega⟩
  obtain ⟨hb0, hb⟩ := hb
  obtain ⟨hi0, ehi0⟩ : ∃ x, x = w.heap.size := ⟨_, rfl⟩
  replace hT := hT.keepB (S' := fun b => b < hi0) (fun b _ hb => by omega) (fun _ _ _ => rfl)
  obtain ⟨A0, m1, B0, m2, hc⟩ := hT.cellsR
  simp only [List.cons.injEq, and_true] at hc
  obtain ⟨rfl, rfl, rfl, rfl⟩ := hc
  refine rE 15 Try.func4 rfl rfl rfl ?_
  intro a hf
  have hE := Chg.refl [] w
  refine rR 2 hf rfl fun a hf => ?_
  obtain ⟨w1, b2, he, hB3, hx4, eb5, lb6⟩ := ef_box (P := Try.prog) (t := 26) (x := (.tmp 0)) hf rfl rfl w 0
  refine rV hf rfl he fun a hf => ?_
  have ge_b2 := ge_new hE eb5
  replace hT := hT.t0 hx4
  replace hE := hE.t0 hx4
  clear eb5 lb6
  refine rR 6 hf rfl fun a hf => rV hf rfl (ex_loadBN (m := 4) hf rfl (by kernel_rfl) hB3 rfl) fun a hf => rC hf rfl rfl (by kernel_rfl) (sizeR _ _ _ _ _ _ _ _ (Nat.le_refl _) hb hT) ?_
  rintro _ w8 ⟨rfl, hx7⟩
  refine ⟨_, rfl, fun a hf => ?_⟩
  replace hB3 := hB3.c0 hx7
  replace hT := hT.t0 hx7
  replace hE := hE.t0 hx7
  refine rB hf rfl (fun c hc => ex_gtI hf rfl rfl hc) ?_ ?_
  clear hf a; intro h5 a hf
  refine rR 5 hf rfl fun a hf => rC hf rfl rfl (by kernel_rfl) (awakeV) ?_
  rintro _ w10 ⟨rfl, hx9⟩
  refine ⟨_, rfl, fun a hf => ?_⟩
  replace hB3 := hB3.c0 hx9
  replace hT := hT.t0 hx9
  replace hE := hE.t0 hx9
  refine rR 5 hf rfl fun a hf => ?_
  exact rT (rs := [.tmp 2]) hf rfl ⟨_, _, rfl, rfl, rfl⟩ ⟨rfl, hE.ext⟩
  clear hf a; intro h5 a hf
  refine rR 6 hf rfl fun a hf => ?_
  have s_hB3 := hB3
  refine rD (fun x => x.cell? ⟨b2, 0, none⟩ = w8.cell? ⟨b2, 0, none⟩ ∧ x.cell? ⟨b2, 1, none⟩ = w8.cell? ⟨b2, 1, none⟩ ∧ x.cell? ⟨b2, 2, none⟩ = w8.cell? ⟨b2, 2, none⟩ ∧ x.cell? ⟨b2, 3, none⟩ = w8.cell? ⟨b2, 3, none⟩) 9 9 rfl (by kernel_rfl) (by kernel_rfl) ?_
  intro w11 hx12 hsel
  replace hB3 := hB3.c0 hx12
  replace hT := hT.t0 hx12
  replace hE := hE.t0 hx12
  have hS0 : w11.cell? ⟨b2, 0, none⟩ = w8.cell? ⟨b2, 0, none⟩ ∧ w11.cell? ⟨b2, 1, none⟩ = w8.cell? ⟨b2, 1, none⟩ ∧ w11.cell? ⟨b2, 2, none⟩ = w8.cell? ⟨b2, 2, none⟩ ∧ w11.cell? ⟨b2, 3, none⟩ = w8.cell? ⟨b2, 3, none⟩ := ⟨(hB3.cell 0).trans (s_hB3.cell 0).symm, (hB3.cell 1).trans (s_hB3.cell 1).symm, (hB3.cell 2).trans (s_hB3.cell 2).symm, (hB3.cell 3).trans (s_hB3.cell 3).symm⟩
  refine dl_c 0 (by kernel_rfl) rfl hf rfl rfl rfl (by kernel_rfl) (awakeV) ?_
  rintro _ w14 ⟨rfl, hx13⟩
  refine ⟨_, rfl, fun a hf => ?_⟩
  replace hB3 := hB3.c0 hx13
  replace hT := hT.t0 hx13
  replace hE := hE.t0 hx13
  clear hS0
  have hS0 : w14.cell? ⟨b2, 0, none⟩ = w8.cell? ⟨b2, 0, none⟩ ∧ w14.cell? ⟨b2, 1, none⟩ = w8.cell? ⟨b2, 1, none⟩ ∧ w14.cell? ⟨b2, 2, none⟩ = w8.cell? ⟨b2, 2, none⟩ ∧ w14.cell? ⟨b2, 3, none⟩ = w8.cell? ⟨b2, 3, none⟩ := ⟨(hB3.cell 0).trans (s_hB3.cell 0).symm, (hB3.cell 1).trans (s_hB3.cell 1).symm, (hB3.cell 2).trans (s_hB3.cell 2).symm, (hB3.cell 3).trans (s_hB3.cell 3).symm⟩
  refine ⟨.inl hS0, ?_⟩
  refine dR [1] hsel (by kernel_rfl) hf rfl rfl (.inl hS0) fun a hf => dL 2 rfl rfl hsel (by kernel_rfl) hf rfl hS0 (fun x hS => ex_loadX4 hf rfl (by kernel_rfl) s_hB3 rfl hS.1 hS.2.1 hS.2.2.1 hS.2.2.2) fun a hf => dL 4 rfl rfl hsel (by kernel_rfl) hf rfl hS0 (fun x hS => ex_loadX4 hf rfl (by kernel_rfl) s_hB3 rfl hS.1 hS.2.1 hS.2.2.1 hS.2.2.2) fun a hf => dl_c 3 (by kernel_rfl) rfl hf rfl rfl rfl (by kernel_rfl) (printL hb hT) ?_
  rintro _ w16 ⟨rfl, hx15⟩
  refine ⟨_, rfl, fun a hf => ?_⟩
  replace hB3 := hB3.c0 hx15
  replace hT := hT.t0 hx15
  replace hE := hE.t0 hx15
  clear hS0
  have hS0 : w16.cell? ⟨b2, 0, none⟩ = w8.cell? ⟨b2, 0, none⟩ ∧ w16.cell? ⟨b2, 1, none⟩ = w8.cell? ⟨b2, 1, none⟩ ∧ w16.cell? ⟨b2, 2, none⟩ = w8.cell? ⟨b2, 2, none⟩ ∧ w16.cell? ⟨b2, 3, none⟩ = w8.cell? ⟨b2, 3, none⟩ := ⟨(hB3.cell 0).trans (s_hB3.cell 0).symm, (hB3.cell 1).trans (s_hB3.cell 1).symm, (hB3.cell 2).trans (s_hB3.cell 2).symm, (hB3.cell 3).trans (s_hB3.cell 3).symm⟩
  refine ⟨.inl hS0, ?_⟩
  refine dl_c 5 (by kernel_rfl) rfl hf rfl rfl rfl (by kernel_rfl) (printR hb0 hT) ?_
  rintro _ w18 ⟨rfl, hx17⟩
  refine ⟨_, rfl, fun a hf => ?_⟩
  replace hB3 := hB3.c0 hx17
  replace hT := hT.t0 hx17
  replace hE := hE.t0 hx17
  clear hS0
  have hS0 : w18.cell? ⟨b2, 0, none⟩ = w8.cell? ⟨b2, 0, none⟩ ∧ w18.cell? ⟨b2, 1, none⟩ = w8.cell? ⟨b2, 1, none⟩ ∧ w18.cell? ⟨b2, 2, none⟩ = w8.cell? ⟨b2, 2, none⟩ ∧ w18.cell? ⟨b2, 3, none⟩ = w8.cell? ⟨b2, 3, none⟩ := ⟨(hB3.cell 0).trans (s_hB3.cell 0).symm, (hB3.cell 1).trans (s_hB3.cell 1).symm, (hB3.cell 2).trans (s_hB3.cell 2).symm, (hB3.cell 3).trans (s_hB3.cell 3).symm⟩
  refine ⟨.inl hS0, ?_⟩
  refine dV 6 rfl rfl hsel (by kernel_rfl) hf rfl (.inl hS0) (fun x => ex_eqS (c := true) hf rfl rfl (by simp)) fun a hf => dR [7, 8] hsel (by kernel_rfl) hf rfl rfl (.inl hS0) fun a hf => rN (by kernel_rfl) ?_
  clear hS0 hsel
  refine rR 2 hf rfl fun a hf => ?_
  exact rT (rs := [.tmp 2]) hf rfl ⟨_, _, rfl, rfl, rfl⟩ ⟨rfl, hE.ext⟩
end Go.Proofs.Ythpjpngfghcmcaa
namespace Go.Proofs.Ythpjpngfghcmcaa
open Go.RowKit Lx Sx Go.ChangeShapes Go.WideShapes Go.Deep Go.Joins
instance : Inhabited Tree := ⟨zeroTree⟩
theorem cellsTreeO : Try.prog.cellsOf 26 = 4 := by kernel_rfl
theorem cellsIntT : Try.prog.cellsOf 3 = 1 := by kernel_rfl
theorem cellsStrT : Try.prog.cellsOf 9 = 1 := by kernel_rfl
theorem cellsSlS : Try.prog.cellsOf 23 = 1 := by kernel_rfl
theorem cellsSlT : Try.prog.cellsOf 24 = 1 := by kernel_rfl
theorem list_four {α : Type} {l : List α} (h : l.length = 4) : ∃ a b c d, l = [a, b, c, d] := by
  match l, h with
  | [a, b, c, d], _ => exact ⟨a, b, c, d, rfl⟩
theorem flat_at {α : Type} {c : Nat → List α} : ∀ (l : List Nat) (i r : Nat), (∀ j ∈ l, (c j).length = 4) → r < 4 → (l.flatMap c)[i * 4 + r]? = (l[i]?).bind fun j => (c j)[r]?
  | [], i, r, _, _ => by simp
  | j :: l, 0, r, h, hr => by
    have := h j (by simp)
    rw [List.flatMap_cons, List.getElem?_append_left (by omega)]; simp
  | j :: l, i + 1, r, h, hr => by
    have h4 := h j (by simp)
    rw [List.flatMap_cons, List.getElem?_append_right (by omega), show (i + 1) * 4 + r - (c j).length = i * 4 + r by omega, flat_at l i r (fun q hq => h q (by simp [hq])) hr]; simp
theorem agg_four {v a b c d : Value} (h : v.cells = #[a, b, c, d]) : v = .agg #[a, b, c, d] := by
  cases v <;> simp_all [Value.cells]
section
variable {H : Type} {enc : TypeId × Value → H} {W : World}
theorem addr_at (b off k : Nat) : (⟨b, off, none⟩ : Addr).add k = ⟨b, off + k, none⟩ := by unfold Addr.add; split <;> simp_all
theorem kbulk_map {g : Nat → Tree} {D : Nat → DataW H} : ∀ (l : List Nat), (∀ i ∈ l, tbulk (g i) ≤ Rows.uptoBulk (D i)) → kbulk (l.map g) ≤ Rows.uptoBulkAll (l.map D)
  | [], _ => by simp [kbulk, Rows.uptoBulkAll]
  | i :: l, h => by
    have := kbulk_map l (fun j hj => h j (by simp [hj]))
    have := h i (by simp)
    simp only [List.map_cons, kbulk, Rows.uptoBulkAll]; omega
theorem lsum_map {g : Nat → List UInt8} {D : Nat → DataW H} : ∀ (l : List Nat), (∀ i ∈ l, D i = .lit (.string (g i))) → lsum (l.map g) ≤ Rows.uptoBulkAll (l.map D)
  | [], _ => by simp [lsum, Rows.uptoBulkAll]
  | i :: l, h => by
    have := lsum_map l (fun j hj => h j (by simp [hj]))
    have := h i (by simp)
    simp only [List.map_cons, lsum, Rows.uptoBulkAll, this, Rows.uptoBulk]; omega
theorem kids_map {g : Nat → Tree} {c : Nat → List Value} : ∀ (l : List Nat), (∀ i ∈ l, TreeIs Any W (g i) (c i)) → KidsAre Any W (l.map g) (l.flatMap c)
  | [], _ => rfl
  | i :: l, h => by
    simp only [List.map_cons, List.flatMap_cons, KidsAre]
    exact ⟨c i, l.flatMap c, rfl, h i (by simp), kids_map l (fun j hj => h j (by simp [hj]))⟩
theorem strs_of {n : Nat} {v : Value} {x : DataW H × List MemPlace} (h : DataW.trod enc Try.prog W 0 (fun _ => true) true n 23 [v] = some x) :
    ∃ (ls : List (List UInt8)) (A : Option Addr) (m : Nat), v = .slice A ls.length m ∧ ls.length ≤ m ∧ m ≤ maxLen ∧ RowIn Any W 1 A ls.length (ls.map strV) ∧ lsum ls ≤ Rows.uptoBulk x.1 := by
  rcases open_slice Try.underlying23 h with ⟨hcs, hx⟩ | ⟨a, len, cap, m, n', D, Pl, hcs, hb, hl, hm, hmm, hx, hi⟩
  · simp only [List.cons.injEq, and_true] at hcs
    exact ⟨[], none, 0, hcs, Nat.le_refl _, by simp [maxLen], RowIn.none_, by simp [lsum]⟩
  · simp only [List.cons.injEq, and_true] at hcs
    simp only [if_true] at hmm
    subst hmm hcs
    rw [cellsStrT] at hi
    obtain ⟨T, hT⟩ := choose_lt (α := List UInt8) (p := fun i t => W.cell? (a.add i) = some (strV t) ∧ D i = .lit (.string t)) (n := m) (fun i him => by
      obtain ⟨cs', hc, ht⟩ := hi i him
      obtain ⟨s, e1, f1, _⟩ := DataW.trod_string Try.underlying9 ht
      subst e1
      refine ⟨s.data.toList, ?_, by have := congrArg Prod.fst f1; simpa using this⟩
      have := (World.cells?_some hc).2.2 0 (by omega)
      simpa [Addr.add] using this)
    refine ⟨(List.range len).map T, some a, m, by simp, by simpa using hl, hm, ⟨by simp, fun h0 => ?_⟩, ?_⟩
    · simp only [List.length_map, List.length_range] at h0 ⊢
      have hs : a.spot = none := World.cell?_spot (a := a) (by have := (hT 0 (by omega)).1; simpa [Addr.add] using this)
      obtain ⟨b, off, spot⟩ := a
      simp only at hs
      subst hs
      refine ⟨b, off, rfl, trivial, ?_, fun j hj => ?_⟩
      · have := (hT 0 (by omega)).1
        exact World.block_lt_of_cell? W ⟨b, off, none⟩ (by simpa [Addr.add] using this)
      · have := (hT j (by omega)).1
        rw [addr_at] at this
        rw [this]; simp [show j < len by omega]
    · rw [hx]
      have := lsum_map (g := T) (D := D) (List.range len) (fun i hi' => (hT i (by have := List.mem_range.1 hi'; omega)).2)
      simp only [Rows.uptoBulk]; omega
theorem tree_of : ∀ (q n : Nat) (cs : List Value) (x : DataW H × List MemPlace), Rows.uptoBulk x.1 ≤ q → DataW.trod enc Try.prog W 0 (fun _ => true) true n 26 cs = some x → ∃ t, TreeIs Any W t cs ∧ tbulk t ≤ Rows.uptoBulk x.1
  | q, n, cs, x, hq, h => by
    obtain ⟨y0, y1, y2, y3, n', hx, hl, h0, h1, h2, h3⟩ := trod_struct4 Try.underlying26 h
    rw [cellsTreeO] at hl
    obtain ⟨v0, v1, v2, v3, rfl⟩ := list_four hl
    simp only [cellsIntT, cellsStrT, cellsSlS, cellsSlT, List.drop_zero, List.drop_succ_cons, List.take_succ_cons, List.take_zero] at h0 h1 h2 h3
    obtain ⟨k, e0, f0, _⟩ := DataW.trod_int Try.underlying3 h0
    obtain ⟨s1, e1, f1, _⟩ := DataW.trod_string Try.underlying9 h1
    obtain ⟨ls, A, m, e2, l1, l2, l3, l4⟩ := strs_of h2
    simp only [List.cons.injEq, and_true] at e0 e1
    have hbk : Rows.uptoBulk x.1 = Rows.uptoBulk y0.1 + (Rows.uptoBulk y1.1 + (Rows.uptoBulk y2.1 + (Rows.uptoBulk y3.1 + 0))) + 1 := by rw [hx]; simp only [Rows.uptoBulk, Rows.uptoBulkAll]
    have hs1 : Rows.uptoBulk y1.1 = s1.data.toList.length + 1 := by
      have : y1.1 = .lit (.string s1.data.toList) := by rw [f1]
      rw [this]; rfl
    have go : ∃ (ks : List Tree) (B : Option Addr) (c : Nat) (cells : List Value), v3 = .slice B ks.length c ∧ ks.length ≤ c ∧ c ≤ maxLen ∧ KidsAre Any W ks cells ∧ RowIn Any W 4 B ks.length cells ∧ kbulk ks ≤ Rows.uptoBulk y3.1 := by
      rcases open_slice Try.underlying24 h3 with ⟨hcs, hx3⟩ | ⟨a, len, cap, m3, n3, D, Pl, hcs, hb, hl3, hm3, hmm, hx3, hi⟩
      · simp only [List.cons.injEq, and_true] at hcs
        exact ⟨[], none, 0, [], hcs, Nat.le_refl _, by simp [maxLen], rfl, RowIn.none_, by simp [kbulk]⟩
      · simp only [List.cons.injEq, and_true] at hcs
        simp only [if_true] at hmm
        subst hmm hcs
        rw [cellsTreeO] at hi
        have hall : Rows.uptoBulk y3.1 = Rows.uptoBulkAll ((List.range len).map D) + Rows.uptoBulkAll ((List.range (m3 - len)).map fun j => D (len + j)) + 1 := by rw [hx3]; simp only [Rows.uptoBulk]
        have hle : ∀ (l : List Nat) i, i ∈ l → Rows.uptoBulk (D i) ≤ Rows.uptoBulkAll (l.map D) := by
          intro l i hi'
          induction l with
          | nil => cases hi'
          | cons j r ih =>
            simp only [List.map_cons, Rows.uptoBulkAll]
            rcases List.mem_cons.1 hi' with e | e
            · subst e; omega
            · have := ih e; omega
        obtain ⟨T, hT⟩ := choose_lt (α := Tree × List Value) (p := fun i t => i < len → W.cells? 0 (a.add (i * 4)) 4 = some t.2 ∧ TreeIs Any W t.1 t.2 ∧ tbulk t.1 ≤ Rows.uptoBulk (D i)) (n := m3) (fun i him => by
          by_cases hil : i < len
          · obtain ⟨cs', hc, ht⟩ := hi i him
            have hb1 := hle (List.range len) i (by simp [hil])
            obtain ⟨t, g1, g2⟩ := tree_of (q - 1) n3 cs' (D i, Pl i) (by simp only; omega) ht
            exact ⟨(t, cs'), fun _ => ⟨hc, g1, g2⟩⟩
          · exact ⟨(zeroTree, []), fun h => absurd h hil⟩)
        have hTl : ∀ i, i ∈ List.range len → W.cells? 0 (a.add (i * 4)) 4 = some (T i).2 ∧ TreeIs Any W (T i).1 (T i).2 ∧ tbulk (T i).1 ≤ Rows.uptoBulk (D i) := fun i hi' => by
          have := List.mem_range.1 hi'
          exact hT i (by omega) this
        refine ⟨(List.range len).map fun i => (T i).1, some a, m3, (List.range len).flatMap fun i => (T i).2, by simp, by simpa using hl3, hm3, kids_map _ (fun i hi' => (hTl i hi').2.1), ⟨?_, fun h0 => ?_⟩, ?_⟩
        · have := (kids_map (W := W) (g := fun i => (T i).1) (c := fun i => (T i).2) (List.range len) (fun i hi' => (hTl i hi').2.1)).length
          rw [this]
        · simp only [List.length_map, List.length_range] at h0 ⊢
          have hcell : ∀ i, i < len → ∀ r, r < 4 → W.cell? ((a.add (i * 4)).add r) = (T i).2[r]? := fun i hi' r hr => by
            have h4 := (hTl i (by simp [hi'])).2.1.four
            have := (World.cells?_some (hTl i (by simp [hi'])).1).2.2 r (by omega)
            rw [this]
          have hsome : ∃ v, W.cell? a = some v := by
            have h4 := (hTl 0 (by simp [h0])).2.1.four
            have := hcell 0 h0 0 (by omega)
            refine ⟨(T 0).2[0]'(by omega), ?_⟩
            rw [List.getElem?_eq_getElem (by omega)] at this
            simpa [Addr.add] using this
          obtain ⟨vv, hvv⟩ := hsome
          have hs : a.spot = none := World.cell?_spot (a := a) hvv
          obtain ⟨b, off, spot⟩ := a
          simp only at hs
          subst hs
          refine ⟨b, off, rfl, trivial, World.block_lt_of_cell? W ⟨b, off, none⟩ hvv, fun j hj => ?_⟩
          have e := hcell (j / 4) (by omega) (j % 4) (by omega)
          rw [addr_at, addr_at, show off + j / 4 * 4 + j % 4 = off + j by omega] at e
          have e2 := flat_at (c := fun i => (T i).2) (List.range len) (j / 4) (j % 4) (fun i hi' => (hTl i hi').2.1.four) (by omega)
          rw [show j / 4 * 4 + j % 4 = j by omega] at e2
          rw [e, e2]; simp [show j / 4 < len by omega]
        · have := kbulk_map (g := fun i => (T i).1) (D := D) (List.range len) (fun i hi' => (hTl i hi').2.2)
          omega
    obtain ⟨ks, B, c, cells, e3, k1, k2, k3, k4, k5⟩ := go
    refine ⟨.node k s1.data.toList ls ks, ?_, ?_⟩
    · subst e0 e1 e2 e3
      simp only [TreeIs]
      exact ⟨A, m, B, c, by simp, l1, l2, k1, k2, l3, cells, k3, k4⟩
    · simp only [tbulk]
      omega
  termination_by q => q
  decreasing_by omega
theorem open_tree {v : Value} {d : DataW H} {p : List MemPlace} (h : DataW.Trod enc Try.prog W 0 (fun _ => true) true 26 v d p) : ∃ t c0 c1 c2 c3, v.cells = #[c0, c1, c2, c3] ∧ TreeIs Any W t [c0, c1, c2, c3] ∧ tbulk t ≤ Rows.uptoBulk d := by
  obtain ⟨fuel, hf⟩ := h
  obtain ⟨t, h1, h2⟩ := tree_of _ fuel _ _ (Nat.le_refl _) hf
  have h4 := h1.four
  obtain ⟨c0, c1, c2, c3, e⟩ := list_four h4
  refine ⟨t, c0, c1, c2, c3, ?_, e ▸ h1, h2⟩
  apply Array.ext'
  simpa using e
end
end Go.Proofs.Ythpjpngfghcmcaa
