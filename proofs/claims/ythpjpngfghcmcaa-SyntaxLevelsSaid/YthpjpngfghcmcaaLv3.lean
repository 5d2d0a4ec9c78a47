/- Contracts of the functions that the law reaches, part 3. -/
import Derived.Test.YthpjpngfghcmcaaLv2
set_option linter.unusedVariables false
set_option linter.unusedSimpArgs false
namespace Go.Proofs.Ythpjpngfghcmcaa
open Go.RowKit Lx Sx
set_option maxRecDepth 100000
set_option maxHeartbeats 4000000
structure CommaAt (w0 : World) (H p b2 bt : Nat) (k : Int) (tx : List UInt8) (l0 cs : List (List UInt8)) (ks : List Tree) (s : PS) (lg lcap kg kcap : Nat) (cc : List Value) (w : World) : Prop where
  hP : PAt H w p s
  hE : Chg [p] w0 w
  hB2 : Blk w b2 26 [.int .i64 0, strV [], .slice none 0 0, .slice none 0 0]
  hBT : Blk w bt 26 [.int .i64 k, strV tx, .slice (some ⟨lg, 0, none⟩) (l0 ++ cs).length lcap, .slice (some ⟨kg, 0, none⟩) ks.length kcap]
  hOL : w.ownsRow w0.heap.size 9 1 (.slice (some ⟨lg, 0, none⟩) (l0 ++ cs).length lcap) (l0 ++ cs).length ((l0 ++ cs).map strV)
  hOK : w.ownsRow w0.heap.size 26 4 (.slice (some ⟨kg, 0, none⟩) ks.length kcap) ks.length cc
  hKT : KidsAre (fun b => w0.heap.size ≤ b ∧ b ≠ b2 ∧ b ≠ bt ∧ b ≠ lg ∧ b ≠ kg) w ks cc
  ge_b2 : w0.heap.size ≤ b2
  ge_bt : w0.heap.size ≤ bt
  lt_p : p < w0.heap.size
  ne_b2_bt : b2 ≠ bt
  ne_b2_lg : b2 ≠ lg
  ne_b2_kg : b2 ≠ kg
  ne_bt_lg : bt ≠ lg
  ne_bt_kg : bt ≠ kg
  ne_lg_kg : lg ≠ kg
theorem commaF_step {item : PS → Tree × PS} {most : Nat} {beg : Tok → Bool} {F : Nat} {cs : List (List UInt8)} {ks : List Tree} {s s2 : PS} (h : (pNext s).text = [44]) (h2 : (if ks.length = most ∧ beg (pNext (pTake s)) = true then pFail 3 (pTake s) else pTake s) = s2) :
    commaF item most beg (F + 1) cs ks s = commaF item most beg F (cs ++ [(pNext s).lead]) (ks ++ [(item s2).1]) (item s2).2 := by
  rw [commaF, if_pos h]; simp only [h2]
theorem commaF_stop {item : PS → Tree × PS} {most : Nat} {beg : Tok → Bool} {F : Nat} {cs : List (List UInt8)} {ks : List Tree} {s : PS} (h : ¬ (pNext s).text = [44]) : commaF item most beg F cs ks s = (cs, ks, s) := by
  cases F with
  | zero => rfl
  | succ F => rw [commaF, if_neg h]
theorem listL {H p n : Nat} {s : PS} {w : World} (ih : ExprOk n) (hP : PAt H w p s) (hn : s.toks.length < n + 1) (h : (pNext s).text = [91]) : Calls Try.prog 118 [.pointer (some ⟨p, 0, none⟩)].toArray w (TreePost w H p s (listF (exprT n) s)) := by
  obtain ⟨t, r, hs, hnx⟩ := pNext_cons (s := s) (.inl (by rw [h]; decide))
  have htl := pTake_lt hs
  have hw1 : (pWord [91] s).2 = pTake s := by unfold pWord; rw [if_pos h]
  have hw2 : (pWord [91] s).2.toks.length < n := by rw [hw1]; omega
  refine enter_fr 54 Try.func118 rfl rfl rfl ?_
  intro a hf
  have hE := Chg.refl [p] w
  have hL := Nat.le_refl s.toks.length
  have lt_p := hP.lt
  refine wS fun K1 hK1 => wR ?_
  obtain ⟨w2, b3, he, hB4, hx5, eb6, lb7⟩ := eT a w 0
  refine sV hf rfl he fun a hf => ?_
  have ne_p_b3 : p ≠ b3 := ne_new hP.lt eb6
  have ge_b3 := ge_new hE eb6
  have hH_b3 : H ≤ b3 := by have := hP.le; have := hP.lt; omega
  replace hP := hP.chg hx5 all0
  replace hE := hE.t0 hx5
  clear eb6 lb7
  refine sN <| hK1 _ _ <| wS fun K8 hK8 => wR ?_
  obtain ⟨w9, b10, he, hB11, hx12, eb13, lb14⟩ := ef_make (P := Try.prog) (m := 2) (x := (.const (.int .i64 2))) (y := (.const (.int .i64 2))) (z := .string ⟨([] : List UInt8).toArray⟩) (sz := 1) (by_ := 16) (cs := [.string ⟨([] : List UInt8).toArray⟩, .string ⟨([] : List UInt8).toArray⟩]) hf rfl rfl Try.underlying23 (by kernel_rfl) (by kernel_rfl) (by kernel_rfl) (by kernel_rfl) w2 23
  refine sV hf rfl he fun a hf => ?_
  have ne_b3_b10 : b3 ≠ b10 := ne_new hB4.lt eb13
  have ne_p_b10 : p ≠ b10 := ne_new hP.lt eb13
  have ge_b10 := ge_new hE eb13
  have hH_b10 : H ≤ b10 := by have := hP.le; have := hP.lt; omega
  replace hB4 := hB4.c0 hx12
  replace hP := hP.chg hx12 all0
  replace hE := hE.t0 hx12
  clear eb13 lb14
  refine sV hf rfl (ex_bd (ps := [(0, (.const (.int .i64 18))), (2, (.tmp 4))]) (z := zT) (os := [0, 2]) hf rfl (by kernel_rfl) (by kernel_rfl) (by kernel_rfl) rfl rfl) fun a hf => ?_
  obtain ⟨w15, b16, he, hB17, hx18, eb19, lb20⟩ := eT a w9 0
  refine sV hf rfl he fun a hf => ?_
  have ne_b3_b16 : b3 ≠ b16 := ne_new hB4.lt eb19
  have ne_b10_b16 : b10 ≠ b16 := ne_new hB11.lt eb19
  have ne_p_b16 : p ≠ b16 := ne_new hP.lt eb19
  have ge_b16 := ge_new hE eb19
  have hH_b16 : H ≤ b16 := by have := hP.le; have := hP.lt; omega
  replace hB4 := hB4.c0 hx18
  replace hB11 := hB11.c0 hx18
  replace hP := hP.chg hx18 all0
  replace hE := hE.t0 hx18
  clear eb19 lb20
  obtain ⟨w21, he, hB22, hx23⟩ := eN (.tmp 3) (.tmp 5) hf rfl rfl rfl rfl hB17 rfl 0
  refine st_s hf rfl rfl he fun a hf => ?_
  replace hB4 := hB4.chg hx23 (nmc ne_b3_b16 nm0)
  replace hB11 := hB11.chg hx23 (nmc ne_b10_b16 nm0)
  replace hP := hP.chg hx23 (allc ⟨hH_b16, ne_p_b16⟩ all0)
  replace hE := hE.trans hx23 (allc (.inr ge_b16) all0)
  clear hB17
  refine sN <| hK8 _ _ <| wS fun K24 hK24 => ?_
  have s_hB22 := hB22
  refine dl_start (fun x => x.cell? ⟨b16, 2, none⟩ = w21.cell? ⟨b16, 2, none⟩) 6 6 rfl (by kernel_rfl) (by kernel_rfl) ?_
  intro w25 hx26 hsel
  replace hB4 := hB4.c0 hx26
  replace hB11 := hB11.c0 hx26
  replace hB22 := hB22.c0 hx26
  replace hP := hP.chg hx26 all0
  replace hE := hE.t0 hx26
  have hS0 := hB22.same s_hB22 2
  refine dV 0 rfl rfl hsel (by kernel_rfl) hf rfl (.inl hS0) (fun x => ex_fa (k := 2) (r := 2) hf rfl (by kernel_rfl) rfl) fun a hf => dL 1 rfl rfl hsel (by kernel_rfl) hf rfl hS0 (fun x hS => ex_load hf rfl (by kernel_rfl) (hS.trans ((s_hB22.cell 2).trans rfl))) fun a hf => dM 2 rfl rfl hsel (by kernel_rfl) hf rfl hS0 rfl fun a hf => dl_c 3 (by kernel_rfl) rfl hf rfl rfl rfl (by kernel_rfl) (pWordL (x := [91]) hP (by decide)) ?_
  rintro _ w28 ⟨rfl, hP, hx27⟩
  refine ⟨_, rfl, fun a hf => ?_⟩
  replace hB4 := hB4.chg hx27 (nmc (Ne.symm ne_p_b3) nm0)
  replace hB11 := hB11.chg hx27 (nmc (Ne.symm ne_p_b10) nm0)
  replace hB22 := hB22.chg hx27 (nmc (Ne.symm ne_p_b16) nm0)
  replace hE := hE.trans hx27 (allc (.inl (by simp)) all0)
  replace hL := nlt (pWord_len [91] _) hL
  clear hS0
  have hS0 := hB22.same s_hB22 2
  refine ⟨.inl hS0, ?_⟩
  refine dV 4 rfl rfl hsel (by kernel_rfl) hf rfl (.inl hS0) (fun x => ex_index (sz := 1) (k := 0) (r := 0) hf Try.underlying23 (by kernel_rfl) rfl rfl rfl (by first | decide | simp) rfl) fun a hf => ?_
  obtain ⟨w29, he, hB30, hx31⟩ := ef_store (P := Try.prog) (t := 9) (x := (.tmp 10)) (y := (.tmp 9)) hf rfl rfl (by kernel_rfl) rfl hB11 (Nat.le_of_ble_eq_true rfl) 0
  refine dl_s 5 (by kernel_rfl) rfl hf rfl rfl he fun a hf => ?_
  replace hB4 := hB4.chg hx31 (nmc ne_b3_b10 nm0)
  replace hB22 := hB22.chg hx31 (nmc (Ne.symm ne_b10_b16) nm0)
  replace hP := hP.chg hx31 (allc ⟨hH_b10, ne_p_b10⟩ all0)
  replace hE := hE.trans hx31 (allc (.inr ge_b10) all0)
  clear hB11
  clear hS0
  have hS0 := hB22.same s_hB22 2
  refine ⟨.inl hS0, ?_⟩
  refine dl_done (by kernel_rfl) ?_
  clear hS0 hsel
  refine hK24 _ _ <| wS fun K32 hK32 => ?_
  have s_hB22 := hB22
  refine dl_start (fun x => x.cell? ⟨b16, 3, none⟩ = w29.cell? ⟨b16, 3, none⟩) 7 8 rfl (by kernel_rfl) (by kernel_rfl) ?_
  intro w33 hx34 hsel
  replace hB4 := hB4.c0 hx34
  replace hB30 := hB30.c0 hx34
  replace hB22 := hB22.c0 hx34
  replace hP := hP.chg hx34 all0
  replace hE := hE.t0 hx34
  have hS0 := hB22.same s_hB22 3
  refine dV 0 rfl rfl hsel (by kernel_rfl) hf rfl (.inl hS0) (fun x => ex_fa (k := 3) (r := 3) hf rfl (by kernel_rfl) rfl) fun a hf => dL 1 rfl rfl hsel (by kernel_rfl) hf rfl hS0 (fun x hS => ex_load hf rfl (by kernel_rfl) (hS.trans ((s_hB22.cell 3).trans rfl))) fun a hf => dM 2 rfl rfl hsel (by kernel_rfl) hf rfl hS0 rfl fun a hf => ?_
  have plt35 := hP.lt
  refine dl_c 3 (by kernel_rfl) rfl hf rfl rfl rfl (by kernel_rfl) (ih _ _ _ _ hP (by omega)) ?_
  rintro _ w36 ⟨c35_0, c35_1, c35_2, c35_3, rfl, hT35, hP, hx35, hl35⟩
  refine ⟨_, rfl, fun a hf => ?_⟩
  obtain ⟨lo37, elo37⟩ : ∃ x, x = w33.heap.size := ⟨_, rfl⟩
  obtain ⟨hi37, ehi37⟩ : ∃ x, x = w36.heap.size := ⟨_, rfl⟩
  replace hT35 := hT35.within elo37 ehi37
  have hle37 : hi37 ≤ w36.heap.size := Nat.le_of_eq ehi37
  have ge_lo37 : w.heap.size ≤ lo37 := elo37 ▸ hE.size
  have tb_lo37_b3 : b3 < lo37 := elo37 ▸ hB4.lt
  have tb_lo37_b10 : b10 < lo37 := elo37 ▸ hB30.lt
  have tb_lo37_b16 : b16 < lo37 := elo37 ▸ hB22.lt
  have tb_lo37_p : p < lo37 := elo37 ▸ plt35
  clear elo37 ehi37
  clear plt35
  have on_hT35 := hT35.one
  replace hB4 := hB4.chg hx35 (nmc (Ne.symm ne_p_b3) nm0)
  replace hB30 := hB30.chg hx35 (nmc (Ne.symm ne_p_b10) nm0)
  replace hB22 := hB22.chg hx35 (nmc (Ne.symm ne_p_b16) nm0)
  replace hE := hE.trans hx35 (allc (.inl (by simp)) all0)
  replace hL := nlt hl35 hL
  clear hS0
  have hS0 := hB22.same s_hB22 3
  refine ⟨.inl hS0, ?_⟩
  obtain ⟨w38, b39, he, hB40, hx41, eb42, lb43⟩ := ef_bslice (P := Try.prog) (ps := [(0, (.tmp 14))]) (m := 1) (sz := 4) (z := zT) hf rfl Try.underlying24 (by kernel_rfl) (by kernel_rfl) rfl rfl (by kernel_rfl) rfl w36 24
  refine dl_e 4 (by kernel_rfl) rfl hf rfl rfl he fun a hf => ?_
  have ne_b3_b39 : b3 ≠ b39 := ne_new hB4.lt eb42
  have ne_b10_b39 : b10 ≠ b39 := ne_new hB30.lt eb42
  have ne_b16_b39 : b16 ≠ b39 := ne_new hB22.lt eb42
  have ne_p_b39 : p ≠ b39 := ne_new hP.lt eb42
  have ta_hi37_b39 : hi37 ≤ b39 := eb42 ▸ hle37
  have ge_b39 := ge_new hE eb42
  have hH_b39 : H ≤ b39 := by have := hP.le; have := hP.lt; omega
  replace hB4 := hB4.c0 hx41
  replace hB30 := hB30.c0 hx41
  replace hB22 := hB22.c0 hx41
  replace hP := hP.chg hx41 all0
  replace hT35 := hT35.chg hx41 (fun b hb _ => nm0)
  replace hle37 := nlt hle37 hx41.size
  replace hE := hE.t0 hx41
  clear eb42 lb43
  clear hS0
  have hS0 := hB22.same s_hB22 3
  refine ⟨.inl hS0, ?_⟩
  obtain ⟨g45, cap46, w44, he, hO47, hx48, hat49, hlt50⟩ := ef_append0 (P := Try.prog) (x := (.tmp 12)) (y := (.tmp 15)) (z := .agg zA) (sz := 4) (by_ := 72) hf rfl rfl Try.underlying24 (by kernel_rfl) rfl rfl (World.ownsRow_nil w38 w.heap.size 26 4) hB40 rfl on_hT35 rfl (by simp only [maxLen]; omega) (by omega) (hE.size) 24
  refine dl_e 5 (by kernel_rfl) rfl hf rfl rfl he fun a hf => ?_
  have ne_b3_g45 : b3 ≠ g45 := by have := hB4.lt; omega
  have ne_b10_g45 : b10 ≠ g45 := by have := hB30.lt; omega
  have ne_b16_g45 : b16 ≠ g45 := by have := hB22.lt; omega
  have ne_b39_g45 : b39 ≠ g45 := by have := hB40.lt; omega
  have ne_p_g45 : p ≠ g45 := by have := hP.lt; omega
  have ta_hi37_g45 : hi37 ≤ g45 ∨ g45 < lo37 := by have := hle37; omega
  have ge_g45 : w.heap.size ≤ g45 := own_gle hO47
  have hH_g45 : H ≤ g45 := by have := hP.le; have := hP.lt; omega
  replace hB4 := hB4.c0 hx48
  replace hB30 := hB30.c0 hx48
  replace hB22 := hB22.c0 hx48
  replace hB40 := hB40.c0 hx48
  replace hP := hP.chg hx48 all0
  replace hT35 := hT35.chg hx48 (fun b hb _ => nm0)
  replace hle37 := nlt hle37 hx48.size
  replace hE := hE.t0 hx48
  clear hat49 hlt50
  clear hS0
  have hS0 := hB22.same s_hB22 3
  refine ⟨.inl hS0, ?_⟩
  refine dV 6 rfl rfl hsel (by kernel_rfl) hf rfl (.inl hS0) (fun x => ex_fa (k := 3) (r := 3) hf rfl (by kernel_rfl) rfl) fun a hf => ?_
  obtain ⟨w51, he, hB52, hx53⟩ := ef_store (P := Try.prog) (t := 24) (x := (.tmp 17)) (y := (.tmp 16)) hf rfl rfl (by kernel_rfl) rfl hB22 (Nat.le_of_ble_eq_true rfl) 0
  refine dl_s 7 (by kernel_rfl) rfl hf rfl rfl he fun a hf => ?_
  replace hB4 := hB4.chg hx53 (nmc ne_b3_b16 nm0)
  replace hB30 := hB30.chg hx53 (nmc ne_b10_b16 nm0)
  replace hB40 := hB40.chg hx53 (nmc (Ne.symm ne_b16_b39) nm0)
  replace hP := hP.chg hx53 (allc ⟨hH_b16, ne_p_b16⟩ all0)
  replace hT35 := hT35.chg hx53 (fun b hb _ => (nmc (by omega) nm0))
  replace hle37 := nlt hle37 hx53.size
  replace hO47 := own_gchg hO47 hx53 (nmc (Ne.symm ne_b16_g45) nm0)
  replace hE := hE.trans hx53 (allc (.inr ge_b16) all0)
  clear hB22
  refine ⟨.inr (by kernel_rfl), ?_⟩
  refine dl_done (by kernel_rfl) ?_
  clear hS0 hsel
  refine hK32 _ _ <| wS fun K54 hK54 => wp_block ?_
  obtain ⟨R, hRd⟩ : ∃ R, commaF (exprT n) 16 beginsB ((exprT n (pWord [91] s).2).2.toks.length + 1) [] [(exprT n (pWord [91] s).2).1] (exprT n (pWord [91] s).2).2 = R := ⟨_, rfl⟩
  have hcnt := hP.cnt
  refine wp_loop_ghost (fun g a w' => ∃ cs ks s' lg lcap kg kcap cc F, Fr a 54 (fm [(0, .pointer (some ⟨p, 0, none⟩)), (2, .pointer (some ⟨b3, 0, none⟩)), (3, .pointer (some ⟨b16, 0, none⟩))]) ∧ CommaAt w H p b3 b16 18 ([]) [(pWord [91] s).1, []] cs ks s' lg lcap kg kcap cc w' ∧ g = s'.toks.length ∧ s'.toks.length < F ∧ commaF (exprT n) 16 beginsB F cs ks s' = R ∧ s'.toks.length ≤ s.toks.length ∧ ks.length + s'.toks.length ≤ 1000001 ∧ cs.length ≤ ks.length) _ ⟨[], [(exprT n (pWord [91] s).2).1], _, b10, 2, g45, _, _, _, hf.pick ⟨rfl, rfl, rfl, trivial⟩, ⟨hP, hE, hB4, hB52, own_of_blk hB30 ge_b10 rfl rfl, hO47, kids_one (hT35.mono (fun b hb => by omega)), ge_b3, ge_b16, lt_p, (by omega), (by omega), (by omega), (by omega), (by omega), (by omega)⟩, rfl, Nat.lt_succ_self _, hRd, hL, (by simp only [List.length_cons, List.length_nil]; omega), (by simp)⟩ ?_
  clear hf a; intro g0 a w' hI
  obtain ⟨cs, ks, s', lg, lcap, kg, kcap, cc, F, hf, hC, rfl, hF, hR, hLs, hM, hcl⟩ := hI
  obtain ⟨b2, eb2⟩ : ∃ x, b3 = x := ⟨_, rfl⟩
  obtain ⟨bt, ebt⟩ : ∃ x, b16 = x := ⟨_, rfl⟩
  rw [eb2, ebt] at hC hf
  obtain ⟨hP, hE, hB2, hBT, hOL, hOK, hKT, ge_b2, ge_bt, lt_p, ne_b2_bt, ne_b2_lg, ne_b2_kg, ne_bt_lg, ne_bt_kg, ne_lg_kg⟩ := hC
  have ge_lg := own_gle hOL
  have ge_kg := own_gle hOK
  have ne_p_b2 : p ≠ b2 := by omega
  have hH_b2 : H ≤ b2 := by have := hP.le; omega
  have ne_p_bt : p ≠ bt := by omega
  have hH_bt : H ≤ bt := by have := hP.le; omega
  have ne_p_lg : p ≠ lg := by omega
  have hH_lg : H ≤ lg := by have := hP.le; omega
  have ne_p_kg : p ≠ kg := by omega
  have hH_kg : H ≤ kg := by have := hP.le; omega
  by_cases hcm : (pNext s').text = [44]
  obtain ⟨t', r', hs', hn'⟩ := pNext_cons (s := s') (.inl (by rw [hcm]; decide))
  have htl' := pTake_lt hs'
  obtain ⟨F', rfl⟩ : ∃ F', F = F' + 1 := ⟨F - 1, by omega⟩
  have hcnt' := hP.cnt
  by_cases hmost : ks.length = 16
  refine wS fun K55 hK55 => wS fun K56 hK56 => wR <| sM hf rfl rfl fun a hf => st_c hf rfl rfl rfl (by kernel_rfl) (pNextL hP) ?_
  rintro _ w58 ⟨rfl, hP, hx57⟩
  refine ⟨_, rfl, fun a hf => ?_⟩
  replace hB2 := hB2.c0 hx57
  replace hBT := hBT.c0 hx57
  replace hOL := own_gchg hOL hx57 nm0
  replace hOK := own_gchg hOK hx57 nm0
  replace hKT := hKT.chg hx57 (fun b hb hlt => nm0)
  replace hE := hE.t0 hx57
  refine sV hf rfl (ex_fd (k := 2) hf rfl (by kernel_rfl) rfl) fun a hf => sV hf rfl (ex_eqS (c := true) hf rfl rfl (beqT hcm)) fun a hf => sN <| hK56 _ _ <| cT hf rfl <| wp_skip <| hK55 _ _ <| wp_block <| wS fun K59 hK59 => ?_
  have s_hBT := hBT
  refine dl_start (fun x => x.cell? ⟨bt, 2, none⟩ = w58.cell? ⟨bt, 2, none⟩) 8 9 rfl (by kernel_rfl) (by kernel_rfl) ?_
  intro w60 hx61 hsel
  replace hB2 := hB2.c0 hx61
  replace hBT := hBT.c0 hx61
  replace hP := hP.chg hx61 all0
  replace hOL := own_gchg hOL hx61 nm0
  replace hOK := own_gchg hOK hx61 nm0
  replace hKT := hKT.chg hx61 (fun b hb hlt => nm0)
  replace hE := hE.t0 hx61
  have hS0 := hBT.same s_hBT 2
  refine dV 0 rfl rfl hsel (by kernel_rfl) hf rfl (.inl hS0) (fun x => ex_fa (k := 2) (r := 2) hf rfl (by kernel_rfl) rfl) fun a hf => dL 1 rfl rfl hsel (by kernel_rfl) hf rfl hS0 (fun x hS => ex_load hf rfl (by kernel_rfl) (hS.trans ((s_hBT.cell 2).trans rfl))) fun a hf => dM 2 rfl rfl hsel (by kernel_rfl) hf rfl hS0 rfl fun a hf => dl_c 3 (by kernel_rfl) rfl hf rfl rfl rfl (by kernel_rfl) (pTakeL hP hs') ?_
  rintro _ w63 ⟨rfl, hP, hx62⟩
  refine ⟨_, rfl, fun a hf => ?_⟩
  replace hB2 := hB2.chg hx62 (nmc (Ne.symm ne_p_b2) nm0)
  replace hBT := hBT.chg hx62 (nmc (Ne.symm ne_p_bt) nm0)
  replace hOL := own_gchg hOL hx62 (nmc (Ne.symm ne_p_lg) nm0)
  replace hOK := own_gchg hOK hx62 (nmc (Ne.symm ne_p_kg) nm0)
  replace hKT := hKT.chg hx62 (fun b hb hlt => (nmc (by omega) nm0))
  replace hE := hE.trans hx62 (allc (.inl (by simp)) all0)
  clear hS0
  have hS0 := hBT.same s_hBT 2
  refine ⟨.inl hS0, ?_⟩
  refine dV 4 rfl rfl hsel (by kernel_rfl) hf rfl (.inl hS0) (fun x => ex_fd (k := 1) hf rfl (by kernel_rfl) rfl) fun a hf => ?_
  obtain ⟨w64, b65, he, hB66, hx67, eb68, lb69⟩ := ef_bslice (P := Try.prog) (ps := [(0, (.tmp 26))]) (m := 1) (sz := 1) (z := [.string ⟨([] : List UInt8).toArray⟩]) hf rfl Try.underlying23 (by kernel_rfl) (by kernel_rfl) rfl rfl (by kernel_rfl) rfl w63 23
  refine dl_e 5 (by kernel_rfl) rfl hf rfl rfl he fun a hf => ?_
  have ne_b2_b65 : b2 ≠ b65 := ne_new hB2.lt eb68
  have ne_bt_b65 : bt ≠ b65 := ne_new hBT.lt eb68
  have ne_p_b65 : p ≠ b65 := ne_new hP.lt eb68
  have ne_lg_b65 : lg ≠ b65 := ne_new (own_glt hOL) eb68
  have ne_kg_b65 : kg ≠ b65 := ne_new (own_glt hOK) eb68
  have ge_b65 := ge_new hE eb68
  have hH_b65 : H ≤ b65 := by have := hP.le; have := hP.lt; omega
  replace hB2 := hB2.c0 hx67
  replace hBT := hBT.c0 hx67
  replace hP := hP.chg hx67 all0
  replace hOL := own_gchg hOL hx67 nm0
  replace hOK := own_gchg hOK hx67 nm0
  replace hKT := hKT.chg hx67 (fun b hb hlt => nm0)
  replace hE := hE.t0 hx67
  clear eb68 lb69
  clear hS0
  have hS0 := hBT.same s_hBT 2
  refine ⟨.inl hS0, ?_⟩
  obtain ⟨g71, cap72, w70, he, hO73, hx74, hat75, hlt76⟩ := ef_append1 (P := Try.prog) (x := (.tmp 23)) (y := (.tmp 27)) (z := .string ⟨([] : List UInt8).toArray⟩) (sz := 1) (by_ := 16) hf rfl rfl Try.underlying23 (by kernel_rfl) rfl rfl hOL hB66 rfl rfl rfl (by simp only [maxLen, List.length_append, List.length_cons, List.length_nil]; omega) (by simp only [List.length_append, List.length_cons, List.length_nil]; omega) (hE.size) 23
  refine dl_e 6 (by kernel_rfl) rfl hf rfl rfl he fun a hf => ?_
  have ne_b2_g71 : b2 ≠ g71 := by have := hB2.lt; have := ne_b2_lg; omega
  have ne_bt_g71 : bt ≠ g71 := by have := hBT.lt; have := ne_bt_lg; omega
  have ne_b65_g71 : b65 ≠ g71 := by have := hB66.lt; have := (Ne.symm ne_lg_b65); omega
  have ne_p_g71 : p ≠ g71 := by have := hP.lt; have := ne_p_lg; omega
  have ne_kg_g71 : kg ≠ g71 := by have := (own_glt hOK); have := (Ne.symm ne_lg_kg); omega
  replace hKT : KidsAre (fun b => w.heap.size ≤ b ∧ b ≠ b2 ∧ b ≠ bt ∧ b ≠ lg ∧ b ≠ kg ∧ b ≠ g71) w64 _ _ := hKT.keepB (fun b hb hlt => by omega) (fun _ _ _ => rfl)
  have ge_g71 : w.heap.size ≤ g71 := own_gle hO73
  have hH_g71 : H ≤ g71 := by have := hP.le; have := hP.lt; omega
  replace hB2 := hB2.chg hx74 (nmc ne_b2_lg nm0)
  replace hBT := hBT.chg hx74 (nmc ne_bt_lg nm0)
  replace hB66 := hB66.chg hx74 (nmc (Ne.symm ne_lg_b65) nm0)
  replace hP := hP.chg hx74 (allc ⟨hH_lg, ne_p_lg⟩ all0)
  replace hOK := own_gchg hOK hx74 (nmc (Ne.symm ne_lg_kg) nm0)
  replace hKT := hKT.chg hx74 (fun b hb hlt => (nmc (by omega) nm0))
  replace hE := hE.trans hx74 (allc (.inr ge_lg) all0)
  clear hat75 hlt76
  clear hS0
  have hS0 := hBT.same s_hBT 2
  refine ⟨.inl hS0, ?_⟩
  refine dV 7 rfl rfl hsel (by kernel_rfl) hf rfl (.inl hS0) (fun x => ex_fa (k := 2) (r := 2) hf rfl (by kernel_rfl) rfl) fun a hf => ?_
  obtain ⟨w77, he, hB78, hx79⟩ := ef_store (P := Try.prog) (t := 23) (x := (.tmp 29)) (y := (.tmp 28)) hf rfl rfl (by kernel_rfl) rfl hBT (Nat.le_of_ble_eq_true rfl) 0
  refine dl_s 8 (by kernel_rfl) rfl hf rfl rfl he fun a hf => ?_
  replace hB2 := hB2.chg hx79 (nmc ne_b2_bt nm0)
  replace hB66 := hB66.chg hx79 (nmc (Ne.symm ne_bt_b65) nm0)
  replace hP := hP.chg hx79 (allc ⟨hH_bt, ne_p_bt⟩ all0)
  replace hOK := own_gchg hOK hx79 (nmc (Ne.symm ne_bt_kg) nm0)
  replace hKT := hKT.chg hx79 (fun b hb hlt => (nmc (by omega) nm0))
  replace hO73 := own_gchg hO73 hx79 (nmc (Ne.symm ne_bt_g71) nm0)
  replace hE := hE.trans hx79 (allc (.inr ge_bt) all0)
  clear hBT
  refine ⟨.inr (by kernel_rfl), ?_⟩
  refine dl_done (by kernel_rfl) ?_
  clear hS0 hsel
  refine hK59 _ _ <| wS fun K80 hK80 => wS fun K81 hK81 => wR <| sV hf rfl (ex_fa (k := 3) (r := 3) hf rfl (by kernel_rfl) rfl) fun a hf => sV hf rfl (ex_loadB hf rfl (by kernel_rfl) hB78 rfl) fun a hf => sV hf rfl (ex_len hf Try.underlying24 rfl) fun a hf => sV hf rfl (ex_eqI (c := true) hf rfl rfl (iEqT (by omega))) fun a hf => sM hf rfl rfl fun a hf => sM hf rfl rfl fun a hf => st_c hf rfl rfl rfl (by kernel_rfl) (pNextL hP) ?_
  rintro _ w83 ⟨rfl, hP, hx82⟩
  refine ⟨_, rfl, fun a hf => ?_⟩
  replace hB2 := hB2.c0 hx82
  replace hB78 := hB78.c0 hx82
  replace hB66 := hB66.c0 hx82
  replace hOK := own_gchg hOK hx82 nm0
  replace hKT := hKT.chg hx82 (fun b hb hlt => nm0)
  replace hO73 := own_gchg hO73 hx82 nm0
  replace hE := hE.t0 hx82
  refine st_c hf rfl rfl rfl (by kernel_rfl) (beginsL) ?_
  rintro _ w85 ⟨rfl, hx84⟩
  refine ⟨_, rfl, fun a hf => ?_⟩
  replace hB2 := hB2.c0 hx84
  replace hB78 := hB78.c0 hx84
  replace hB66 := hB66.c0 hx84
  replace hP := hP.chg hx84 all0
  replace hOK := own_gchg hOK hx84 nm0
  replace hKT := hKT.chg hx84 (fun b hb hlt => nm0)
  replace hO73 := own_gchg hO73 hx84 nm0
  replace hE := hE.t0 hx84
  refine sV hf rfl (ex_pickT hf rfl rfl) fun a hf => sN <| hK81 _ _ <| cd_b hf rfl ?_ ?_
  intro hbg
  refine wR <| sM hf rfl rfl fun a hf => st_c hf rfl rfl rfl (by kernel_rfl) (pFailL (e := 3) hP (by decide)) ?_
  rintro _ w88 ⟨rfl, hP, hx87⟩
  refine ⟨_, rfl, fun a hf => ?_⟩
  replace hB2 := hB2.chg hx87 (nmc (Ne.symm ne_p_b2) nm0)
  replace hB78 := hB78.chg hx87 (nmc (Ne.symm ne_p_bt) nm0)
  replace hB66 := hB66.chg hx87 (nmc (Ne.symm ne_p_b65) nm0)
  replace hOK := own_gchg hOK hx87 (nmc (Ne.symm ne_p_kg) nm0)
  replace hKT := hKT.chg hx87 (fun b hb hlt => (nmc (by omega) nm0))
  replace hO73 := own_gchg hO73 hx87 (nmc (Ne.symm ne_p_g71) nm0)
  replace hE := hE.trans hx87 (allc (.inl (by simp)) all0)
  refine sN <| hK80 _ _ ?_
  have s_hB78 := hB78
  refine dl_start (fun x => x.cell? ⟨bt, 3, none⟩ = w88.cell? ⟨bt, 3, none⟩) 7 8 rfl (by kernel_rfl) (by kernel_rfl) ?_
  intro w89 hx90 hsel
  replace hB2 := hB2.c0 hx90
  replace hB78 := hB78.c0 hx90
  replace hB66 := hB66.c0 hx90
  replace hP := hP.chg hx90 all0
  replace hOK := own_gchg hOK hx90 nm0
  replace hKT := hKT.chg hx90 (fun b hb hlt => nm0)
  replace hO73 := own_gchg hO73 hx90 nm0
  replace hE := hE.t0 hx90
  have hS0 := hB78.same s_hB78 3
  refine dV 0 rfl rfl hsel (by kernel_rfl) hf rfl (.inl hS0) (fun x => ex_fa (k := 3) (r := 3) hf rfl (by kernel_rfl) rfl) fun a hf => dL 1 rfl rfl hsel (by kernel_rfl) hf rfl hS0 (fun x hS => ex_load hf rfl (by kernel_rfl) (hS.trans ((s_hB78.cell 3).trans rfl))) fun a hf => dM 2 rfl rfl hsel (by kernel_rfl) hf rfl hS0 rfl fun a hf => ?_
  have plt91 := hP.lt
  refine dl_c 3 (by kernel_rfl) rfl hf rfl rfl rfl (by kernel_rfl) (ih _ _ (pFail 3 (pTake s')) _ hP (by have := pFail_len 3 (pTake s'); omega)) ?_
  rintro _ w92 ⟨c91_0, c91_1, c91_2, c91_3, rfl, hT91, hP, hx91, hl91⟩
  refine ⟨_, rfl, fun a hf => ?_⟩
  obtain ⟨lo93, elo93⟩ : ∃ x, x = w89.heap.size := ⟨_, rfl⟩
  obtain ⟨hi93, ehi93⟩ : ∃ x, x = w92.heap.size := ⟨_, rfl⟩
  replace hT91 := hT91.within elo93 ehi93
  have hle93 : hi93 ≤ w92.heap.size := Nat.le_of_eq ehi93
  have ge_lo93 : w.heap.size ≤ lo93 := elo93 ▸ hE.size
  have tb_lo93_b2 : b2 < lo93 := elo93 ▸ hB2.lt
  have tb_lo93_bt : bt < lo93 := elo93 ▸ hB78.lt
  have tb_lo93_b65 : b65 < lo93 := elo93 ▸ hB66.lt
  have tb_lo93_p : p < lo93 := elo93 ▸ plt91
  have tb_lo93_kg : kg < lo93 := elo93 ▸ (own_glt hOK)
  have tb_lo93_g71 : g71 < lo93 := elo93 ▸ (own_glt hO73)
  clear elo93 ehi93
  clear plt91
  have on_hT91 := hT91.one
  replace hB2 := hB2.chg hx91 (nmc (Ne.symm ne_p_b2) nm0)
  replace hB78 := hB78.chg hx91 (nmc (Ne.symm ne_p_bt) nm0)
  replace hB66 := hB66.chg hx91 (nmc (Ne.symm ne_p_b65) nm0)
  replace hOK := own_gchg hOK hx91 (nmc (Ne.symm ne_p_kg) nm0)
  replace hKT := hKT.chg hx91 (fun b hb hlt => (nmc (by omega) nm0))
  replace hO73 := own_gchg hO73 hx91 (nmc (Ne.symm ne_p_g71) nm0)
  replace hE := hE.trans hx91 (allc (.inl (by simp)) all0)
  clear hS0
  have hS0 := hB78.same s_hB78 3
  refine ⟨.inl hS0, ?_⟩
  obtain ⟨w94, b95, he, hB96, hx97, eb98, lb99⟩ := ef_bslice (P := Try.prog) (ps := [(0, (.tmp 44))]) (m := 1) (sz := 4) (z := zT) hf rfl Try.underlying24 (by kernel_rfl) (by kernel_rfl) rfl rfl (by kernel_rfl) rfl w92 24
  refine dl_e 4 (by kernel_rfl) rfl hf rfl rfl he fun a hf => ?_
  have ne_b2_b95 : b2 ≠ b95 := ne_new hB2.lt eb98
  have ne_bt_b95 : bt ≠ b95 := ne_new hB78.lt eb98
  have ne_b65_b95 : b65 ≠ b95 := ne_new hB66.lt eb98
  have ne_p_b95 : p ≠ b95 := ne_new hP.lt eb98
  have ne_kg_b95 : kg ≠ b95 := ne_new (own_glt hOK) eb98
  have ne_g71_b95 : g71 ≠ b95 := ne_new (own_glt hO73) eb98
  have ta_hi93_b95 : hi93 ≤ b95 := eb98 ▸ hle93
  have ge_b95 := ge_new hE eb98
  have hH_b95 : H ≤ b95 := by have := hP.le; have := hP.lt; omega
  replace hB2 := hB2.c0 hx97
  replace hB78 := hB78.c0 hx97
  replace hB66 := hB66.c0 hx97
  replace hP := hP.chg hx97 all0
  replace hOK := own_gchg hOK hx97 nm0
  replace hKT := hKT.chg hx97 (fun b hb hlt => nm0)
  replace hO73 := own_gchg hO73 hx97 nm0
  replace hT91 := hT91.chg hx97 (fun b hb _ => nm0)
  replace hle93 := nlt hle93 hx97.size
  replace hE := hE.t0 hx97
  clear eb98 lb99
  clear hS0
  have hS0 := hB78.same s_hB78 3
  refine ⟨.inl hS0, ?_⟩
  obtain ⟨g101, cap102, w100, he, hO103, hx104, hat105, hlt106⟩ := ef_append1 (P := Try.prog) (x := (.tmp 42)) (y := (.tmp 45)) (z := .agg zA) (sz := 4) (by_ := 72) hf rfl rfl Try.underlying24 (by kernel_rfl) rfl rfl hOK hB96 rfl on_hT91 rfl (by simp only [maxLen]; omega) (by omega) (hE.size) 24
  refine dl_e 5 (by kernel_rfl) rfl hf rfl rfl he fun a hf => ?_
  have ne_b2_g101 : b2 ≠ g101 := by have := hB2.lt; have := ne_b2_kg; omega
  have ne_bt_g101 : bt ≠ g101 := by have := hB78.lt; have := ne_bt_kg; omega
  have ne_b65_g101 : b65 ≠ g101 := by have := hB66.lt; have := (Ne.symm ne_kg_b65); omega
  have ne_b95_g101 : b95 ≠ g101 := by have := hB96.lt; have := (Ne.symm ne_kg_b95); omega
  have ne_p_g101 : p ≠ g101 := by have := hP.lt; have := ne_p_kg; omega
  have ne_g71_g101 : g71 ≠ g101 := by have := (own_glt hO73); have := (Ne.symm ne_kg_g71); omega
  have ta_hi93_g101 : hi93 ≤ g101 ∨ g101 < lo93 := by have := hle93; omega
  replace hKT : KidsAre (fun b => w.heap.size ≤ b ∧ b ≠ b2 ∧ b ≠ bt ∧ b ≠ lg ∧ b ≠ kg ∧ b ≠ g71 ∧ b ≠ g101) w94 _ _ := hKT.keepB (fun b hb hlt => by omega) (fun _ _ _ => rfl)
  have ge_g101 : w.heap.size ≤ g101 := own_gle hO103
  have hH_g101 : H ≤ g101 := by have := hP.le; have := hP.lt; omega
  replace hB2 := hB2.chg hx104 (nmc ne_b2_kg nm0)
  replace hB78 := hB78.chg hx104 (nmc ne_bt_kg nm0)
  replace hB66 := hB66.chg hx104 (nmc (Ne.symm ne_kg_b65) nm0)
  replace hB96 := hB96.chg hx104 (nmc (Ne.symm ne_kg_b95) nm0)
  replace hP := hP.chg hx104 (allc ⟨hH_kg, ne_p_kg⟩ all0)
  replace hKT := hKT.chg hx104 (fun b hb hlt => (nmc (by omega) nm0))
  replace hO73 := own_gchg hO73 hx104 (nmc (Ne.symm ne_kg_g71) nm0)
  replace hT91 := hT91.chg hx104 (fun b hb _ => (nmc (by omega) nm0))
  replace hle93 := nlt hle93 hx104.size
  replace hE := hE.trans hx104 (allc (.inr ge_kg) all0)
  clear hat105 hlt106
  clear hS0
  have hS0 := hB78.same s_hB78 3
  refine ⟨.inl hS0, ?_⟩
  refine dV 6 rfl rfl hsel (by kernel_rfl) hf rfl (.inl hS0) (fun x => ex_fa (k := 3) (r := 3) hf rfl (by kernel_rfl) rfl) fun a hf => ?_
  obtain ⟨w107, he, hB108, hx109⟩ := ef_store (P := Try.prog) (t := 24) (x := (.tmp 47)) (y := (.tmp 46)) hf rfl rfl (by kernel_rfl) rfl hB78 (Nat.le_of_ble_eq_true rfl) 0
  refine dl_s 7 (by kernel_rfl) rfl hf rfl rfl he fun a hf => ?_
  replace hB2 := hB2.chg hx109 (nmc ne_b2_bt nm0)
  replace hB66 := hB66.chg hx109 (nmc (Ne.symm ne_bt_b65) nm0)
  replace hB96 := hB96.chg hx109 (nmc (Ne.symm ne_bt_b95) nm0)
  replace hP := hP.chg hx109 (allc ⟨hH_bt, ne_p_bt⟩ all0)
  replace hKT := hKT.chg hx109 (fun b hb hlt => (nmc (by omega) nm0))
  replace hO73 := own_gchg hO73 hx109 (nmc (Ne.symm ne_bt_g71) nm0)
  replace hT91 := hT91.chg hx109 (fun b hb _ => (nmc (by omega) nm0))
  replace hle93 := nlt hle93 hx109.size
  replace hO103 := own_gchg hO103 hx109 (nmc (Ne.symm ne_bt_g101) nm0)
  replace hE := hE.trans hx109 (allc (.inr ge_bt) all0)
  clear hB78
  refine ⟨.inr (by kernel_rfl), ?_⟩
  refine dl_done (by kernel_rfl) ?_
  clear hS0 hsel
  have hR' := (commaF_step hcm (if_pos ⟨hmost, hbg⟩)).symm.trans hR
  have e1 : ([(pWord [91] s).1, []] ++ cs).length + 1 = ([(pWord [91] s).1, []] ++ (cs ++ [(pNext s').lead])).length := by simp
  have e2 : ks.length + 1 = (ks ++ [((exprT n) (pFail 3 (pTake s'))).1]).length := by simp
  have e3 : List.map strV ([(pWord [91] s).1, []] ++ cs) ++ [strV (pNext s').lead] = List.map strV ([(pWord [91] s).1, []] ++ (cs ++ [(pNext s').lead])) := by simp
  have hBT2 : Blk w107 bt 26 [.int .i64 18, strV ([]), .slice (some ⟨g71, 0, none⟩) (([(pWord [91] s).1, []] ++ cs).length + 1) cap72, .slice (some ⟨g101, 0, none⟩) (ks.length + 1) cap102] := hB108
  rw [e1, e2] at hBT2
  have hOL2 := hO73
  have hOK2 := hO103
  have hOL3 : w107.ownsRow w.heap.size 9 1 (.slice (some ⟨g71, 0, none⟩) (([(pWord [91] s).1, []] ++ cs).length + 1) cap72) (([(pWord [91] s).1, []] ++ cs).length + 1) (List.map strV ([(pWord [91] s).1, []] ++ cs) ++ [strV (pNext s').lead]) := by rw [hn']; exact hOL2
  rw [e1, e3] at hOL3
  rw [e2] at hOK2
  have hl3 : ((exprT n) (pFail 3 (pTake s'))).2.toks.length < s'.toks.length := by have := hl91; have := pFail_len 3 (pTake s'); omega
  subst eb2 ebt
  exact ⟨_, hl3, cs ++ [(pNext s').lead], ks ++ [((exprT n) (pFail 3 (pTake s'))).1], _, g71, _, g101, _, _, F', hf.pick ⟨rfl, rfl, rfl, trivial⟩, ⟨hP, hE, hB2, hBT2, hOL3, hOK2, KidsAre.snoc (hKT.keepB (fun b hb hlt => by omega) (fun _ _ _ => rfl)) (hT91.mono (fun b hb => by omega)), ge_b2, ge_bt, lt_p, ne_b2_bt, by omega, by omega, by omega, by omega, by omega⟩, rfl, by omega, hR', by omega, by rw [← e2]; omega, by simp; omega⟩
  intro hbg
  refine wp_skip <| hK80 _ _ ?_
  have s_hB78 := hB78
  refine dl_start (fun x => x.cell? ⟨bt, 3, none⟩ = w85.cell? ⟨bt, 3, none⟩) 7 8 rfl (by kernel_rfl) (by kernel_rfl) ?_
  intro w110 hx111 hsel
  replace hB2 := hB2.c0 hx111
  replace hB78 := hB78.c0 hx111
  replace hB66 := hB66.c0 hx111
  replace hP := hP.chg hx111 all0
  replace hOK := own_gchg hOK hx111 nm0
  replace hKT := hKT.chg hx111 (fun b hb hlt => nm0)
  replace hO73 := own_gchg hO73 hx111 nm0
  replace hE := hE.t0 hx111
  have hS0 := hB78.same s_hB78 3
  refine dV 0 rfl rfl hsel (by kernel_rfl) hf rfl (.inl hS0) (fun x => ex_fa (k := 3) (r := 3) hf rfl (by kernel_rfl) rfl) fun a hf => dL 1 rfl rfl hsel (by kernel_rfl) hf rfl hS0 (fun x hS => ex_load hf rfl (by kernel_rfl) (hS.trans ((s_hB78.cell 3).trans rfl))) fun a hf => dM 2 rfl rfl hsel (by kernel_rfl) hf rfl hS0 rfl fun a hf => ?_
  have plt112 := hP.lt
  refine dl_c 3 (by kernel_rfl) rfl hf rfl rfl rfl (by kernel_rfl) (ih _ _ (pTake s') _ hP (by have := pFail_len 3 (pTake s'); omega)) ?_
  rintro _ w113 ⟨c112_0, c112_1, c112_2, c112_3, rfl, hT112, hP, hx112, hl112⟩
  refine ⟨_, rfl, fun a hf => ?_⟩
  obtain ⟨lo114, elo114⟩ : ∃ x, x = w110.heap.size := ⟨_, rfl⟩
  obtain ⟨hi114, ehi114⟩ : ∃ x, x = w113.heap.size := ⟨_, rfl⟩
  replace hT112 := hT112.within elo114 ehi114
  have hle114 : hi114 ≤ w113.heap.size := Nat.le_of_eq ehi114
  have ge_lo114 : w.heap.size ≤ lo114 := elo114 ▸ hE.size
  have tb_lo114_b2 : b2 < lo114 := elo114 ▸ hB2.lt
  have tb_lo114_bt : bt < lo114 := elo114 ▸ hB78.lt
  have tb_lo114_b65 : b65 < lo114 := elo114 ▸ hB66.lt
  have tb_lo114_p : p < lo114 := elo114 ▸ plt112
  have tb_lo114_kg : kg < lo114 := elo114 ▸ (own_glt hOK)
  have tb_lo114_g71 : g71 < lo114 := elo114 ▸ (own_glt hO73)
  clear elo114 ehi114
  clear plt112
  have on_hT112 := hT112.one
  replace hB2 := hB2.chg hx112 (nmc (Ne.symm ne_p_b2) nm0)
  replace hB78 := hB78.chg hx112 (nmc (Ne.symm ne_p_bt) nm0)
  replace hB66 := hB66.chg hx112 (nmc (Ne.symm ne_p_b65) nm0)
  replace hOK := own_gchg hOK hx112 (nmc (Ne.symm ne_p_kg) nm0)
  replace hKT := hKT.chg hx112 (fun b hb hlt => (nmc (by omega) nm0))
  replace hO73 := own_gchg hO73 hx112 (nmc (Ne.symm ne_p_g71) nm0)
  replace hE := hE.trans hx112 (allc (.inl (by simp)) all0)
  clear hS0
  have hS0 := hB78.same s_hB78 3
  refine ⟨.inl hS0, ?_⟩
  obtain ⟨w115, b116, he, hB117, hx118, eb119, lb120⟩ := ef_bslice (P := Try.prog) (ps := [(0, (.tmp 44))]) (m := 1) (sz := 4) (z := zT) hf rfl Try.underlying24 (by kernel_rfl) (by kernel_rfl) rfl rfl (by kernel_rfl) rfl w113 24
  refine dl_e 4 (by kernel_rfl) rfl hf rfl rfl he fun a hf => ?_
  have ne_b2_b116 : b2 ≠ b116 := ne_new hB2.lt eb119
  have ne_bt_b116 : bt ≠ b116 := ne_new hB78.lt eb119
  have ne_b65_b116 : b65 ≠ b116 := ne_new hB66.lt eb119
  have ne_p_b116 : p ≠ b116 := ne_new hP.lt eb119
  have ne_kg_b116 : kg ≠ b116 := ne_new (own_glt hOK) eb119
  have ne_g71_b116 : g71 ≠ b116 := ne_new (own_glt hO73) eb119
  have ta_hi114_b116 : hi114 ≤ b116 := eb119 ▸ hle114
  have ge_b116 := ge_new hE eb119
  have hH_b116 : H ≤ b116 := by have := hP.le; have := hP.lt; omega
  replace hB2 := hB2.c0 hx118
  replace hB78 := hB78.c0 hx118
  replace hB66 := hB66.c0 hx118
  replace hP := hP.chg hx118 all0
  replace hOK := own_gchg hOK hx118 nm0
  replace hKT := hKT.chg hx118 (fun b hb hlt => nm0)
  replace hO73 := own_gchg hO73 hx118 nm0
  replace hT112 := hT112.chg hx118 (fun b hb _ => nm0)
  replace hle114 := nlt hle114 hx118.size
  replace hE := hE.t0 hx118
  clear eb119 lb120
  clear hS0
  have hS0 := hB78.same s_hB78 3
  refine ⟨.inl hS0, ?_⟩
  obtain ⟨g122, cap123, w121, he, hO124, hx125, hat126, hlt127⟩ := ef_append1 (P := Try.prog) (x := (.tmp 42)) (y := (.tmp 45)) (z := .agg zA) (sz := 4) (by_ := 72) hf rfl rfl Try.underlying24 (by kernel_rfl) rfl rfl hOK hB117 rfl on_hT112 rfl (by simp only [maxLen]; omega) (by omega) (hE.size) 24
  refine dl_e 5 (by kernel_rfl) rfl hf rfl rfl he fun a hf => ?_
  have ne_b2_g122 : b2 ≠ g122 := by have := hB2.lt; have := ne_b2_kg; omega
  have ne_bt_g122 : bt ≠ g122 := by have := hB78.lt; have := ne_bt_kg; omega
  have ne_b65_g122 : b65 ≠ g122 := by have := hB66.lt; have := (Ne.symm ne_kg_b65); omega
  have ne_b116_g122 : b116 ≠ g122 := by have := hB117.lt; have := (Ne.symm ne_kg_b116); omega
  have ne_p_g122 : p ≠ g122 := by have := hP.lt; have := ne_p_kg; omega
  have ne_g71_g122 : g71 ≠ g122 := by have := (own_glt hO73); have := (Ne.symm ne_kg_g71); omega
  have ta_hi114_g122 : hi114 ≤ g122 ∨ g122 < lo114 := by have := hle114; omega
  replace hKT : KidsAre (fun b => w.heap.size ≤ b ∧ b ≠ b2 ∧ b ≠ bt ∧ b ≠ lg ∧ b ≠ kg ∧ b ≠ g71 ∧ b ≠ g122) w115 _ _ := hKT.keepB (fun b hb hlt => by omega) (fun _ _ _ => rfl)
  have ge_g122 : w.heap.size ≤ g122 := own_gle hO124
  have hH_g122 : H ≤ g122 := by have := hP.le; have := hP.lt; omega
  replace hB2 := hB2.chg hx125 (nmc ne_b2_kg nm0)
  replace hB78 := hB78.chg hx125 (nmc ne_bt_kg nm0)
  replace hB66 := hB66.chg hx125 (nmc (Ne.symm ne_kg_b65) nm0)
  replace hB117 := hB117.chg hx125 (nmc (Ne.symm ne_kg_b116) nm0)
  replace hP := hP.chg hx125 (allc ⟨hH_kg, ne_p_kg⟩ all0)
  replace hKT := hKT.chg hx125 (fun b hb hlt => (nmc (by omega) nm0))
  replace hO73 := own_gchg hO73 hx125 (nmc (Ne.symm ne_kg_g71) nm0)
  replace hT112 := hT112.chg hx125 (fun b hb _ => (nmc (by omega) nm0))
  replace hle114 := nlt hle114 hx125.size
  replace hE := hE.trans hx125 (allc (.inr ge_kg) all0)
  clear hat126 hlt127
  clear hS0
  have hS0 := hB78.same s_hB78 3
  refine ⟨.inl hS0, ?_⟩
  refine dV 6 rfl rfl hsel (by kernel_rfl) hf rfl (.inl hS0) (fun x => ex_fa (k := 3) (r := 3) hf rfl (by kernel_rfl) rfl) fun a hf => ?_
  obtain ⟨w128, he, hB129, hx130⟩ := ef_store (P := Try.prog) (t := 24) (x := (.tmp 47)) (y := (.tmp 46)) hf rfl rfl (by kernel_rfl) rfl hB78 (Nat.le_of_ble_eq_true rfl) 0
  refine dl_s 7 (by kernel_rfl) rfl hf rfl rfl he fun a hf => ?_
  replace hB2 := hB2.chg hx130 (nmc ne_b2_bt nm0)
  replace hB66 := hB66.chg hx130 (nmc (Ne.symm ne_bt_b65) nm0)
  replace hB117 := hB117.chg hx130 (nmc (Ne.symm ne_bt_b116) nm0)
  replace hP := hP.chg hx130 (allc ⟨hH_bt, ne_p_bt⟩ all0)
  replace hKT := hKT.chg hx130 (fun b hb hlt => (nmc (by omega) nm0))
  replace hO73 := own_gchg hO73 hx130 (nmc (Ne.symm ne_bt_g71) nm0)
  replace hT112 := hT112.chg hx130 (fun b hb _ => (nmc (by omega) nm0))
  replace hle114 := nlt hle114 hx130.size
  replace hO124 := own_gchg hO124 hx130 (nmc (Ne.symm ne_bt_g122) nm0)
  replace hE := hE.trans hx130 (allc (.inr ge_bt) all0)
  clear hB78
  refine ⟨.inr (by kernel_rfl), ?_⟩
  refine dl_done (by kernel_rfl) ?_
  clear hS0 hsel
  have hR' := (commaF_step hcm (if_neg (fun h => Bool.false_ne_true (hbg.symm.trans h.2)))).symm.trans hR
  have e1 : ([(pWord [91] s).1, []] ++ cs).length + 1 = ([(pWord [91] s).1, []] ++ (cs ++ [(pNext s').lead])).length := by simp
  have e2 : ks.length + 1 = (ks ++ [((exprT n) (pTake s')).1]).length := by simp
  have e3 : List.map strV ([(pWord [91] s).1, []] ++ cs) ++ [strV (pNext s').lead] = List.map strV ([(pWord [91] s).1, []] ++ (cs ++ [(pNext s').lead])) := by simp
  have hBT2 : Blk w128 bt 26 [.int .i64 18, strV ([]), .slice (some ⟨g71, 0, none⟩) (([(pWord [91] s).1, []] ++ cs).length + 1) cap72, .slice (some ⟨g122, 0, none⟩) (ks.length + 1) cap123] := hB129
  rw [e1, e2] at hBT2
  have hOL2 := hO73
  have hOK2 := hO124
  have hOL3 : w128.ownsRow w.heap.size 9 1 (.slice (some ⟨g71, 0, none⟩) (([(pWord [91] s).1, []] ++ cs).length + 1) cap72) (([(pWord [91] s).1, []] ++ cs).length + 1) (List.map strV ([(pWord [91] s).1, []] ++ cs) ++ [strV (pNext s').lead]) := by rw [hn']; exact hOL2
  rw [e1, e3] at hOL3
  rw [e2] at hOK2
  have hl3 : ((exprT n) (pTake s')).2.toks.length < s'.toks.length := by have := hl112; have := pFail_len 3 (pTake s'); omega
  subst eb2 ebt
  exact ⟨_, hl3, cs ++ [(pNext s').lead], ks ++ [((exprT n) (pTake s')).1], _, g71, _, g122, _, _, F', hf.pick ⟨rfl, rfl, rfl, trivial⟩, ⟨hP, hE, hB2, hBT2, hOL3, hOK2, KidsAre.snoc (hKT.keepB (fun b hb hlt => by omega) (fun _ _ _ => rfl)) (hT112.mono (fun b hb => by omega)), ge_b2, ge_bt, lt_p, ne_b2_bt, by omega, by omega, by omega, by omega, by omega⟩, rfl, by omega, hR', by omega, by rw [← e2]; omega, by simp; omega⟩
  refine wS fun K131 hK131 => wS fun K132 hK132 => wR <| sM hf rfl rfl fun a hf => st_c hf rfl rfl rfl (by kernel_rfl) (pNextL hP) ?_
  rintro _ w134 ⟨rfl, hP, hx133⟩
  refine ⟨_, rfl, fun a hf => ?_⟩
  replace hB2 := hB2.c0 hx133
  replace hBT := hBT.c0 hx133
  replace hOL := own_gchg hOL hx133 nm0
  replace hOK := own_gchg hOK hx133 nm0
  replace hKT := hKT.chg hx133 (fun b hb hlt => nm0)
  replace hE := hE.t0 hx133
  refine sV hf rfl (ex_fd (k := 2) hf rfl (by kernel_rfl) rfl) fun a hf => sV hf rfl (ex_eqS (c := true) hf rfl rfl (beqT hcm)) fun a hf => sN <| hK132 _ _ <| cT hf rfl <| wp_skip <| hK131 _ _ <| wp_block <| wS fun K135 hK135 => ?_
  have s_hBT := hBT
  refine dl_start (fun x => x.cell? ⟨bt, 2, none⟩ = w134.cell? ⟨bt, 2, none⟩) 8 9 rfl (by kernel_rfl) (by kernel_rfl) ?_
  intro w136 hx137 hsel
  replace hB2 := hB2.c0 hx137
  replace hBT := hBT.c0 hx137
  replace hP := hP.chg hx137 all0
  replace hOL := own_gchg hOL hx137 nm0
  replace hOK := own_gchg hOK hx137 nm0
  replace hKT := hKT.chg hx137 (fun b hb hlt => nm0)
  replace hE := hE.t0 hx137
  have hS0 := hBT.same s_hBT 2
  refine dV 0 rfl rfl hsel (by kernel_rfl) hf rfl (.inl hS0) (fun x => ex_fa (k := 2) (r := 2) hf rfl (by kernel_rfl) rfl) fun a hf => dL 1 rfl rfl hsel (by kernel_rfl) hf rfl hS0 (fun x hS => ex_load hf rfl (by kernel_rfl) (hS.trans ((s_hBT.cell 2).trans rfl))) fun a hf => dM 2 rfl rfl hsel (by kernel_rfl) hf rfl hS0 rfl fun a hf => dl_c 3 (by kernel_rfl) rfl hf rfl rfl rfl (by kernel_rfl) (pTakeL hP hs') ?_
  rintro _ w139 ⟨rfl, hP, hx138⟩
  refine ⟨_, rfl, fun a hf => ?_⟩
  replace hB2 := hB2.chg hx138 (nmc (Ne.symm ne_p_b2) nm0)
  replace hBT := hBT.chg hx138 (nmc (Ne.symm ne_p_bt) nm0)
  replace hOL := own_gchg hOL hx138 (nmc (Ne.symm ne_p_lg) nm0)
  replace hOK := own_gchg hOK hx138 (nmc (Ne.symm ne_p_kg) nm0)
  replace hKT := hKT.chg hx138 (fun b hb hlt => (nmc (by omega) nm0))
  replace hE := hE.trans hx138 (allc (.inl (by simp)) all0)
  clear hS0
  have hS0 := hBT.same s_hBT 2
  refine ⟨.inl hS0, ?_⟩
  refine dV 4 rfl rfl hsel (by kernel_rfl) hf rfl (.inl hS0) (fun x => ex_fd (k := 1) hf rfl (by kernel_rfl) rfl) fun a hf => ?_
  obtain ⟨w140, b141, he, hB142, hx143, eb144, lb145⟩ := ef_bslice (P := Try.prog) (ps := [(0, (.tmp 26))]) (m := 1) (sz := 1) (z := [.string ⟨([] : List UInt8).toArray⟩]) hf rfl Try.underlying23 (by kernel_rfl) (by kernel_rfl) rfl rfl (by kernel_rfl) rfl w139 23
  refine dl_e 5 (by kernel_rfl) rfl hf rfl rfl he fun a hf => ?_
  have ne_b2_b141 : b2 ≠ b141 := ne_new hB2.lt eb144
  have ne_bt_b141 : bt ≠ b141 := ne_new hBT.lt eb144
  have ne_p_b141 : p ≠ b141 := ne_new hP.lt eb144
  have ne_lg_b141 : lg ≠ b141 := ne_new (own_glt hOL) eb144
  have ne_kg_b141 : kg ≠ b141 := ne_new (own_glt hOK) eb144
  have ge_b141 := ge_new hE eb144
  have hH_b141 : H ≤ b141 := by have := hP.le; have := hP.lt; omega
  replace hB2 := hB2.c0 hx143
  replace hBT := hBT.c0 hx143
  replace hP := hP.chg hx143 all0
  replace hOL := own_gchg hOL hx143 nm0
  replace hOK := own_gchg hOK hx143 nm0
  replace hKT := hKT.chg hx143 (fun b hb hlt => nm0)
  replace hE := hE.t0 hx143
  clear eb144 lb145
  clear hS0
  have hS0 := hBT.same s_hBT 2
  refine ⟨.inl hS0, ?_⟩
  obtain ⟨g147, cap148, w146, he, hO149, hx150, hat151, hlt152⟩ := ef_append1 (P := Try.prog) (x := (.tmp 23)) (y := (.tmp 27)) (z := .string ⟨([] : List UInt8).toArray⟩) (sz := 1) (by_ := 16) hf rfl rfl Try.underlying23 (by kernel_rfl) rfl rfl hOL hB142 rfl rfl rfl (by simp only [maxLen, List.length_append, List.length_cons, List.length_nil]; omega) (by simp only [List.length_append, List.length_cons, List.length_nil]; omega) (hE.size) 23
  refine dl_e 6 (by kernel_rfl) rfl hf rfl rfl he fun a hf => ?_
  have ne_b2_g147 : b2 ≠ g147 := by have := hB2.lt; have := ne_b2_lg; omega
  have ne_bt_g147 : bt ≠ g147 := by have := hBT.lt; have := ne_bt_lg; omega
  have ne_b141_g147 : b141 ≠ g147 := by have := hB142.lt; have := (Ne.symm ne_lg_b141); omega
  have ne_p_g147 : p ≠ g147 := by have := hP.lt; have := ne_p_lg; omega
  have ne_kg_g147 : kg ≠ g147 := by have := (own_glt hOK); have := (Ne.symm ne_lg_kg); omega
  replace hKT : KidsAre (fun b => w.heap.size ≤ b ∧ b ≠ b2 ∧ b ≠ bt ∧ b ≠ lg ∧ b ≠ kg ∧ b ≠ g147) w140 _ _ := hKT.keepB (fun b hb hlt => by omega) (fun _ _ _ => rfl)
  have ge_g147 : w.heap.size ≤ g147 := own_gle hO149
  have hH_g147 : H ≤ g147 := by have := hP.le; have := hP.lt; omega
  replace hB2 := hB2.chg hx150 (nmc ne_b2_lg nm0)
  replace hBT := hBT.chg hx150 (nmc ne_bt_lg nm0)
  replace hB142 := hB142.chg hx150 (nmc (Ne.symm ne_lg_b141) nm0)
  replace hP := hP.chg hx150 (allc ⟨hH_lg, ne_p_lg⟩ all0)
  replace hOK := own_gchg hOK hx150 (nmc (Ne.symm ne_lg_kg) nm0)
  replace hKT := hKT.chg hx150 (fun b hb hlt => (nmc (by omega) nm0))
  replace hE := hE.trans hx150 (allc (.inr ge_lg) all0)
  clear hat151 hlt152
  clear hS0
  have hS0 := hBT.same s_hBT 2
  refine ⟨.inl hS0, ?_⟩
  refine dV 7 rfl rfl hsel (by kernel_rfl) hf rfl (.inl hS0) (fun x => ex_fa (k := 2) (r := 2) hf rfl (by kernel_rfl) rfl) fun a hf => ?_
  obtain ⟨w153, he, hB154, hx155⟩ := ef_store (P := Try.prog) (t := 23) (x := (.tmp 29)) (y := (.tmp 28)) hf rfl rfl (by kernel_rfl) rfl hBT (Nat.le_of_ble_eq_true rfl) 0
  refine dl_s 8 (by kernel_rfl) rfl hf rfl rfl he fun a hf => ?_
  replace hB2 := hB2.chg hx155 (nmc ne_b2_bt nm0)
  replace hB142 := hB142.chg hx155 (nmc (Ne.symm ne_bt_b141) nm0)
  replace hP := hP.chg hx155 (allc ⟨hH_bt, ne_p_bt⟩ all0)
  replace hOK := own_gchg hOK hx155 (nmc (Ne.symm ne_bt_kg) nm0)
  replace hKT := hKT.chg hx155 (fun b hb hlt => (nmc (by omega) nm0))
  replace hO149 := own_gchg hO149 hx155 (nmc (Ne.symm ne_bt_g147) nm0)
  replace hE := hE.trans hx155 (allc (.inr ge_bt) all0)
  clear hBT
  refine ⟨.inr (by kernel_rfl), ?_⟩
  refine dl_done (by kernel_rfl) ?_
  clear hS0 hsel
  refine hK135 _ _ <| wS fun K156 hK156 => wS fun K157 hK157 => wR <| sV hf rfl (ex_fa (k := 3) (r := 3) hf rfl (by kernel_rfl) rfl) fun a hf => sV hf rfl (ex_loadB hf rfl (by kernel_rfl) hB154 rfl) fun a hf => sV hf rfl (ex_len hf Try.underlying24 rfl) fun a hf => sV hf rfl (ex_eqI (c := false) hf rfl rfl (iEqF (by omega))) fun a hf => sM hf rfl rfl fun a hf => st_k hf rfl rfl fun a hf => st_k hf rfl rfl fun a hf => st_k hf rfl rfl fun a hf => sV hf rfl (ex_pickF hf rfl rfl) fun a hf => sN <| hK157 _ _ <| cF hf rfl <| wp_skip <| hK156 _ _ ?_
  have s_hB154 := hB154
  refine dl_start (fun x => x.cell? ⟨bt, 3, none⟩ = w153.cell? ⟨bt, 3, none⟩) 7 8 rfl (by kernel_rfl) (by kernel_rfl) ?_
  intro w158 hx159 hsel
  replace hB2 := hB2.c0 hx159
  replace hB154 := hB154.c0 hx159
  replace hB142 := hB142.c0 hx159
  replace hP := hP.chg hx159 all0
  replace hOK := own_gchg hOK hx159 nm0
  replace hKT := hKT.chg hx159 (fun b hb hlt => nm0)
  replace hO149 := own_gchg hO149 hx159 nm0
  replace hE := hE.t0 hx159
  have hS0 := hB154.same s_hB154 3
  refine dV 0 rfl rfl hsel (by kernel_rfl) hf rfl (.inl hS0) (fun x => ex_fa (k := 3) (r := 3) hf rfl (by kernel_rfl) rfl) fun a hf => dL 1 rfl rfl hsel (by kernel_rfl) hf rfl hS0 (fun x hS => ex_load hf rfl (by kernel_rfl) (hS.trans ((s_hB154.cell 3).trans rfl))) fun a hf => dM 2 rfl rfl hsel (by kernel_rfl) hf rfl hS0 rfl fun a hf => ?_
  have plt160 := hP.lt
  refine dl_c 3 (by kernel_rfl) rfl hf rfl rfl rfl (by kernel_rfl) (ih _ _ (pTake s') _ hP (by have := pFail_len 3 (pTake s'); omega)) ?_
  rintro _ w161 ⟨c160_0, c160_1, c160_2, c160_3, rfl, hT160, hP, hx160, hl160⟩
  refine ⟨_, rfl, fun a hf => ?_⟩
  obtain ⟨lo162, elo162⟩ : ∃ x, x = w158.heap.size := ⟨_, rfl⟩
  obtain ⟨hi162, ehi162⟩ : ∃ x, x = w161.heap.size := ⟨_, rfl⟩
  replace hT160 := hT160.within elo162 ehi162
  have hle162 : hi162 ≤ w161.heap.size := Nat.le_of_eq ehi162
  have ge_lo162 : w.heap.size ≤ lo162 := elo162 ▸ hE.size
  have tb_lo162_b2 : b2 < lo162 := elo162 ▸ hB2.lt
  have tb_lo162_bt : bt < lo162 := elo162 ▸ hB154.lt
  have tb_lo162_b141 : b141 < lo162 := elo162 ▸ hB142.lt
  have tb_lo162_p : p < lo162 := elo162 ▸ plt160
  have tb_lo162_kg : kg < lo162 := elo162 ▸ (own_glt hOK)
  have tb_lo162_g147 : g147 < lo162 := elo162 ▸ (own_glt hO149)
  clear elo162 ehi162
  clear plt160
  have on_hT160 := hT160.one
  replace hB2 := hB2.chg hx160 (nmc (Ne.symm ne_p_b2) nm0)
  replace hB154 := hB154.chg hx160 (nmc (Ne.symm ne_p_bt) nm0)
  replace hB142 := hB142.chg hx160 (nmc (Ne.symm ne_p_b141) nm0)
  replace hOK := own_gchg hOK hx160 (nmc (Ne.symm ne_p_kg) nm0)
  replace hKT := hKT.chg hx160 (fun b hb hlt => (nmc (by omega) nm0))
  replace hO149 := own_gchg hO149 hx160 (nmc (Ne.symm ne_p_g147) nm0)
  replace hE := hE.trans hx160 (allc (.inl (by simp)) all0)
  clear hS0
  have hS0 := hB154.same s_hB154 3
  refine ⟨.inl hS0, ?_⟩
  obtain ⟨w163, b164, he, hB165, hx166, eb167, lb168⟩ := ef_bslice (P := Try.prog) (ps := [(0, (.tmp 44))]) (m := 1) (sz := 4) (z := zT) hf rfl Try.underlying24 (by kernel_rfl) (by kernel_rfl) rfl rfl (by kernel_rfl) rfl w161 24
  refine dl_e 4 (by kernel_rfl) rfl hf rfl rfl he fun a hf => ?_
  have ne_b2_b164 : b2 ≠ b164 := ne_new hB2.lt eb167
  have ne_bt_b164 : bt ≠ b164 := ne_new hB154.lt eb167
  have ne_b141_b164 : b141 ≠ b164 := ne_new hB142.lt eb167
  have ne_p_b164 : p ≠ b164 := ne_new hP.lt eb167
  have ne_kg_b164 : kg ≠ b164 := ne_new (own_glt hOK) eb167
  have ne_g147_b164 : g147 ≠ b164 := ne_new (own_glt hO149) eb167
  have ta_hi162_b164 : hi162 ≤ b164 := eb167 ▸ hle162
  have ge_b164 := ge_new hE eb167
  have hH_b164 : H ≤ b164 := by have := hP.le; have := hP.lt; omega
  replace hB2 := hB2.c0 hx166
  replace hB154 := hB154.c0 hx166
  replace hB142 := hB142.c0 hx166
  replace hP := hP.chg hx166 all0
  replace hOK := own_gchg hOK hx166 nm0
  replace hKT := hKT.chg hx166 (fun b hb hlt => nm0)
  replace hO149 := own_gchg hO149 hx166 nm0
  replace hT160 := hT160.chg hx166 (fun b hb _ => nm0)
  replace hle162 := nlt hle162 hx166.size
  replace hE := hE.t0 hx166
  clear eb167 lb168
  clear hS0
  have hS0 := hB154.same s_hB154 3
  refine ⟨.inl hS0, ?_⟩
  obtain ⟨g170, cap171, w169, he, hO172, hx173, hat174, hlt175⟩ := ef_append1 (P := Try.prog) (x := (.tmp 42)) (y := (.tmp 45)) (z := .agg zA) (sz := 4) (by_ := 72) hf rfl rfl Try.underlying24 (by kernel_rfl) rfl rfl hOK hB165 rfl on_hT160 rfl (by simp only [maxLen]; omega) (by omega) (hE.size) 24
  refine dl_e 5 (by kernel_rfl) rfl hf rfl rfl he fun a hf => ?_
  have ne_b2_g170 : b2 ≠ g170 := by have := hB2.lt; have := ne_b2_kg; omega
  have ne_bt_g170 : bt ≠ g170 := by have := hB154.lt; have := ne_bt_kg; omega
  have ne_b141_g170 : b141 ≠ g170 := by have := hB142.lt; have := (Ne.symm ne_kg_b141); omega
  have ne_b164_g170 : b164 ≠ g170 := by have := hB165.lt; have := (Ne.symm ne_kg_b164); omega
  have ne_p_g170 : p ≠ g170 := by have := hP.lt; have := ne_p_kg; omega
  have ne_g147_g170 : g147 ≠ g170 := by have := (own_glt hO149); have := (Ne.symm ne_kg_g147); omega
  have ta_hi162_g170 : hi162 ≤ g170 ∨ g170 < lo162 := by have := hle162; omega
  replace hKT : KidsAre (fun b => w.heap.size ≤ b ∧ b ≠ b2 ∧ b ≠ bt ∧ b ≠ lg ∧ b ≠ kg ∧ b ≠ g147 ∧ b ≠ g170) w163 _ _ := hKT.keepB (fun b hb hlt => by omega) (fun _ _ _ => rfl)
  have ge_g170 : w.heap.size ≤ g170 := own_gle hO172
  have hH_g170 : H ≤ g170 := by have := hP.le; have := hP.lt; omega
  replace hB2 := hB2.chg hx173 (nmc ne_b2_kg nm0)
  replace hB154 := hB154.chg hx173 (nmc ne_bt_kg nm0)
  replace hB142 := hB142.chg hx173 (nmc (Ne.symm ne_kg_b141) nm0)
  replace hB165 := hB165.chg hx173 (nmc (Ne.symm ne_kg_b164) nm0)
  replace hP := hP.chg hx173 (allc ⟨hH_kg, ne_p_kg⟩ all0)
  replace hKT := hKT.chg hx173 (fun b hb hlt => (nmc (by omega) nm0))
  replace hO149 := own_gchg hO149 hx173 (nmc (Ne.symm ne_kg_g147) nm0)
  replace hT160 := hT160.chg hx173 (fun b hb _ => (nmc (by omega) nm0))
  replace hle162 := nlt hle162 hx173.size
  replace hE := hE.trans hx173 (allc (.inr ge_kg) all0)
  clear hat174 hlt175
  clear hS0
  have hS0 := hB154.same s_hB154 3
  refine ⟨.inl hS0, ?_⟩
  refine dV 6 rfl rfl hsel (by kernel_rfl) hf rfl (.inl hS0) (fun x => ex_fa (k := 3) (r := 3) hf rfl (by kernel_rfl) rfl) fun a hf => ?_
  obtain ⟨w176, he, hB177, hx178⟩ := ef_store (P := Try.prog) (t := 24) (x := (.tmp 47)) (y := (.tmp 46)) hf rfl rfl (by kernel_rfl) rfl hB154 (Nat.le_of_ble_eq_true rfl) 0
  refine dl_s 7 (by kernel_rfl) rfl hf rfl rfl he fun a hf => ?_
  replace hB2 := hB2.chg hx178 (nmc ne_b2_bt nm0)
  replace hB142 := hB142.chg hx178 (nmc (Ne.symm ne_bt_b141) nm0)
  replace hB165 := hB165.chg hx178 (nmc (Ne.symm ne_bt_b164) nm0)
  replace hP := hP.chg hx178 (allc ⟨hH_bt, ne_p_bt⟩ all0)
  replace hKT := hKT.chg hx178 (fun b hb hlt => (nmc (by omega) nm0))
  replace hO149 := own_gchg hO149 hx178 (nmc (Ne.symm ne_bt_g147) nm0)
  replace hT160 := hT160.chg hx178 (fun b hb _ => (nmc (by omega) nm0))
  replace hle162 := nlt hle162 hx178.size
  replace hO172 := own_gchg hO172 hx178 (nmc (Ne.symm ne_bt_g170) nm0)
  replace hE := hE.trans hx178 (allc (.inr ge_bt) all0)
  clear hB154
  refine ⟨.inr (by kernel_rfl), ?_⟩
  refine dl_done (by kernel_rfl) ?_
  clear hS0 hsel
  have hR' := (commaF_step hcm (if_neg (fun h => hmost h.1))).symm.trans hR
  have e1 : ([(pWord [91] s).1, []] ++ cs).length + 1 = ([(pWord [91] s).1, []] ++ (cs ++ [(pNext s').lead])).length := by simp
  have e2 : ks.length + 1 = (ks ++ [((exprT n) (pTake s')).1]).length := by simp
  have e3 : List.map strV ([(pWord [91] s).1, []] ++ cs) ++ [strV (pNext s').lead] = List.map strV ([(pWord [91] s).1, []] ++ (cs ++ [(pNext s').lead])) := by simp
  have hBT2 : Blk w176 bt 26 [.int .i64 18, strV ([]), .slice (some ⟨g147, 0, none⟩) (([(pWord [91] s).1, []] ++ cs).length + 1) cap148, .slice (some ⟨g170, 0, none⟩) (ks.length + 1) cap171] := hB177
  rw [e1, e2] at hBT2
  have hOL2 := hO149
  have hOK2 := hO172
  have hOL3 : w176.ownsRow w.heap.size 9 1 (.slice (some ⟨g147, 0, none⟩) (([(pWord [91] s).1, []] ++ cs).length + 1) cap148) (([(pWord [91] s).1, []] ++ cs).length + 1) (List.map strV ([(pWord [91] s).1, []] ++ cs) ++ [strV (pNext s').lead]) := by rw [hn']; exact hOL2
  rw [e1, e3] at hOL3
  rw [e2] at hOK2
  have hl3 : ((exprT n) (pTake s')).2.toks.length < s'.toks.length := by have := hl160; have := pFail_len 3 (pTake s'); omega
  subst eb2 ebt
  exact ⟨_, hl3, cs ++ [(pNext s').lead], ks ++ [((exprT n) (pTake s')).1], _, g147, _, g170, _, _, F', hf.pick ⟨rfl, rfl, rfl, trivial⟩, ⟨hP, hE, hB2, hBT2, hOL3, hOK2, KidsAre.snoc (hKT.keepB (fun b hb hlt => by omega) (fun _ _ _ => rfl)) (hT160.mono (fun b hb => by omega)), ge_b2, ge_bt, lt_p, ne_b2_bt, by omega, by omega, by omega, by omega, by omega⟩, rfl, by omega, hR', by omega, by rw [← e2]; omega, by simp; omega⟩
  have hL := hLs
  have hRe := (commaF_stop hcm).symm.trans hR
  refine wS fun K179 hK179 => wS fun K180 hK180 => wR <| sM hf rfl rfl fun a hf => st_c hf rfl rfl rfl (by kernel_rfl) (pNextL hP) ?_
  rintro _ w182 ⟨rfl, hP, hx181⟩
  refine ⟨_, rfl, fun a hf => ?_⟩
  replace hB2 := hB2.c0 hx181
  replace hBT := hBT.c0 hx181
  replace hOL := own_gchg hOL hx181 nm0
  replace hOK := own_gchg hOK hx181 nm0
  replace hKT := hKT.chg hx181 (fun b hb hlt => nm0)
  replace hE := hE.t0 hx181
  refine sV hf rfl (ex_fd (k := 2) hf rfl (by kernel_rfl) rfl) fun a hf => sV hf rfl (ex_eqS (c := false) hf rfl rfl (beqF hcm)) fun a hf => sN <| hK180 _ _ <| cF hf rfl <| wp_exit ?_
  simp only [Exit.then, Exit.inBlock, ↓reduceIte, Nat.reduceEqDiff]
  refine hK54 _ _ <| wS fun K183 hK183 => ?_
  have s_hBT := hBT
  refine dl_start (fun x => x.cell? ⟨bt, 2, none⟩ = w182.cell? ⟨bt, 2, none⟩) 6 6 rfl (by kernel_rfl) (by kernel_rfl) ?_
  intro w184 hx185 hsel
  replace hB2 := hB2.c0 hx185
  replace hBT := hBT.c0 hx185
  replace hP := hP.chg hx185 all0
  replace hOL := own_gchg hOL hx185 nm0
  replace hOK := own_gchg hOK hx185 nm0
  replace hKT := hKT.chg hx185 (fun b hb hlt => nm0)
  replace hE := hE.t0 hx185
  have hS0 := hBT.same s_hBT 2
  refine dV 0 rfl rfl hsel (by kernel_rfl) hf rfl (.inl hS0) (fun x => ex_fa (k := 2) (r := 2) hf rfl (by kernel_rfl) rfl) fun a hf => dL 1 rfl rfl hsel (by kernel_rfl) hf rfl hS0 (fun x hS => ex_load hf rfl (by kernel_rfl) (hS.trans ((s_hBT.cell 2).trans rfl))) fun a hf => dM 2 rfl rfl hsel (by kernel_rfl) hf rfl hS0 rfl fun a hf => dl_c 3 (by kernel_rfl) rfl hf rfl rfl rfl (by kernel_rfl) (pWordL (x := [93]) hP (by decide)) ?_
  rintro _ w187 ⟨rfl, hP, hx186⟩
  refine ⟨_, rfl, fun a hf => ?_⟩
  replace hB2 := hB2.chg hx186 (nmc (Ne.symm ne_p_b2) nm0)
  replace hBT := hBT.chg hx186 (nmc (Ne.symm ne_p_bt) nm0)
  replace hOL := own_gchg hOL hx186 (nmc (Ne.symm ne_p_lg) nm0)
  replace hOK := own_gchg hOK hx186 (nmc (Ne.symm ne_p_kg) nm0)
  replace hKT := hKT.chg hx186 (fun b hb hlt => (nmc (by omega) nm0))
  replace hE := hE.trans hx186 (allc (.inl (by simp)) all0)
  replace hL := nlt (pWord_len [93] _) hL
  clear hS0
  have hS0 := hBT.same s_hBT 2
  refine ⟨.inl hS0, ?_⟩
  refine dV 4 rfl rfl hsel (by kernel_rfl) hf rfl (.inl hS0) (fun x => ex_index (sz := 1) (k := 1) (r := 1) hf Try.underlying23 (by kernel_rfl) rfl rfl rfl (by first | decide | simp) rfl) fun a hf => ?_
  obtain ⟨w188, he, hO189, hx190⟩ := ef_storeO (P := Try.prog) (t := 9) (x := (.tmp 52)) (y := (.tmp 51)) hf rfl rfl (by kernel_rfl) rfl hOL (by simp) 0
  refine dl_s 5 (by kernel_rfl) rfl hf rfl rfl he fun a hf => ?_
  replace hB2 := hB2.chg hx190 (nmc ne_b2_lg nm0)
  replace hBT := hBT.chg hx190 (nmc ne_bt_lg nm0)
  replace hP := hP.chg hx190 (allc ⟨hH_lg, ne_p_lg⟩ all0)
  replace hOK := own_gchg hOK hx190 (nmc (Ne.symm ne_lg_kg) nm0)
  replace hKT := hKT.chg hx190 (fun b hb hlt => (nmc (by omega) nm0))
  replace hE := hE.trans hx190 (allc (.inr ge_lg) all0)
  clear hOL
  clear hS0
  have hS0 := hBT.same s_hBT 2
  refine ⟨.inl hS0, ?_⟩
  refine dl_done (by kernel_rfl) ?_
  clear hS0 hsel
  refine hK183 _ _ <| wS fun K191 hK191 => wR <| sV hf rfl (ex_loadBN (m := 4) hf rfl (by kernel_rfl) hBT rfl) fun a hf => ?_
  obtain ⟨w192, he, hB193, hx194⟩ := eN (.tmp 2) (.tmp 53) hf rfl rfl rfl rfl hB2 rfl 0
  refine st_s hf rfl rfl he fun a hf => ?_
  replace hBT := hBT.chg hx194 (nmc (Ne.symm ne_b2_bt) nm0)
  replace hP := hP.chg hx194 (allc ⟨hH_b2, ne_p_b2⟩ all0)
  replace hO189 := own_gchg hO189 hx194 (nmc (Ne.symm ne_b2_lg) nm0)
  replace hOK := own_gchg hOK hx194 (nmc (Ne.symm ne_b2_kg) nm0)
  replace hKT := hKT.chg hx194 (fun b hb hlt => (nmc (by omega) nm0))
  replace hE := hE.trans hx194 (allc (.inr ge_b2) all0)
  clear hB2
  refine sN <| hK191 _ _ <| wp_ret ?_
  have hq : listF (exprT n) s = (.node 18 [] ([(pWord [91] s).1, (pWord [93] s').1] ++ cs) ks, (pWord [93] s').2) := by simp only [listF, hRd, ← hRe]
  rw [hq]
  try simp only [Exit.then, Exit.inBlock]
  exact ret_of (rs := [.cell 2 26]) hf rfl ⟨_, _, _, _, 4, rfl, rfl, by kernel_rfl, hB193, rfl, rfl⟩ ⟨_, _, _, _, rfl, tree_mk (own_cap hO189).1 (own_cap hO189).2 (own_cap hOK).1 (own_cap hOK).2 (RowIn.of_own hO189) (hKT.mono (fun b hb => hb.1)) (RowIn.of_own hOK), hP, hE, hL⟩
theorem useVarL {H p n : Nat} {s : PS} {w : World} (ih : ExprOk n) (hP : PAt H w p s) {t : Tok} {r : List Tok} (hn : s.toks.length < n + 1) (hs : s.toks = t :: r) (hnx : pNext s = t) (hk : t.kind = 1) (hx : ¬ (pNext (pTake s)).text = [40]) : Calls Try.prog 117 [.pointer (some ⟨p, 0, none⟩)].toArray w (TreePost w H p s (useF (exprT n) s)) := by
  have htl := pTake_lt hs
  have hq : useF (exprT n) s = (.node 12 t.text [t.lead] [], pTake s) := by unfold useF; rw [hnx, if_pos ⟨hk, hx⟩]
  refine enter_fr 83 Try.func117 rfl rfl rfl ?_
  intro a hf
  have hE := Chg.refl [p] w
  have hL := Nat.le_refl s.toks.length
  have lt_p := hP.lt
  refine wS fun K1 hK1 => wR ?_
  obtain ⟨w2, b3, he, hB4, hx5, eb6, lb7⟩ := eT a w 0
  refine sV hf rfl he fun a hf => ?_
  have ne_p_b3 : p ≠ b3 := ne_new hP.lt eb6
  have ge_b3 := ge_new hE eb6
  have hH_b3 : H ≤ b3 := by have := hP.le; have := hP.lt; omega
  replace hP := hP.chg hx5 all0
  replace hE := hE.t0 hx5
  clear eb6 lb7
  refine sN <| hK1 _ _ <| wS fun K8 hK8 => wR <| sM hf rfl rfl fun a hf => st_c hf rfl rfl rfl (by kernel_rfl) (pTakeL hP hs) ?_
  rintro _ w10 ⟨rfl, hP, hx9⟩
  refine ⟨_, rfl, fun a hf => ?_⟩
  replace hB4 := hB4.chg hx9 (nmc (Ne.symm ne_p_b3) nm0)
  replace hE := hE.trans hx9 (allc (.inl (by simp)) all0)
  replace hL := Nat.le_refl (pTake s).toks.length
  obtain ⟨w11, b12, he, hB13, hx14, eb15, lb16⟩ := ef_alloc (P := Try.prog) (t := 49) [.int .i64 0, .string ⟨([] : List UInt8).toArray⟩, .string ⟨([] : List UInt8).toArray⟩] (by kernel_rfl) a w10 0
  refine sV hf rfl he fun a hf => ?_
  have ne_b3_b12 : b3 ≠ b12 := ne_new hB4.lt eb15
  have ne_p_b12 : p ≠ b12 := ne_new hP.lt eb15
  have ge_b12 := ge_new hE eb15
  have hH_b12 : H ≤ b12 := by have := hP.le; have := hP.lt; omega
  replace hB4 := hB4.c0 hx14
  replace hP := hP.chg hx14 all0
  replace hE := hE.t0 hx14
  clear eb15 lb16
  obtain ⟨w17, he, hB18, hx19⟩ := ef_storeN (P := Try.prog) (t := 49) (x := (.tmp 3)) (y := (.tmp 6)) (m := 3) hf rfl rfl (by kernel_rfl) rfl rfl hB13 rfl 0
  refine st_s hf rfl rfl he fun a hf => ?_
  replace hB4 := hB4.chg hx19 (nmc ne_b3_b12 nm0)
  replace hP := hP.chg hx19 (allc ⟨hH_b12, ne_p_b12⟩ all0)
  replace hE := hE.trans hx19 (allc (.inr ge_b12) all0)
  clear hB13
  refine sN <| hK8 _ _ <| wS fun K20 hK20 => wS fun K21 hK21 => wR <| sV hf rfl (ex_fa (k := 0) (r := 0) hf rfl (by kernel_rfl) rfl) fun a hf => sV hf rfl (ex_loadB hf rfl (by kernel_rfl) hB18 rfl) fun a hf => sV hf rfl (ex_eqI (c := true) hf rfl rfl (iEqT hk)) fun a hf => sM hf rfl rfl fun a hf => sM hf rfl rfl fun a hf => st_c hf rfl rfl rfl (by kernel_rfl) (pNextL hP) ?_
  rintro _ w23 ⟨rfl, hP, hx22⟩
  refine ⟨_, rfl, fun a hf => ?_⟩
  replace hB4 := hB4.c0 hx22
  replace hB18 := hB18.c0 hx22
  replace hE := hE.t0 hx22
  refine sV hf rfl (ex_fd (k := 2) hf rfl (by kernel_rfl) rfl) fun a hf => sV hf rfl (ex_neS (c := true) hf rfl rfl (bneT hx)) fun a hf => sV hf rfl (ex_pickT hf rfl rfl) fun a hf => sN <| hK21 _ _ <| cT hf rfl <| wS fun K24 hK24 => wR <| sV hf rfl (ex_fa (k := 2) (r := 2) hf rfl (by kernel_rfl) rfl) fun a hf => sV hf rfl (ex_loadB hf rfl (by kernel_rfl) hB18 rfl) fun a hf => sV hf rfl (ex_fa (k := 1) (r := 1) hf rfl (by kernel_rfl) rfl) fun a hf => sV hf rfl (ex_loadB hf rfl (by kernel_rfl) hB18 rfl) fun a hf => ?_
  obtain ⟨w25, b26, he, hB27, hx28, eb29, lb30⟩ := ef_bslice (P := Try.prog) (ps := [(0, (.tmp 19))]) (m := 1) (sz := 1) (z := [.string ⟨([] : List UInt8).toArray⟩]) hf rfl Try.underlying23 (by kernel_rfl) (by kernel_rfl) rfl rfl (by kernel_rfl) rfl w23 23
  refine sV hf rfl he fun a hf => ?_
  have ne_b3_b26 : b3 ≠ b26 := ne_new hB4.lt eb29
  have ne_b12_b26 : b12 ≠ b26 := ne_new hB18.lt eb29
  have ne_p_b26 : p ≠ b26 := ne_new hP.lt eb29
  have ge_b26 := ge_new hE eb29
  have hH_b26 : H ≤ b26 := by have := hP.le; have := hP.lt; omega
  replace hB4 := hB4.c0 hx28
  replace hB18 := hB18.c0 hx28
  replace hP := hP.chg hx28 all0
  replace hE := hE.t0 hx28
  clear eb29 lb30
  refine sV hf rfl (ex_bd (ps := [(0, (.const (.int .i64 12))), (1, (.tmp 17)), (2, (.tmp 20))]) (z := zT) (os := [0, 1, 2]) hf rfl (by kernel_rfl) (by kernel_rfl) (by kernel_rfl) rfl rfl) fun a hf => ?_
  obtain ⟨w31, he, hB32, hx33⟩ := eN (.tmp 2) (.tmp 21) hf rfl rfl rfl rfl hB4 rfl 0
  refine st_s hf rfl rfl he fun a hf => ?_
  replace hB18 := hB18.chg hx33 (nmc (Ne.symm ne_b3_b12) nm0)
  replace hB27 := hB27.chg hx33 (nmc (Ne.symm ne_b3_b26) nm0)
  replace hP := hP.chg hx33 (allc ⟨hH_b3, ne_p_b3⟩ all0)
  replace hE := hE.trans hx33 (allc (.inr ge_b3) all0)
  clear hB4
  refine sN <| hK24 _ _ <| wp_ret ?_
  rw [hq]
  try simp only [Exit.then, Exit.inBlock]
  exact ret_of (rs := [.cell 2 26]) hf rfl ⟨_, _, _, _, 4, rfl, rfl, by kernel_rfl, hB32, rfl, rfl⟩ ⟨_, _, _, _, rfl, tree_mk (Nat.le_refl _) (maxLen_ge rfl) (Nat.le_refl _) (maxLen_ge rfl) (RowIn.of_blk hB27 ge_b26 rfl) kids_none RowIn.none_, hP, hE, (nlt hL (pTake_len s))⟩
theorem useEmptyL {H p n : Nat} {s : PS} {w : World} (ih : ExprOk n) (hP : PAt H w p s) {t : Tok} {r : List Tok} (hn : s.toks.length < n + 1) (hs : s.toks = t :: r) (hnx : pNext s = t) (hop : t.kind = 1 → (pNext (pTake s)).text = [40]) (hcl : (pNext (pWord [40] (pTake s)).2).text = [41]) : Calls Try.prog 117 [.pointer (some ⟨p, 0, none⟩)].toArray w (TreePost w H p s (useF (exprT n) s)) := by
  have htl := pTake_lt hs
  replace hop : ∀ {b : Bool}, (t.kind == 1) = true → (pNext (pTake s)).text = [40] := fun h => hop (by simpa using h)
  have hq : useF (exprT n) s = (.node 16 t.text [t.lead, (pWord [40] (pTake s)).1, (pWord [41] (pWord [40] (pTake s)).2).1] [], (pWord [41] (pWord [40] (pTake s)).2).2) := by
    unfold useF; rw [hnx, if_neg (fun h => h.2 (hop (b := true) (by simp [h.1])))]; simp only [rowF, if_pos hcl, List.append_nil]
  refine enter_fr 83 Try.func117 rfl rfl rfl ?_
  intro a hf
  have hE := Chg.refl [p] w
  have hL := Nat.le_refl s.toks.length
  have lt_p := hP.lt
  refine wS fun K1 hK1 => wR ?_
  obtain ⟨w2, b3, he, hB4, hx5, eb6, lb7⟩ := eT a w 0
  refine sV hf rfl he fun a hf => ?_
  have ne_p_b3 : p ≠ b3 := ne_new hP.lt eb6
  have ge_b3 := ge_new hE eb6
  have hH_b3 : H ≤ b3 := by have := hP.le; have := hP.lt; omega
  replace hP := hP.chg hx5 all0
  replace hE := hE.t0 hx5
  clear eb6 lb7
  refine sN <| hK1 _ _ <| wS fun K8 hK8 => wR <| sM hf rfl rfl fun a hf => st_c hf rfl rfl rfl (by kernel_rfl) (pTakeL hP hs) ?_
  rintro _ w10 ⟨rfl, hP, hx9⟩
  refine ⟨_, rfl, fun a hf => ?_⟩
  replace hB4 := hB4.chg hx9 (nmc (Ne.symm ne_p_b3) nm0)
  replace hE := hE.trans hx9 (allc (.inl (by simp)) all0)
  replace hL := Nat.le_refl (pTake s).toks.length
  obtain ⟨w11, b12, he, hB13, hx14, eb15, lb16⟩ := ef_alloc (P := Try.prog) (t := 49) [.int .i64 0, .string ⟨([] : List UInt8).toArray⟩, .string ⟨([] : List UInt8).toArray⟩] (by kernel_rfl) a w10 0
  refine sV hf rfl he fun a hf => ?_
  have ne_b3_b12 : b3 ≠ b12 := ne_new hB4.lt eb15
  have ne_p_b12 : p ≠ b12 := ne_new hP.lt eb15
  have ge_b12 := ge_new hE eb15
  have hH_b12 : H ≤ b12 := by have := hP.le; have := hP.lt; omega
  replace hB4 := hB4.c0 hx14
  replace hP := hP.chg hx14 all0
  replace hE := hE.t0 hx14
  clear eb15 lb16
  obtain ⟨w17, he, hB18, hx19⟩ := ef_storeN (P := Try.prog) (t := 49) (x := (.tmp 3)) (y := (.tmp 6)) (m := 3) hf rfl rfl (by kernel_rfl) rfl rfl hB13 rfl 0
  refine st_s hf rfl rfl he fun a hf => ?_
  replace hB4 := hB4.chg hx19 (nmc ne_b3_b12 nm0)
  replace hP := hP.chg hx19 (allc ⟨hH_b12, ne_p_b12⟩ all0)
  replace hE := hE.trans hx19 (allc (.inr ge_b12) all0)
  clear hB13
  refine sN <| hK8 _ _ <| wp_seq_mid (fun a w' => ∃ b2 b3, Fr a 83 (fm [(0, .pointer (some ⟨p, 0, none⟩)), (2, .pointer (some ⟨b2, 0, none⟩)), (3, .pointer (some ⟨b3, 0, none⟩))]) ∧ PAt H w' p (pTake s) ∧ Chg [p] w w' ∧ Blk w' b2 26 [.int .i64 0, strV [], .slice none 0 0, .slice none 0 0] ∧ Blk w' b3 49 [.int .i64 t.kind, strV t.lead, strV t.text] ∧ w.heap.size ≤ b2 ∧ w.heap.size ≤ b3 ∧ b2 ≠ b3) ?_ ?_
  refine wS fun K20 hK20 => wR <| sV hf rfl (ex_fa (k := 0) (r := 0) hf rfl (by kernel_rfl) rfl) fun a hf => sV hf rfl (ex_loadB hf rfl (by kernel_rfl) hB18 rfl) fun a hf => st_b hf rfl rfl (fun c hc => ex_eqI hf rfl rfl hc) ?_ ?_
  clear hf a; intro hk1 a hf
  refine sM hf rfl rfl fun a hf => sM hf rfl rfl fun a hf => st_c hf rfl rfl rfl (by kernel_rfl) (pNextL hP) ?_
  rintro _ w22 ⟨rfl, hP, hx21⟩
  refine ⟨_, rfl, fun a hf => ?_⟩
  replace hB4 := hB4.c0 hx21
  replace hB18 := hB18.c0 hx21
  replace hE := hE.t0 hx21
  refine sV hf rfl (ex_fd (k := 2) hf rfl (by kernel_rfl) rfl) fun a hf => sV hf rfl (ex_neS (c := false) hf rfl rfl (bneF (hop (b := true) hk1))) fun a hf => sV hf rfl (ex_pickT hf rfl rfl) fun a hf => sN <| hK20 _ _ <| cF hf rfl <| wp_skip ?_
  exact ⟨b3, b12, hf.pick ⟨rfl, rfl, rfl, trivial⟩, hP, hE, hB4, hB18, ge_b3, ge_b12, ne_b3_b12⟩
  clear hf a; intro hk1 a hf
  refine sM hf rfl rfl fun a hf => st_k hf rfl rfl fun a hf => st_k hf rfl rfl fun a hf => st_k hf rfl rfl fun a hf => st_k hf rfl rfl fun a hf => sV hf rfl (ex_pickF hf rfl rfl) fun a hf => sN <| hK20 _ _ <| cF hf rfl <| wp_skip ?_
  exact ⟨b3, b12, hf.pick ⟨rfl, rfl, rfl, trivial⟩, hP, hE, hB4, hB18, ge_b3, ge_b12, ne_b3_b12⟩
  clear hf a; intro a w' hM
  obtain ⟨b2, b3, hf, hP, hE, hB2, hB3, ge_b2, ge_b3, n1⟩ := hM
  have ne_p_b2 : p ≠ b2 := by omega
  have hH_b2 : H ≤ b2 := by have := hP.le; omega
  have ne_p_b3 : p ≠ b3 := by omega
  have hH_b3 : H ≤ b3 := by have := hP.le; omega
  have ne_b2_b3 : b2 ≠ b3 := by omega
  have hL := Nat.le_refl (pTake s).toks.length
  refine wp_seq_mid (fun a w' => ∃ b2 b3 bt lg, Fr a 83 (fm [(0, .pointer (some ⟨p, 0, none⟩)), (2, .pointer (some ⟨b2, 0, none⟩)), (3, .pointer (some ⟨b3, 0, none⟩)), (4, .pointer (some ⟨bt, 0, none⟩))]) ∧ PAt H w' p (pTake s) ∧ Chg [p] w w' ∧ Blk w' b2 26 [.int .i64 0, strV [], .slice none 0 0, .slice none 0 0] ∧ Blk w' b3 49 [.int .i64 t.kind, strV t.lead, strV t.text] ∧ Blk w' lg 9 [strV [], strV [], strV []] ∧ Blk w' bt 26 [.int .i64 16, strV t.text, .slice (some ⟨lg, 0, none⟩) 3 3, .slice none 0 0] ∧ w.heap.size ≤ b2 ∧ w.heap.size ≤ b3 ∧ w.heap.size ≤ bt ∧ w.heap.size ≤ lg ∧ b2 ≠ b3 ∧ b2 ≠ bt ∧ b2 ≠ lg ∧ b3 ≠ bt ∧ b3 ≠ lg ∧ bt ≠ lg) ?_ ?_
  have s_hB3 := hB3
  refine dl_start (fun x => x.cell? ⟨b3, 2, none⟩ = w'.cell? ⟨b3, 2, none⟩) 6 6 rfl (by kernel_rfl) (by kernel_rfl) ?_
  intro w23 hx24 hsel
  replace hB2 := hB2.c0 hx24
  replace hB3 := hB3.c0 hx24
  replace hP := hP.chg hx24 all0
  replace hE := hE.t0 hx24
  have hS0 := hB3.same s_hB3 2
  refine dV 0 rfl rfl hsel (by kernel_rfl) hf rfl (.inl hS0) (fun x => ex_fa (k := 2) (r := 2) hf rfl (by kernel_rfl) rfl) fun a hf => dL 1 rfl rfl hsel (by kernel_rfl) hf rfl hS0 (fun x hS => ex_load hf rfl (by kernel_rfl) (hS.trans ((s_hB3.cell 2).trans rfl))) fun a hf => dl_two 2 4 (by kernel_rfl) ?_ ?_
  obtain ⟨w25, b26, he, hB27, hx28, eb29, lb30⟩ := ef_make (P := Try.prog) (m := 3) (x := (.const (.int .i64 3))) (y := (.const (.int .i64 3))) (z := .string ⟨([] : List UInt8).toArray⟩) (sz := 1) (by_ := 16) (cs := [.string ⟨([] : List UInt8).toArray⟩, .string ⟨([] : List UInt8).toArray⟩, .string ⟨([] : List UInt8).toArray⟩]) hf rfl rfl Try.underlying23 (by kernel_rfl) (by kernel_rfl) (by kernel_rfl) (by kernel_rfl) w23 23
  refine op_e 2 rfl hf rfl rfl he fun a hf => ?_
  have ne_b2_b26 : b2 ≠ b26 := ne_new hB2.lt eb29
  have ne_b3_b26 : b3 ≠ b26 := ne_new hB3.lt eb29
  have ne_p_b26 : p ≠ b26 := ne_new hP.lt eb29
  have ge_b26 := ge_new hE eb29
  have hH_b26 : H ≤ b26 := by have := hP.le; have := hP.lt; omega
  replace hB2 := hB2.c0 hx28
  replace hB3 := hB3.c0 hx28
  replace hP := hP.chg hx28 all0
  replace hE := hE.t0 hx28
  clear eb29 lb30
  clear hS0
  have hS0 := hB3.same s_hB3 2
  refine ⟨.inl hS0, ?_⟩
  refine dV 3 rfl rfl hsel (by kernel_rfl) hf rfl (.inl hS0) (fun x => ex_bd (ps := [(0, (.const (.int .i64 16))), (1, (.tmp 23)), (2, (.tmp 24))]) (z := zT) (os := [0, 1, 2]) hf rfl (by kernel_rfl) (by kernel_rfl) (by kernel_rfl) rfl rfl) fun a hf => ?_
  obtain ⟨w31, b32, he, hB33, hx34, eb35, lb36⟩ := eT a w25 0
  refine dl_e 4 (by kernel_rfl) rfl hf rfl rfl he fun a hf => ?_
  have ne_b2_b32 : b2 ≠ b32 := ne_new hB2.lt eb35
  have ne_b3_b32 : b3 ≠ b32 := ne_new hB3.lt eb35
  have ne_b26_b32 : b26 ≠ b32 := ne_new hB27.lt eb35
  have ne_p_b32 : p ≠ b32 := ne_new hP.lt eb35
  have ge_b32 := ge_new hE eb35
  have hH_b32 : H ≤ b32 := by have := hP.le; have := hP.lt; omega
  replace hB2 := hB2.c0 hx34
  replace hB3 := hB3.c0 hx34
  replace hB27 := hB27.c0 hx34
  replace hP := hP.chg hx34 all0
  replace hE := hE.t0 hx34
  clear eb35 lb36
  clear hS0
  have hS0 := hB3.same s_hB3 2
  refine ⟨.inl hS0, ?_⟩
  obtain ⟨w37, he, hB38, hx39⟩ := eN (.tmp 4) (.tmp 25) hf rfl rfl rfl rfl hB33 rfl 0
  refine dl_s 5 (by kernel_rfl) rfl hf rfl rfl he fun a hf => ?_
  replace hB2 := hB2.chg hx39 (nmc ne_b2_b32 nm0)
  replace hB3 := hB3.chg hx39 (nmc ne_b3_b32 nm0)
  replace hB27 := hB27.chg hx39 (nmc ne_b26_b32 nm0)
  replace hP := hP.chg hx39 (allc ⟨hH_b32, ne_p_b32⟩ all0)
  replace hE := hE.trans hx39 (allc (.inr ge_b32) all0)
  clear hB33
  clear hS0
  have hS0 := hB3.same s_hB3 2
  refine ⟨.inl hS0, ?_⟩
  refine dl_done (by kernel_rfl) ?_
  clear hS0 hsel
  exact ⟨b2, b3, b32, b26, hf.pick ⟨rfl, rfl, rfl, rfl, trivial⟩, hP, hE, hB2, hB3, hB27, hB38, ge_b2, ge_b3, ge_b32, ge_b26, ne_b2_b3, ne_b2_b32, ne_b2_b26, ne_b3_b32, ne_b3_b26, (Ne.symm ne_b26_b32)⟩
  obtain ⟨w40, b41, he, hB42, hx43, eb44, lb45⟩ := eT a w23 0
  refine op_e 4 rfl hf rfl rfl he fun a hf => ?_
  have ne_b2_b41 : b2 ≠ b41 := ne_new hB2.lt eb44
  have ne_b3_b41 : b3 ≠ b41 := ne_new hB3.lt eb44
  have ne_p_b41 : p ≠ b41 := ne_new hP.lt eb44
  have ge_b41 := ge_new hE eb44
  have hH_b41 : H ≤ b41 := by have := hP.le; have := hP.lt; omega
  replace hB2 := hB2.c0 hx43
  replace hB3 := hB3.c0 hx43
  replace hP := hP.chg hx43 all0
  replace hE := hE.t0 hx43
  clear eb44 lb45
  clear hS0
  have hS0 := hB3.same s_hB3 2
  refine ⟨.inl hS0, ?_⟩
  obtain ⟨w46, b47, he, hB48, hx49, eb50, lb51⟩ := ef_make (P := Try.prog) (m := 3) (x := (.const (.int .i64 3))) (y := (.const (.int .i64 3))) (z := .string ⟨([] : List UInt8).toArray⟩) (sz := 1) (by_ := 16) (cs := [.string ⟨([] : List UInt8).toArray⟩, .string ⟨([] : List UInt8).toArray⟩, .string ⟨([] : List UInt8).toArray⟩]) hf rfl rfl Try.underlying23 (by kernel_rfl) (by kernel_rfl) (by kernel_rfl) (by kernel_rfl) w40 23
  refine dl_e 2 (by kernel_rfl) rfl hf rfl rfl he fun a hf => ?_
  have ne_b2_b47 : b2 ≠ b47 := ne_new hB2.lt eb50
  have ne_b3_b47 : b3 ≠ b47 := ne_new hB3.lt eb50
  have ne_b41_b47 : b41 ≠ b47 := ne_new hB42.lt eb50
  have ne_p_b47 : p ≠ b47 := ne_new hP.lt eb50
  have ge_b47 := ge_new hE eb50
  have hH_b47 : H ≤ b47 := by have := hP.le; have := hP.lt; omega
  replace hB2 := hB2.c0 hx49
  replace hB3 := hB3.c0 hx49
  replace hB42 := hB42.c0 hx49
  replace hP := hP.chg hx49 all0
  replace hE := hE.t0 hx49
  clear eb50 lb51
  clear hS0
  have hS0 := hB3.same s_hB3 2
  refine ⟨.inl hS0, ?_⟩
  refine dV 3 rfl rfl hsel (by kernel_rfl) hf rfl (.inl hS0) (fun x => ex_bd (ps := [(0, (.const (.int .i64 16))), (1, (.tmp 23)), (2, (.tmp 24))]) (z := zT) (os := [0, 1, 2]) hf rfl (by kernel_rfl) (by kernel_rfl) (by kernel_rfl) rfl rfl) fun a hf => ?_
  obtain ⟨w52, he, hB53, hx54⟩ := eN (.tmp 4) (.tmp 25) hf rfl rfl rfl rfl hB42 rfl 0
  refine dl_s 5 (by kernel_rfl) rfl hf rfl rfl he fun a hf => ?_
  replace hB2 := hB2.chg hx54 (nmc ne_b2_b41 nm0)
  replace hB3 := hB3.chg hx54 (nmc ne_b3_b41 nm0)
  replace hB48 := hB48.chg hx54 (nmc (Ne.symm ne_b41_b47) nm0)
  replace hP := hP.chg hx54 (allc ⟨hH_b41, ne_p_b41⟩ all0)
  replace hE := hE.trans hx54 (allc (.inr ge_b41) all0)
  clear hB42
  clear hS0
  have hS0 := hB3.same s_hB3 2
  refine ⟨.inl hS0, ?_⟩
  refine dl_done (by kernel_rfl) ?_
  clear hS0 hsel
  exact ⟨b2, b3, b41, b47, hf.pick ⟨rfl, rfl, rfl, rfl, trivial⟩, hP, hE, hB2, hB3, hB48, hB53, ge_b2, ge_b3, ge_b41, ge_b47, ne_b2_b3, ne_b2_b41, ne_b2_b47, ne_b3_b41, ne_b3_b47, ne_b41_b47⟩
  clear hf a; intro a w' hM
  obtain ⟨b2, b3, bt, lg, hf, hP, hE, hB2, hB3, hBL, hBT, ge_b2, ge_b3, ge_bt, ge_lg, n1, n2, n3, n4, n5, n6⟩ := hM
  have ne_p_b2 : p ≠ b2 := by omega
  have hH_b2 : H ≤ b2 := by have := hP.le; omega
  have ne_p_b3 : p ≠ b3 := by omega
  have hH_b3 : H ≤ b3 := by have := hP.le; omega
  have ne_p_bt : p ≠ bt := by omega
  have hH_bt : H ≤ bt := by have := hP.le; omega
  have ne_p_lg : p ≠ lg := by omega
  have hH_lg : H ≤ lg := by have := hP.le; omega
  have ne_b2_b3 : b2 ≠ b3 := by omega
  have ne_b2_bt : b2 ≠ bt := by omega
  have ne_b2_lg : b2 ≠ lg := by omega
  have ne_b3_bt : b3 ≠ bt := by omega
  have ne_b3_lg : b3 ≠ lg := by omega
  have ne_bt_lg : bt ≠ lg := by omega
  have hL := Nat.le_refl (pTake s).toks.length
  refine wS fun K55 hK55 => wR <| sV hf rfl (ex_fa (k := 2) (r := 2) hf rfl (by kernel_rfl) rfl) fun a hf => sV hf rfl (ex_loadB hf rfl (by kernel_rfl) hBT rfl) fun a hf => sV hf rfl (ex_fa (k := 1) (r := 1) hf rfl (by kernel_rfl) rfl) fun a hf => sV hf rfl (ex_loadB hf rfl (by kernel_rfl) hB3 rfl) fun a hf => sV hf rfl (ex_index (sz := 1) (k := 0) (r := 0) hf Try.underlying23 (by kernel_rfl) rfl rfl rfl (by first | decide | simp) rfl) fun a hf => ?_
  obtain ⟨w56, he, hB57, hx58⟩ := ef_store (P := Try.prog) (t := 9) (x := (.tmp 30)) (y := (.tmp 29)) hf rfl rfl (by kernel_rfl) rfl hBL (Nat.le_of_ble_eq_true rfl) 0
  refine st_s hf rfl rfl he fun a hf => ?_
  replace hB2 := hB2.chg hx58 (nmc ne_b2_lg nm0)
  replace hB3 := hB3.chg hx58 (nmc ne_b3_lg nm0)
  replace hBT := hBT.chg hx58 (nmc ne_bt_lg nm0)
  replace hP := hP.chg hx58 (allc ⟨hH_lg, ne_p_lg⟩ all0)
  replace hE := hE.trans hx58 (allc (.inr ge_lg) all0)
  clear hBL
  refine sN <| hK55 _ _ <| wS fun K59 hK59 => ?_
  have s_hBT := hBT
  refine dl_start (fun x => x.cell? ⟨bt, 2, none⟩ = w56.cell? ⟨bt, 2, none⟩) 6 6 rfl (by kernel_rfl) (by kernel_rfl) ?_
  intro w60 hx61 hsel
  replace hB2 := hB2.c0 hx61
  replace hB3 := hB3.c0 hx61
  replace hB57 := hB57.c0 hx61
  replace hBT := hBT.c0 hx61
  replace hP := hP.chg hx61 all0
  replace hE := hE.t0 hx61
  have hS0 := hBT.same s_hBT 2
  refine dV 0 rfl rfl hsel (by kernel_rfl) hf rfl (.inl hS0) (fun x => ex_fa (k := 2) (r := 2) hf rfl (by kernel_rfl) rfl) fun a hf => dL 1 rfl rfl hsel (by kernel_rfl) hf rfl hS0 (fun x hS => ex_load hf rfl (by kernel_rfl) (hS.trans ((s_hBT.cell 2).trans rfl))) fun a hf => dM 2 rfl rfl hsel (by kernel_rfl) hf rfl hS0 rfl fun a hf => dl_c 3 (by kernel_rfl) rfl hf rfl rfl rfl (by kernel_rfl) (pWordL (x := [40]) hP (by decide)) ?_
  rintro _ w63 ⟨rfl, hP, hx62⟩
  refine ⟨_, rfl, fun a hf => ?_⟩
  replace hB2 := hB2.chg hx62 (nmc (Ne.symm ne_p_b2) nm0)
  replace hB3 := hB3.chg hx62 (nmc (Ne.symm ne_p_b3) nm0)
  replace hB57 := hB57.chg hx62 (nmc (Ne.symm ne_p_lg) nm0)
  replace hBT := hBT.chg hx62 (nmc (Ne.symm ne_p_bt) nm0)
  replace hE := hE.trans hx62 (allc (.inl (by simp)) all0)
  replace hL := nlt (pWord_len [40] _) hL
  clear hS0
  have hS0 := hBT.same s_hBT 2
  refine ⟨.inl hS0, ?_⟩
  refine dV 4 rfl rfl hsel (by kernel_rfl) hf rfl (.inl hS0) (fun x => ex_index (sz := 1) (k := 1) (r := 1) hf Try.underlying23 (by kernel_rfl) rfl rfl rfl (by first | decide | simp) rfl) fun a hf => ?_
  obtain ⟨w64, he, hB65, hx66⟩ := ef_store (P := Try.prog) (t := 9) (x := (.tmp 35)) (y := (.tmp 34)) hf rfl rfl (by kernel_rfl) rfl hB57 (Nat.le_of_ble_eq_true rfl) 0
  refine dl_s 5 (by kernel_rfl) rfl hf rfl rfl he fun a hf => ?_
  replace hB2 := hB2.chg hx66 (nmc ne_b2_lg nm0)
  replace hB3 := hB3.chg hx66 (nmc ne_b3_lg nm0)
  replace hBT := hBT.chg hx66 (nmc ne_bt_lg nm0)
  replace hP := hP.chg hx66 (allc ⟨hH_lg, ne_p_lg⟩ all0)
  replace hE := hE.trans hx66 (allc (.inr ge_lg) all0)
  clear hB57
  clear hS0
  have hS0 := hBT.same s_hBT 2
  refine ⟨.inl hS0, ?_⟩
  refine dl_done (by kernel_rfl) ?_
  clear hS0 hsel
  refine hK59 _ _ <| wS fun K67 hK67 => wS fun K68 hK68 => wR <| sM hf rfl rfl fun a hf => st_c hf rfl rfl rfl (by kernel_rfl) (pNextL hP) ?_
  rintro _ w70 ⟨rfl, hP, hx69⟩
  refine ⟨_, rfl, fun a hf => ?_⟩
  replace hB2 := hB2.c0 hx69
  replace hB3 := hB3.c0 hx69
  replace hB65 := hB65.c0 hx69
  replace hBT := hBT.c0 hx69
  replace hE := hE.t0 hx69
  refine sV hf rfl (ex_fd (k := 2) hf rfl (by kernel_rfl) rfl) fun a hf => sV hf rfl (ex_neS (c := false) hf rfl rfl (bneF hcl)) fun a hf => sN <| hK68 _ _ <| cF hf rfl <| wp_skip <| hK67 _ _ <| wS fun K71 hK71 => ?_
  have s_hBT := hBT
  refine dl_start (fun x => x.cell? ⟨bt, 2, none⟩ = w70.cell? ⟨bt, 2, none⟩) 6 6 rfl (by kernel_rfl) (by kernel_rfl) ?_
  intro w72 hx73 hsel
  replace hB2 := hB2.c0 hx73
  replace hB3 := hB3.c0 hx73
  replace hB65 := hB65.c0 hx73
  replace hBT := hBT.c0 hx73
  replace hP := hP.chg hx73 all0
  replace hE := hE.t0 hx73
  have hS0 := hBT.same s_hBT 2
  refine dV 0 rfl rfl hsel (by kernel_rfl) hf rfl (.inl hS0) (fun x => ex_fa (k := 2) (r := 2) hf rfl (by kernel_rfl) rfl) fun a hf => dL 1 rfl rfl hsel (by kernel_rfl) hf rfl hS0 (fun x hS => ex_load hf rfl (by kernel_rfl) (hS.trans ((s_hBT.cell 2).trans rfl))) fun a hf => dM 2 rfl rfl hsel (by kernel_rfl) hf rfl hS0 rfl fun a hf => dl_c 3 (by kernel_rfl) rfl hf rfl rfl rfl (by kernel_rfl) (pWordL (x := [41]) hP (by decide)) ?_
  rintro _ w75 ⟨rfl, hP, hx74⟩
  refine ⟨_, rfl, fun a hf => ?_⟩
  replace hB2 := hB2.chg hx74 (nmc (Ne.symm ne_p_b2) nm0)
  replace hB3 := hB3.chg hx74 (nmc (Ne.symm ne_p_b3) nm0)
  replace hB65 := hB65.chg hx74 (nmc (Ne.symm ne_p_lg) nm0)
  replace hBT := hBT.chg hx74 (nmc (Ne.symm ne_p_bt) nm0)
  replace hE := hE.trans hx74 (allc (.inl (by simp)) all0)
  replace hL := nlt (pWord_len [41] _) hL
  clear hS0
  have hS0 := hBT.same s_hBT 2
  refine ⟨.inl hS0, ?_⟩
  refine dV 4 rfl rfl hsel (by kernel_rfl) hf rfl (.inl hS0) (fun x => ex_index (sz := 1) (k := 2) (r := 2) hf Try.underlying23 (by kernel_rfl) rfl rfl rfl (by first | decide | simp) rfl) fun a hf => ?_
  obtain ⟨w76, he, hB77, hx78⟩ := ef_store (P := Try.prog) (t := 9) (x := (.tmp 81)) (y := (.tmp 80)) hf rfl rfl (by kernel_rfl) rfl hB65 (Nat.le_of_ble_eq_true rfl) 0
  refine dl_s 5 (by kernel_rfl) rfl hf rfl rfl he fun a hf => ?_
  replace hB2 := hB2.chg hx78 (nmc ne_b2_lg nm0)
  replace hB3 := hB3.chg hx78 (nmc ne_b3_lg nm0)
  replace hBT := hBT.chg hx78 (nmc ne_bt_lg nm0)
  replace hP := hP.chg hx78 (allc ⟨hH_lg, ne_p_lg⟩ all0)
  replace hE := hE.trans hx78 (allc (.inr ge_lg) all0)
  clear hB65
  clear hS0
  have hS0 := hBT.same s_hBT 2
  refine ⟨.inl hS0, ?_⟩
  refine dl_done (by kernel_rfl) ?_
  clear hS0 hsel
  refine hK71 _ _ <| wS fun K79 hK79 => wR <| sV hf rfl (ex_loadBN (m := 4) hf rfl (by kernel_rfl) hBT rfl) fun a hf => ?_
  obtain ⟨w80, he, hB81, hx82⟩ := eN (.tmp 2) (.tmp 82) hf rfl rfl rfl rfl hB2 rfl 0
  refine st_s hf rfl rfl he fun a hf => ?_
  replace hB3 := hB3.chg hx82 (nmc (Ne.symm ne_b2_b3) nm0)
  replace hB77 := hB77.chg hx82 (nmc (Ne.symm ne_b2_lg) nm0)
  replace hBT := hBT.chg hx82 (nmc (Ne.symm ne_b2_bt) nm0)
  replace hP := hP.chg hx82 (allc ⟨hH_b2, ne_p_b2⟩ all0)
  replace hE := hE.trans hx82 (allc (.inr ge_b2) all0)
  clear hB2
  refine sN <| hK79 _ _ <| wp_ret ?_
  rw [hq]
  try simp only [Exit.then, Exit.inBlock]
  exact ret_of (rs := [.cell 2 26]) hf rfl ⟨_, _, _, _, 4, rfl, rfl, by kernel_rfl, hB81, rfl, rfl⟩ ⟨_, _, _, _, rfl, tree_mk (Nat.le_refl _) (maxLen_ge rfl) (Nat.le_refl _) (maxLen_ge rfl) (RowIn.of_blk hB77 ge_lg rfl) kids_none RowIn.none_, hP, hE, (nlt hL (pTake_len s))⟩
theorem useRowL {H p n : Nat} {s : PS} {w : World} (ih : ExprOk n) (hP : PAt H w p s) {t : Tok} {r : List Tok} (hn : s.toks.length < n + 1) (hs : s.toks = t :: r) (hnx : pNext s = t) (hop : t.kind = 1 → (pNext (pTake s)).text = [40]) (hcl : ¬ (pNext (pWord [40] (pTake s)).2).text = [41]) : Calls Try.prog 117 [.pointer (some ⟨p, 0, none⟩)].toArray w (TreePost w H p s (useF (exprT n) s)) := by
  have htl := pTake_lt hs
  replace hop : ∀ {b : Bool}, (t.kind == 1) = true → (pNext (pTake s)).text = [40] := fun h => hop (by simpa using h)
  have hq0 : useF (exprT n) s = (.node 16 t.text ([t.lead, (pWord [40] (pTake s)).1, (pWord [41] (commaF (argF (exprT n)) 8 beginsB ((argF (exprT n) (pWord [40] (pTake s)).2).2.toks.length + 1) [] [(argF (exprT n) (pWord [40] (pTake s)).2).1] (argF (exprT n) (pWord [40] (pTake s)).2).2).2.2).1] ++ (commaF (argF (exprT n)) 8 beginsB ((argF (exprT n) (pWord [40] (pTake s)).2).2.toks.length + 1) [] [(argF (exprT n) (pWord [40] (pTake s)).2).1] (argF (exprT n) (pWord [40] (pTake s)).2).2).1) (commaF (argF (exprT n)) 8 beginsB ((argF (exprT n) (pWord [40] (pTake s)).2).2.toks.length + 1) [] [(argF (exprT n) (pWord [40] (pTake s)).2).1] (argF (exprT n) (pWord [40] (pTake s)).2).2).2.1, (pWord [41] (commaF (argF (exprT n)) 8 beginsB ((argF (exprT n) (pWord [40] (pTake s)).2).2.toks.length + 1) [] [(argF (exprT n) (pWord [40] (pTake s)).2).1] (argF (exprT n) (pWord [40] (pTake s)).2).2).2.2).2) := by
    unfold useF; rw [hnx, if_neg (fun h => h.2 (hop (b := true) (by simp [h.1])))]; simp only [rowF, if_neg hcl]
  have hw2 : (pWord [40] (pTake s)).2.toks.length < n := by have := pWord_len [40] (pTake s); omega
  refine enter_fr 83 Try.func117 rfl rfl rfl ?_
  intro a hf
  have hE := Chg.refl [p] w
  have hL := Nat.le_refl s.toks.length
  have lt_p := hP.lt
  refine wS fun K1 hK1 => wR ?_
  obtain ⟨w2, b3, he, hB4, hx5, eb6, lb7⟩ := eT a w 0
  refine sV hf rfl he fun a hf => ?_
  have ne_p_b3 : p ≠ b3 := ne_new hP.lt eb6
  have ge_b3 := ge_new hE eb6
  have hH_b3 : H ≤ b3 := by have := hP.le; have := hP.lt; omega
  replace hP := hP.chg hx5 all0
  replace hE := hE.t0 hx5
  clear eb6 lb7
  refine sN <| hK1 _ _ <| wS fun K8 hK8 => wR <| sM hf rfl rfl fun a hf => st_c hf rfl rfl rfl (by kernel_rfl) (pTakeL hP hs) ?_
  rintro _ w10 ⟨rfl, hP, hx9⟩
  refine ⟨_, rfl, fun a hf => ?_⟩
  replace hB4 := hB4.chg hx9 (nmc (Ne.symm ne_p_b3) nm0)
  replace hE := hE.trans hx9 (allc (.inl (by simp)) all0)
  replace hL := Nat.le_refl (pTake s).toks.length
  obtain ⟨w11, b12, he, hB13, hx14, eb15, lb16⟩ := ef_alloc (P := Try.prog) (t := 49) [.int .i64 0, .string ⟨([] : List UInt8).toArray⟩, .string ⟨([] : List UInt8).toArray⟩] (by kernel_rfl) a w10 0
  refine sV hf rfl he fun a hf => ?_
  have ne_b3_b12 : b3 ≠ b12 := ne_new hB4.lt eb15
  have ne_p_b12 : p ≠ b12 := ne_new hP.lt eb15
  have ge_b12 := ge_new hE eb15
  have hH_b12 : H ≤ b12 := by have := hP.le; have := hP.lt; omega
  replace hB4 := hB4.c0 hx14
  replace hP := hP.chg hx14 all0
  replace hE := hE.t0 hx14
  clear eb15 lb16
  obtain ⟨w17, he, hB18, hx19⟩ := ef_storeN (P := Try.prog) (t := 49) (x := (.tmp 3)) (y := (.tmp 6)) (m := 3) hf rfl rfl (by kernel_rfl) rfl rfl hB13 rfl 0
  refine st_s hf rfl rfl he fun a hf => ?_
  replace hB4 := hB4.chg hx19 (nmc ne_b3_b12 nm0)
  replace hP := hP.chg hx19 (allc ⟨hH_b12, ne_p_b12⟩ all0)
  replace hE := hE.trans hx19 (allc (.inr ge_b12) all0)
  clear hB13
  refine sN <| hK8 _ _ <| wp_seq_mid (fun a w' => ∃ b2 b3, Fr a 83 (fm [(0, .pointer (some ⟨p, 0, none⟩)), (2, .pointer (some ⟨b2, 0, none⟩)), (3, .pointer (some ⟨b3, 0, none⟩))]) ∧ PAt H w' p (pTake s) ∧ Chg [p] w w' ∧ Blk w' b2 26 [.int .i64 0, strV [], .slice none 0 0, .slice none 0 0] ∧ Blk w' b3 49 [.int .i64 t.kind, strV t.lead, strV t.text] ∧ w.heap.size ≤ b2 ∧ w.heap.size ≤ b3 ∧ b2 ≠ b3) ?_ ?_
  refine wS fun K20 hK20 => wR <| sV hf rfl (ex_fa (k := 0) (r := 0) hf rfl (by kernel_rfl) rfl) fun a hf => sV hf rfl (ex_loadB hf rfl (by kernel_rfl) hB18 rfl) fun a hf => st_b hf rfl rfl (fun c hc => ex_eqI hf rfl rfl hc) ?_ ?_
  clear hf a; intro hk1 a hf
  refine sM hf rfl rfl fun a hf => sM hf rfl rfl fun a hf => st_c hf rfl rfl rfl (by kernel_rfl) (pNextL hP) ?_
  rintro _ w22 ⟨rfl, hP, hx21⟩
  refine ⟨_, rfl, fun a hf => ?_⟩
  replace hB4 := hB4.c0 hx21
  replace hB18 := hB18.c0 hx21
  replace hE := hE.t0 hx21
  refine sV hf rfl (ex_fd (k := 2) hf rfl (by kernel_rfl) rfl) fun a hf => sV hf rfl (ex_neS (c := false) hf rfl rfl (bneF (hop (b := true) hk1))) fun a hf => sV hf rfl (ex_pickT hf rfl rfl) fun a hf => sN <| hK20 _ _ <| cF hf rfl <| wp_skip ?_
  exact ⟨b3, b12, hf.pick ⟨rfl, rfl, rfl, trivial⟩, hP, hE, hB4, hB18, ge_b3, ge_b12, ne_b3_b12⟩
  clear hf a; intro hk1 a hf
  refine sM hf rfl rfl fun a hf => st_k hf rfl rfl fun a hf => st_k hf rfl rfl fun a hf => st_k hf rfl rfl fun a hf => st_k hf rfl rfl fun a hf => sV hf rfl (ex_pickF hf rfl rfl) fun a hf => sN <| hK20 _ _ <| cF hf rfl <| wp_skip ?_
  exact ⟨b3, b12, hf.pick ⟨rfl, rfl, rfl, trivial⟩, hP, hE, hB4, hB18, ge_b3, ge_b12, ne_b3_b12⟩
  clear hf a; intro a w' hM
  obtain ⟨b2, b3, hf, hP, hE, hB2, hB3, ge_b2, ge_b3, n1⟩ := hM
  have ne_p_b2 : p ≠ b2 := by omega
  have hH_b2 : H ≤ b2 := by have := hP.le; omega
  have ne_p_b3 : p ≠ b3 := by omega
  have hH_b3 : H ≤ b3 := by have := hP.le; omega
  have ne_b2_b3 : b2 ≠ b3 := by omega
  have hL := Nat.le_refl (pTake s).toks.length
  refine wp_seq_mid (fun a w' => ∃ b2 b3 bt lg, Fr a 83 (fm [(0, .pointer (some ⟨p, 0, none⟩)), (2, .pointer (some ⟨b2, 0, none⟩)), (3, .pointer (some ⟨b3, 0, none⟩)), (4, .pointer (some ⟨bt, 0, none⟩))]) ∧ PAt H w' p (pTake s) ∧ Chg [p] w w' ∧ Blk w' b2 26 [.int .i64 0, strV [], .slice none 0 0, .slice none 0 0] ∧ Blk w' b3 49 [.int .i64 t.kind, strV t.lead, strV t.text] ∧ Blk w' lg 9 [strV [], strV [], strV []] ∧ Blk w' bt 26 [.int .i64 16, strV t.text, .slice (some ⟨lg, 0, none⟩) 3 3, .slice none 0 0] ∧ w.heap.size ≤ b2 ∧ w.heap.size ≤ b3 ∧ w.heap.size ≤ bt ∧ w.heap.size ≤ lg ∧ b2 ≠ b3 ∧ b2 ≠ bt ∧ b2 ≠ lg ∧ b3 ≠ bt ∧ b3 ≠ lg ∧ bt ≠ lg) ?_ ?_
  have s_hB3 := hB3
  refine dl_start (fun x => x.cell? ⟨b3, 2, none⟩ = w'.cell? ⟨b3, 2, none⟩) 6 6 rfl (by kernel_rfl) (by kernel_rfl) ?_
  intro w23 hx24 hsel
  replace hB2 := hB2.c0 hx24
  replace hB3 := hB3.c0 hx24
  replace hP := hP.chg hx24 all0
  replace hE := hE.t0 hx24
  have hS0 := hB3.same s_hB3 2
  refine dV 0 rfl rfl hsel (by kernel_rfl) hf rfl (.inl hS0) (fun x => ex_fa (k := 2) (r := 2) hf rfl (by kernel_rfl) rfl) fun a hf => dL 1 rfl rfl hsel (by kernel_rfl) hf rfl hS0 (fun x hS => ex_load hf rfl (by kernel_rfl) (hS.trans ((s_hB3.cell 2).trans rfl))) fun a hf => dl_two 2 4 (by kernel_rfl) ?_ ?_
  obtain ⟨w25, b26, he, hB27, hx28, eb29, lb30⟩ := ef_make (P := Try.prog) (m := 3) (x := (.const (.int .i64 3))) (y := (.const (.int .i64 3))) (z := .string ⟨([] : List UInt8).toArray⟩) (sz := 1) (by_ := 16) (cs := [.string ⟨([] : List UInt8).toArray⟩, .string ⟨([] : List UInt8).toArray⟩, .string ⟨([] : List UInt8).toArray⟩]) hf rfl rfl Try.underlying23 (by kernel_rfl) (by kernel_rfl) (by kernel_rfl) (by kernel_rfl) w23 23
  refine op_e 2 rfl hf rfl rfl he fun a hf => ?_
  have ne_b2_b26 : b2 ≠ b26 := ne_new hB2.lt eb29
  have ne_b3_b26 : b3 ≠ b26 := ne_new hB3.lt eb29
  have ne_p_b26 : p ≠ b26 := ne_new hP.lt eb29
  have ge_b26 := ge_new hE eb29
  have hH_b26 : H ≤ b26 := by have := hP.le; have := hP.lt; omega
  replace hB2 := hB2.c0 hx28
  replace hB3 := hB3.c0 hx28
  replace hP := hP.chg hx28 all0
  replace hE := hE.t0 hx28
  clear eb29 lb30
  clear hS0
  have hS0 := hB3.same s_hB3 2
  refine ⟨.inl hS0, ?_⟩
  refine dV 3 rfl rfl hsel (by kernel_rfl) hf rfl (.inl hS0) (fun x => ex_bd (ps := [(0, (.const (.int .i64 16))), (1, (.tmp 23)), (2, (.tmp 24))]) (z := zT) (os := [0, 1, 2]) hf rfl (by kernel_rfl) (by kernel_rfl) (by kernel_rfl) rfl rfl) fun a hf => ?_
  obtain ⟨w31, b32, he, hB33, hx34, eb35, lb36⟩ := eT a w25 0
  refine dl_e 4 (by kernel_rfl) rfl hf rfl rfl he fun a hf => ?_
  have ne_b2_b32 : b2 ≠ b32 := ne_new hB2.lt eb35
  have ne_b3_b32 : b3 ≠ b32 := ne_new hB3.lt eb35
  have ne_b26_b32 : b26 ≠ b32 := ne_new hB27.lt eb35
  have ne_p_b32 : p ≠ b32 := ne_new hP.lt eb35
  have ge_b32 := ge_new hE eb35
  have hH_b32 : H ≤ b32 := by have := hP.le; have := hP.lt; omega
  replace hB2 := hB2.c0 hx34
  replace hB3 := hB3.c0 hx34
  replace hB27 := hB27.c0 hx34
  replace hP := hP.chg hx34 all0
  replace hE := hE.t0 hx34
  clear eb35 lb36
  clear hS0
  have hS0 := hB3.same s_hB3 2
  refine ⟨.inl hS0, ?_⟩
  obtain ⟨w37, he, hB38, hx39⟩ := eN (.tmp 4) (.tmp 25) hf rfl rfl rfl rfl hB33 rfl 0
  refine dl_s 5 (by kernel_rfl) rfl hf rfl rfl he fun a hf => ?_
  replace hB2 := hB2.chg hx39 (nmc ne_b2_b32 nm0)
  replace hB3 := hB3.chg hx39 (nmc ne_b3_b32 nm0)
  replace hB27 := hB27.chg hx39 (nmc ne_b26_b32 nm0)
  replace hP := hP.chg hx39 (allc ⟨hH_b32, ne_p_b32⟩ all0)
  replace hE := hE.trans hx39 (allc (.inr ge_b32) all0)
  clear hB33
  clear hS0
  have hS0 := hB3.same s_hB3 2
  refine ⟨.inl hS0, ?_⟩
  refine dl_done (by kernel_rfl) ?_
  clear hS0 hsel
  exact ⟨b2, b3, b32, b26, hf.pick ⟨rfl, rfl, rfl, rfl, trivial⟩, hP, hE, hB2, hB3, hB27, hB38, ge_b2, ge_b3, ge_b32, ge_b26, ne_b2_b3, ne_b2_b32, ne_b2_b26, ne_b3_b32, ne_b3_b26, (Ne.symm ne_b26_b32)⟩
  obtain ⟨w40, b41, he, hB42, hx43, eb44, lb45⟩ := eT a w23 0
  refine op_e 4 rfl hf rfl rfl he fun a hf => ?_
  have ne_b2_b41 : b2 ≠ b41 := ne_new hB2.lt eb44
  have ne_b3_b41 : b3 ≠ b41 := ne_new hB3.lt eb44
  have ne_p_b41 : p ≠ b41 := ne_new hP.lt eb44
  have ge_b41 := ge_new hE eb44
  have hH_b41 : H ≤ b41 := by have := hP.le; have := hP.lt; omega
  replace hB2 := hB2.c0 hx43
  replace hB3 := hB3.c0 hx43
  replace hP := hP.chg hx43 all0
  replace hE := hE.t0 hx43
  clear eb44 lb45
  clear hS0
  have hS0 := hB3.same s_hB3 2
  refine ⟨.inl hS0, ?_⟩
  obtain ⟨w46, b47, he, hB48, hx49, eb50, lb51⟩ := ef_make (P := Try.prog) (m := 3) (x := (.const (.int .i64 3))) (y := (.const (.int .i64 3))) (z := .string ⟨([] : List UInt8).toArray⟩) (sz := 1) (by_ := 16) (cs := [.string ⟨([] : List UInt8).toArray⟩, .string ⟨([] : List UInt8).toArray⟩, .string ⟨([] : List UInt8).toArray⟩]) hf rfl rfl Try.underlying23 (by kernel_rfl) (by kernel_rfl) (by kernel_rfl) (by kernel_rfl) w40 23
  refine dl_e 2 (by kernel_rfl) rfl hf rfl rfl he fun a hf => ?_
  have ne_b2_b47 : b2 ≠ b47 := ne_new hB2.lt eb50
  have ne_b3_b47 : b3 ≠ b47 := ne_new hB3.lt eb50
  have ne_b41_b47 : b41 ≠ b47 := ne_new hB42.lt eb50
  have ne_p_b47 : p ≠ b47 := ne_new hP.lt eb50
  have ge_b47 := ge_new hE eb50
  have hH_b47 : H ≤ b47 := by have := hP.le; have := hP.lt; omega
  replace hB2 := hB2.c0 hx49
  replace hB3 := hB3.c0 hx49
  replace hB42 := hB42.c0 hx49
  replace hP := hP.chg hx49 all0
  replace hE := hE.t0 hx49
  clear eb50 lb51
  clear hS0
  have hS0 := hB3.same s_hB3 2
  refine ⟨.inl hS0, ?_⟩
  refine dV 3 rfl rfl hsel (by kernel_rfl) hf rfl (.inl hS0) (fun x => ex_bd (ps := [(0, (.const (.int .i64 16))), (1, (.tmp 23)), (2, (.tmp 24))]) (z := zT) (os := [0, 1, 2]) hf rfl (by kernel_rfl) (by kernel_rfl) (by kernel_rfl) rfl rfl) fun a hf => ?_
  obtain ⟨w52, he, hB53, hx54⟩ := eN (.tmp 4) (.tmp 25) hf rfl rfl rfl rfl hB42 rfl 0
  refine dl_s 5 (by kernel_rfl) rfl hf rfl rfl he fun a hf => ?_
  replace hB2 := hB2.chg hx54 (nmc ne_b2_b41 nm0)
  replace hB3 := hB3.chg hx54 (nmc ne_b3_b41 nm0)
  replace hB48 := hB48.chg hx54 (nmc (Ne.symm ne_b41_b47) nm0)
  replace hP := hP.chg hx54 (allc ⟨hH_b41, ne_p_b41⟩ all0)
  replace hE := hE.trans hx54 (allc (.inr ge_b41) all0)
  clear hB42
  clear hS0
  have hS0 := hB3.same s_hB3 2
  refine ⟨.inl hS0, ?_⟩
  refine dl_done (by kernel_rfl) ?_
  clear hS0 hsel
  exact ⟨b2, b3, b41, b47, hf.pick ⟨rfl, rfl, rfl, rfl, trivial⟩, hP, hE, hB2, hB3, hB48, hB53, ge_b2, ge_b3, ge_b41, ge_b47, ne_b2_b3, ne_b2_b41, ne_b2_b47, ne_b3_b41, ne_b3_b47, ne_b41_b47⟩
  clear hf a; intro a w' hM
  obtain ⟨b2, b3, bt, lg, hf, hP, hE, hB2, hB3, hBL, hBT, ge_b2, ge_b3, ge_bt, ge_lg, n1, n2, n3, n4, n5, n6⟩ := hM
  have ne_p_b2 : p ≠ b2 := by omega
  have hH_b2 : H ≤ b2 := by have := hP.le; omega
  have ne_p_b3 : p ≠ b3 := by omega
  have hH_b3 : H ≤ b3 := by have := hP.le; omega
  have ne_p_bt : p ≠ bt := by omega
  have hH_bt : H ≤ bt := by have := hP.le; omega
  have ne_p_lg : p ≠ lg := by omega
  have hH_lg : H ≤ lg := by have := hP.le; omega
  have ne_b2_b3 : b2 ≠ b3 := by omega
  have ne_b2_bt : b2 ≠ bt := by omega
  have ne_b2_lg : b2 ≠ lg := by omega
  have ne_b3_bt : b3 ≠ bt := by omega
  have ne_b3_lg : b3 ≠ lg := by omega
  have ne_bt_lg : bt ≠ lg := by omega
  have hL := Nat.le_refl (pTake s).toks.length
  refine wS fun K55 hK55 => wR <| sV hf rfl (ex_fa (k := 2) (r := 2) hf rfl (by kernel_rfl) rfl) fun a hf => sV hf rfl (ex_loadB hf rfl (by kernel_rfl) hBT rfl) fun a hf => sV hf rfl (ex_fa (k := 1) (r := 1) hf rfl (by kernel_rfl) rfl) fun a hf => sV hf rfl (ex_loadB hf rfl (by kernel_rfl) hB3 rfl) fun a hf => sV hf rfl (ex_index (sz := 1) (k := 0) (r := 0) hf Try.underlying23 (by kernel_rfl) rfl rfl rfl (by first | decide | simp) rfl) fun a hf => ?_
  obtain ⟨w56, he, hB57, hx58⟩ := ef_store (P := Try.prog) (t := 9) (x := (.tmp 30)) (y := (.tmp 29)) hf rfl rfl (by kernel_rfl) rfl hBL (Nat.le_of_ble_eq_true rfl) 0
  refine st_s hf rfl rfl he fun a hf => ?_
  replace hB2 := hB2.chg hx58 (nmc ne_b2_lg nm0)
  replace hB3 := hB3.chg hx58 (nmc ne_b3_lg nm0)
  replace hBT := hBT.chg hx58 (nmc ne_bt_lg nm0)
  replace hP := hP.chg hx58 (allc ⟨hH_lg, ne_p_lg⟩ all0)
  replace hE := hE.trans hx58 (allc (.inr ge_lg) all0)
  clear hBL
  refine sN <| hK55 _ _ <| wS fun K59 hK59 => ?_
  have s_hBT := hBT
  refine dl_start (fun x => x.cell? ⟨bt, 2, none⟩ = w56.cell? ⟨bt, 2, none⟩) 6 6 rfl (by kernel_rfl) (by kernel_rfl) ?_
  intro w60 hx61 hsel
  replace hB2 := hB2.c0 hx61
  replace hB3 := hB3.c0 hx61
  replace hB57 := hB57.c0 hx61
  replace hBT := hBT.c0 hx61
  replace hP := hP.chg hx61 all0
  replace hE := hE.t0 hx61
  have hS0 := hBT.same s_hBT 2
  refine dV 0 rfl rfl hsel (by kernel_rfl) hf rfl (.inl hS0) (fun x => ex_fa (k := 2) (r := 2) hf rfl (by kernel_rfl) rfl) fun a hf => dL 1 rfl rfl hsel (by kernel_rfl) hf rfl hS0 (fun x hS => ex_load hf rfl (by kernel_rfl) (hS.trans ((s_hBT.cell 2).trans rfl))) fun a hf => dM 2 rfl rfl hsel (by kernel_rfl) hf rfl hS0 rfl fun a hf => dl_c 3 (by kernel_rfl) rfl hf rfl rfl rfl (by kernel_rfl) (pWordL (x := [40]) hP (by decide)) ?_
  rintro _ w63 ⟨rfl, hP, hx62⟩
  refine ⟨_, rfl, fun a hf => ?_⟩
  replace hB2 := hB2.chg hx62 (nmc (Ne.symm ne_p_b2) nm0)
  replace hB3 := hB3.chg hx62 (nmc (Ne.symm ne_p_b3) nm0)
  replace hB57 := hB57.chg hx62 (nmc (Ne.symm ne_p_lg) nm0)
  replace hBT := hBT.chg hx62 (nmc (Ne.symm ne_p_bt) nm0)
  replace hE := hE.trans hx62 (allc (.inl (by simp)) all0)
  replace hL := nlt (pWord_len [40] _) hL
  clear hS0
  have hS0 := hBT.same s_hBT 2
  refine ⟨.inl hS0, ?_⟩
  refine dV 4 rfl rfl hsel (by kernel_rfl) hf rfl (.inl hS0) (fun x => ex_index (sz := 1) (k := 1) (r := 1) hf Try.underlying23 (by kernel_rfl) rfl rfl rfl (by first | decide | simp) rfl) fun a hf => ?_
  obtain ⟨w64, he, hB65, hx66⟩ := ef_store (P := Try.prog) (t := 9) (x := (.tmp 35)) (y := (.tmp 34)) hf rfl rfl (by kernel_rfl) rfl hB57 (Nat.le_of_ble_eq_true rfl) 0
  refine dl_s 5 (by kernel_rfl) rfl hf rfl rfl he fun a hf => ?_
  replace hB2 := hB2.chg hx66 (nmc ne_b2_lg nm0)
  replace hB3 := hB3.chg hx66 (nmc ne_b3_lg nm0)
  replace hBT := hBT.chg hx66 (nmc ne_bt_lg nm0)
  replace hP := hP.chg hx66 (allc ⟨hH_lg, ne_p_lg⟩ all0)
  replace hE := hE.trans hx66 (allc (.inr ge_lg) all0)
  clear hB57
  clear hS0
  have hS0 := hBT.same s_hBT 2
  refine ⟨.inl hS0, ?_⟩
  refine dl_done (by kernel_rfl) ?_
  clear hS0 hsel
  refine hK59 _ _ <| wS fun K67 hK67 => wS fun K68 hK68 => wR <| sM hf rfl rfl fun a hf => st_c hf rfl rfl rfl (by kernel_rfl) (pNextL hP) ?_
  rintro _ w70 ⟨rfl, hP, hx69⟩
  refine ⟨_, rfl, fun a hf => ?_⟩
  replace hB2 := hB2.c0 hx69
  replace hB3 := hB3.c0 hx69
  replace hB65 := hB65.c0 hx69
  replace hBT := hBT.c0 hx69
  replace hE := hE.t0 hx69
  refine sV hf rfl (ex_fd (k := 2) hf rfl (by kernel_rfl) rfl) fun a hf => sV hf rfl (ex_neS (c := true) hf rfl rfl (bneT hcl)) fun a hf => sN <| hK68 _ _ <| cT hf rfl <| wS fun K71 hK71 => ?_
  have s_hBT := hBT
  refine dl_start (fun x => x.cell? ⟨bt, 3, none⟩ = w70.cell? ⟨bt, 3, none⟩) 7 8 rfl (by kernel_rfl) (by kernel_rfl) ?_
  intro w72 hx73 hsel
  replace hB2 := hB2.c0 hx73
  replace hB3 := hB3.c0 hx73
  replace hB65 := hB65.c0 hx73
  replace hBT := hBT.c0 hx73
  replace hP := hP.chg hx73 all0
  replace hE := hE.t0 hx73
  have hS0 := hBT.same s_hBT 3
  refine dV 0 rfl rfl hsel (by kernel_rfl) hf rfl (.inl hS0) (fun x => ex_fa (k := 3) (r := 3) hf rfl (by kernel_rfl) rfl) fun a hf => dL 1 rfl rfl hsel (by kernel_rfl) hf rfl hS0 (fun x hS => ex_load hf rfl (by kernel_rfl) (hS.trans ((s_hBT.cell 3).trans rfl))) fun a hf => dM 2 rfl rfl hsel (by kernel_rfl) hf rfl hS0 rfl fun a hf => ?_
  have plt74 := hP.lt
  refine dl_c 3 (by kernel_rfl) rfl hf rfl rfl rfl (by kernel_rfl) (argL ih hP (by omega)) ?_
  rintro _ w75 ⟨c74_0, c74_1, c74_2, c74_3, rfl, hT74, hP, hx74, hl74⟩
  refine ⟨_, rfl, fun a hf => ?_⟩
  obtain ⟨lo76, elo76⟩ : ∃ x, x = w72.heap.size := ⟨_, rfl⟩
  obtain ⟨hi76, ehi76⟩ : ∃ x, x = w75.heap.size := ⟨_, rfl⟩
  replace hT74 := hT74.within elo76 ehi76
  have hle76 : hi76 ≤ w75.heap.size := Nat.le_of_eq ehi76
  have ge_lo76 : w.heap.size ≤ lo76 := elo76 ▸ hE.size
  have tb_lo76_b2 : b2 < lo76 := elo76 ▸ hB2.lt
  have tb_lo76_b3 : b3 < lo76 := elo76 ▸ hB3.lt
  have tb_lo76_lg : lg < lo76 := elo76 ▸ hB65.lt
  have tb_lo76_bt : bt < lo76 := elo76 ▸ hBT.lt
  have tb_lo76_p : p < lo76 := elo76 ▸ plt74
  clear elo76 ehi76
  clear plt74
  have on_hT74 := hT74.one
  replace hB2 := hB2.chg hx74 (nmc (Ne.symm ne_p_b2) nm0)
  replace hB3 := hB3.chg hx74 (nmc (Ne.symm ne_p_b3) nm0)
  replace hB65 := hB65.chg hx74 (nmc (Ne.symm ne_p_lg) nm0)
  replace hBT := hBT.chg hx74 (nmc (Ne.symm ne_p_bt) nm0)
  replace hE := hE.trans hx74 (allc (.inl (by simp)) all0)
  replace hL := nlt hl74 hL
  clear hS0
  have hS0 := hBT.same s_hBT 3
  refine ⟨.inl hS0, ?_⟩
  obtain ⟨w77, b78, he, hB79, hx80, eb81, lb82⟩ := ef_bslice (P := Try.prog) (ps := [(0, (.tmp 43))]) (m := 1) (sz := 4) (z := zT) hf rfl Try.underlying24 (by kernel_rfl) (by kernel_rfl) rfl rfl (by kernel_rfl) rfl w75 24
  refine dl_e 4 (by kernel_rfl) rfl hf rfl rfl he fun a hf => ?_
  have ne_b2_b78 : b2 ≠ b78 := ne_new hB2.lt eb81
  have ne_b3_b78 : b3 ≠ b78 := ne_new hB3.lt eb81
  have ne_lg_b78 : lg ≠ b78 := ne_new hB65.lt eb81
  have ne_bt_b78 : bt ≠ b78 := ne_new hBT.lt eb81
  have ne_p_b78 : p ≠ b78 := ne_new hP.lt eb81
  have ta_hi76_b78 : hi76 ≤ b78 := eb81 ▸ hle76
  have ge_b78 := ge_new hE eb81
  have hH_b78 : H ≤ b78 := by have := hP.le; have := hP.lt; omega
  replace hB2 := hB2.c0 hx80
  replace hB3 := hB3.c0 hx80
  replace hB65 := hB65.c0 hx80
  replace hBT := hBT.c0 hx80
  replace hP := hP.chg hx80 all0
  replace hT74 := hT74.chg hx80 (fun b hb _ => nm0)
  replace hle76 := nlt hle76 hx80.size
  replace hE := hE.t0 hx80
  clear eb81 lb82
  clear hS0
  have hS0 := hBT.same s_hBT 3
  refine ⟨.inl hS0, ?_⟩
  obtain ⟨g84, cap85, w83, he, hO86, hx87, hat88, hlt89⟩ := ef_append0 (P := Try.prog) (x := (.tmp 41)) (y := (.tmp 44)) (z := .agg zA) (sz := 4) (by_ := 72) hf rfl rfl Try.underlying24 (by kernel_rfl) rfl rfl (World.ownsRow_nil w77 w.heap.size 26 4) hB79 rfl on_hT74 rfl (by simp only [maxLen]; omega) (by omega) (hE.size) 24
  refine dl_e 5 (by kernel_rfl) rfl hf rfl rfl he fun a hf => ?_
  have ne_b2_g84 : b2 ≠ g84 := by have := hB2.lt; omega
  have ne_b3_g84 : b3 ≠ g84 := by have := hB3.lt; omega
  have ne_lg_g84 : lg ≠ g84 := by have := hB65.lt; omega
  have ne_bt_g84 : bt ≠ g84 := by have := hBT.lt; omega
  have ne_b78_g84 : b78 ≠ g84 := by have := hB79.lt; omega
  have ne_p_g84 : p ≠ g84 := by have := hP.lt; omega
  have ta_hi76_g84 : hi76 ≤ g84 ∨ g84 < lo76 := by have := hle76; omega
  have ge_g84 : w.heap.size ≤ g84 := own_gle hO86
  have hH_g84 : H ≤ g84 := by have := hP.le; have := hP.lt; omega
  replace hB2 := hB2.c0 hx87
  replace hB3 := hB3.c0 hx87
  replace hB65 := hB65.c0 hx87
  replace hBT := hBT.c0 hx87
  replace hB79 := hB79.c0 hx87
  replace hP := hP.chg hx87 all0
  replace hT74 := hT74.chg hx87 (fun b hb _ => nm0)
  replace hle76 := nlt hle76 hx87.size
  replace hE := hE.t0 hx87
  clear hat88 hlt89
  clear hS0
  have hS0 := hBT.same s_hBT 3
  refine ⟨.inl hS0, ?_⟩
  refine dV 6 rfl rfl hsel (by kernel_rfl) hf rfl (.inl hS0) (fun x => ex_fa (k := 3) (r := 3) hf rfl (by kernel_rfl) rfl) fun a hf => ?_
  obtain ⟨w90, he, hB91, hx92⟩ := ef_store (P := Try.prog) (t := 24) (x := (.tmp 46)) (y := (.tmp 45)) hf rfl rfl (by kernel_rfl) rfl hBT (Nat.le_of_ble_eq_true rfl) 0
  refine dl_s 7 (by kernel_rfl) rfl hf rfl rfl he fun a hf => ?_
  replace hB2 := hB2.chg hx92 (nmc ne_b2_bt nm0)
  replace hB3 := hB3.chg hx92 (nmc ne_b3_bt nm0)
  replace hB65 := hB65.chg hx92 (nmc (Ne.symm ne_bt_lg) nm0)
  replace hB79 := hB79.chg hx92 (nmc (Ne.symm ne_bt_b78) nm0)
  replace hP := hP.chg hx92 (allc ⟨hH_bt, ne_p_bt⟩ all0)
  replace hT74 := hT74.chg hx92 (fun b hb _ => (nmc (by omega) nm0))
  replace hle76 := nlt hle76 hx92.size
  replace hO86 := own_gchg hO86 hx92 (nmc (Ne.symm ne_bt_g84) nm0)
  replace hE := hE.trans hx92 (allc (.inr ge_bt) all0)
  clear hBT
  refine ⟨.inr (by kernel_rfl), ?_⟩
  refine dl_done (by kernel_rfl) ?_
  clear hS0 hsel
  refine hK71 _ _ <| wp_block ?_
  obtain ⟨R, hRd⟩ : ∃ R, commaF (argF (exprT n)) 8 beginsB (((argF (exprT n)) (pWord [40] (pTake s)).2).2.toks.length + 1) [] [((argF (exprT n)) (pWord [40] (pTake s)).2).1] ((argF (exprT n)) (pWord [40] (pTake s)).2).2 = R := ⟨_, rfl⟩
  have hcnt := hP.cnt
  refine wp_loop_ghost (fun g a w' => ∃ cs ks s' lg lcap kg kcap cc F, Fr a 83 (fm [(0, .pointer (some ⟨p, 0, none⟩)), (2, .pointer (some ⟨b2, 0, none⟩)), (4, .pointer (some ⟨bt, 0, none⟩))]) ∧ CommaAt w H p b2 bt 16 (t.text) [t.lead, (pWord [40] (pTake s)).1, []] cs ks s' lg lcap kg kcap cc w' ∧ g = s'.toks.length ∧ s'.toks.length < F ∧ commaF (argF (exprT n)) 8 beginsB F cs ks s' = R ∧ s'.toks.length ≤ (pTake s).toks.length ∧ ks.length + s'.toks.length ≤ 1000001 ∧ cs.length ≤ ks.length) _ ⟨[], [((argF (exprT n)) (pWord [40] (pTake s)).2).1], _, lg, 3, g84, _, _, _, hf.pick ⟨rfl, rfl, rfl, trivial⟩, ⟨hP, hE, hB2, hB91, own_of_blk hB65 ge_lg rfl rfl, hO86, kids_one (hT74.mono (fun b hb => by omega)), ge_b2, ge_bt, lt_p, (by omega), (by omega), (by omega), (by omega), (by omega), (by omega)⟩, rfl, Nat.lt_succ_self _, hRd, hL, (by simp only [List.length_cons, List.length_nil]; omega), (by simp)⟩ ?_
  clear hf a; intro g0 a w' hI
  obtain ⟨cs, ks, s', lg, lcap, kg, kcap, cc, F, hf, hC, rfl, hF, hR, hLs, hM, hcl⟩ := hI
  obtain ⟨b2, eb2⟩ : ∃ x, b2 = x := ⟨_, rfl⟩
  obtain ⟨bt, ebt⟩ : ∃ x, bt = x := ⟨_, rfl⟩
  rw [eb2, ebt] at hC hf
  obtain ⟨hP, hE, hB2, hBT, hOL, hOK, hKT, ge_b2, ge_bt, lt_p, ne_b2_bt, ne_b2_lg, ne_b2_kg, ne_bt_lg, ne_bt_kg, ne_lg_kg⟩ := hC
  have ge_lg := own_gle hOL
  have ge_kg := own_gle hOK
  have ne_p_b2 : p ≠ b2 := by omega
  have hH_b2 : H ≤ b2 := by have := hP.le; omega
  have ne_p_bt : p ≠ bt := by omega
  have hH_bt : H ≤ bt := by have := hP.le; omega
  have ne_p_lg : p ≠ lg := by omega
  have hH_lg : H ≤ lg := by have := hP.le; omega
  have ne_p_kg : p ≠ kg := by omega
  have hH_kg : H ≤ kg := by have := hP.le; omega
  by_cases hcm : (pNext s').text = [44]
  obtain ⟨t', r', hs', hn'⟩ := pNext_cons (s := s') (.inl (by rw [hcm]; decide))
  have htl' := pTake_lt hs'
  obtain ⟨F', rfl⟩ : ∃ F', F = F' + 1 := ⟨F - 1, by omega⟩
  have hcnt' := hP.cnt
  by_cases hmost : ks.length = 8
  refine wS fun K93 hK93 => wS fun K94 hK94 => wR <| sM hf rfl rfl fun a hf => st_c hf rfl rfl rfl (by kernel_rfl) (pNextL hP) ?_
  rintro _ w96 ⟨rfl, hP, hx95⟩
  refine ⟨_, rfl, fun a hf => ?_⟩
  replace hB2 := hB2.c0 hx95
  replace hBT := hBT.c0 hx95
  replace hOL := own_gchg hOL hx95 nm0
  replace hOK := own_gchg hOK hx95 nm0
  replace hKT := hKT.chg hx95 (fun b hb hlt => nm0)
  replace hE := hE.t0 hx95
  refine sV hf rfl (ex_fd (k := 2) hf rfl (by kernel_rfl) rfl) fun a hf => sV hf rfl (ex_eqS (c := true) hf rfl rfl (beqT hcm)) fun a hf => sN <| hK94 _ _ <| cT hf rfl <| wp_skip <| hK93 _ _ <| wp_block <| wS fun K97 hK97 => ?_
  have s_hBT := hBT
  refine dl_start (fun x => x.cell? ⟨bt, 2, none⟩ = w96.cell? ⟨bt, 2, none⟩) 8 9 rfl (by kernel_rfl) (by kernel_rfl) ?_
  intro w98 hx99 hsel
  replace hB2 := hB2.c0 hx99
  replace hBT := hBT.c0 hx99
  replace hP := hP.chg hx99 all0
  replace hOL := own_gchg hOL hx99 nm0
  replace hOK := own_gchg hOK hx99 nm0
  replace hKT := hKT.chg hx99 (fun b hb hlt => nm0)
  replace hE := hE.t0 hx99
  have hS0 := hBT.same s_hBT 2
  refine dV 0 rfl rfl hsel (by kernel_rfl) hf rfl (.inl hS0) (fun x => ex_fa (k := 2) (r := 2) hf rfl (by kernel_rfl) rfl) fun a hf => dL 1 rfl rfl hsel (by kernel_rfl) hf rfl hS0 (fun x hS => ex_load hf rfl (by kernel_rfl) (hS.trans ((s_hBT.cell 2).trans rfl))) fun a hf => dM 2 rfl rfl hsel (by kernel_rfl) hf rfl hS0 rfl fun a hf => dl_c 3 (by kernel_rfl) rfl hf rfl rfl rfl (by kernel_rfl) (pTakeL hP hs') ?_
  rintro _ w101 ⟨rfl, hP, hx100⟩
  refine ⟨_, rfl, fun a hf => ?_⟩
  replace hB2 := hB2.chg hx100 (nmc (Ne.symm ne_p_b2) nm0)
  replace hBT := hBT.chg hx100 (nmc (Ne.symm ne_p_bt) nm0)
  replace hOL := own_gchg hOL hx100 (nmc (Ne.symm ne_p_lg) nm0)
  replace hOK := own_gchg hOK hx100 (nmc (Ne.symm ne_p_kg) nm0)
  replace hKT := hKT.chg hx100 (fun b hb hlt => (nmc (by omega) nm0))
  replace hE := hE.trans hx100 (allc (.inl (by simp)) all0)
  clear hS0
  have hS0 := hBT.same s_hBT 2
  refine ⟨.inl hS0, ?_⟩
  refine dV 4 rfl rfl hsel (by kernel_rfl) hf rfl (.inl hS0) (fun x => ex_fd (k := 1) hf rfl (by kernel_rfl) rfl) fun a hf => ?_
  obtain ⟨w102, b103, he, hB104, hx105, eb106, lb107⟩ := ef_bslice (P := Try.prog) (ps := [(0, (.tmp 55))]) (m := 1) (sz := 1) (z := [.string ⟨([] : List UInt8).toArray⟩]) hf rfl Try.underlying23 (by kernel_rfl) (by kernel_rfl) rfl rfl (by kernel_rfl) rfl w101 23
  refine dl_e 5 (by kernel_rfl) rfl hf rfl rfl he fun a hf => ?_
  have ne_b2_b103 : b2 ≠ b103 := ne_new hB2.lt eb106
  have ne_bt_b103 : bt ≠ b103 := ne_new hBT.lt eb106
  have ne_p_b103 : p ≠ b103 := ne_new hP.lt eb106
  have ne_lg_b103 : lg ≠ b103 := ne_new (own_glt hOL) eb106
  have ne_kg_b103 : kg ≠ b103 := ne_new (own_glt hOK) eb106
  have ge_b103 := ge_new hE eb106
  have hH_b103 : H ≤ b103 := by have := hP.le; have := hP.lt; omega
  replace hB2 := hB2.c0 hx105
  replace hBT := hBT.c0 hx105
  replace hP := hP.chg hx105 all0
  replace hOL := own_gchg hOL hx105 nm0
  replace hOK := own_gchg hOK hx105 nm0
  replace hKT := hKT.chg hx105 (fun b hb hlt => nm0)
  replace hE := hE.t0 hx105
  clear eb106 lb107
  clear hS0
  have hS0 := hBT.same s_hBT 2
  refine ⟨.inl hS0, ?_⟩
  obtain ⟨g109, cap110, w108, he, hO111, hx112, hat113, hlt114⟩ := ef_append1 (P := Try.prog) (x := (.tmp 52)) (y := (.tmp 56)) (z := .string ⟨([] : List UInt8).toArray⟩) (sz := 1) (by_ := 16) hf rfl rfl Try.underlying23 (by kernel_rfl) rfl rfl hOL hB104 rfl rfl rfl (by simp only [maxLen, List.length_append, List.length_cons, List.length_nil]; omega) (by simp only [List.length_append, List.length_cons, List.length_nil]; omega) (hE.size) 23
  refine dl_e 6 (by kernel_rfl) rfl hf rfl rfl he fun a hf => ?_
  have ne_b2_g109 : b2 ≠ g109 := by have := hB2.lt; have := ne_b2_lg; omega
  have ne_bt_g109 : bt ≠ g109 := by have := hBT.lt; have := ne_bt_lg; omega
  have ne_b103_g109 : b103 ≠ g109 := by have := hB104.lt; have := (Ne.symm ne_lg_b103); omega
  have ne_p_g109 : p ≠ g109 := by have := hP.lt; have := ne_p_lg; omega
  have ne_kg_g109 : kg ≠ g109 := by have := (own_glt hOK); have := (Ne.symm ne_lg_kg); omega
  replace hKT : KidsAre (fun b => w.heap.size ≤ b ∧ b ≠ b2 ∧ b ≠ bt ∧ b ≠ lg ∧ b ≠ kg ∧ b ≠ g109) w102 _ _ := hKT.keepB (fun b hb hlt => by omega) (fun _ _ _ => rfl)
  have ge_g109 : w.heap.size ≤ g109 := own_gle hO111
  have hH_g109 : H ≤ g109 := by have := hP.le; have := hP.lt; omega
  replace hB2 := hB2.chg hx112 (nmc ne_b2_lg nm0)
  replace hBT := hBT.chg hx112 (nmc ne_bt_lg nm0)
  replace hB104 := hB104.chg hx112 (nmc (Ne.symm ne_lg_b103) nm0)
  replace hP := hP.chg hx112 (allc ⟨hH_lg, ne_p_lg⟩ all0)
  replace hOK := own_gchg hOK hx112 (nmc (Ne.symm ne_lg_kg) nm0)
  replace hKT := hKT.chg hx112 (fun b hb hlt => (nmc (by omega) nm0))
  replace hE := hE.trans hx112 (allc (.inr ge_lg) all0)
  clear hat113 hlt114
  clear hS0
  have hS0 := hBT.same s_hBT 2
  refine ⟨.inl hS0, ?_⟩
  refine dV 7 rfl rfl hsel (by kernel_rfl) hf rfl (.inl hS0) (fun x => ex_fa (k := 2) (r := 2) hf rfl (by kernel_rfl) rfl) fun a hf => ?_
  obtain ⟨w115, he, hB116, hx117⟩ := ef_store (P := Try.prog) (t := 23) (x := (.tmp 58)) (y := (.tmp 57)) hf rfl rfl (by kernel_rfl) rfl hBT (Nat.le_of_ble_eq_true rfl) 0
  refine dl_s 8 (by kernel_rfl) rfl hf rfl rfl he fun a hf => ?_
  replace hB2 := hB2.chg hx117 (nmc ne_b2_bt nm0)
  replace hB104 := hB104.chg hx117 (nmc (Ne.symm ne_bt_b103) nm0)
  replace hP := hP.chg hx117 (allc ⟨hH_bt, ne_p_bt⟩ all0)
  replace hOK := own_gchg hOK hx117 (nmc (Ne.symm ne_bt_kg) nm0)
  replace hKT := hKT.chg hx117 (fun b hb hlt => (nmc (by omega) nm0))
  replace hO111 := own_gchg hO111 hx117 (nmc (Ne.symm ne_bt_g109) nm0)
  replace hE := hE.trans hx117 (allc (.inr ge_bt) all0)
  clear hBT
  refine ⟨.inr (by kernel_rfl), ?_⟩
  refine dl_done (by kernel_rfl) ?_
  clear hS0 hsel
  refine hK97 _ _ <| wS fun K118 hK118 => wS fun K119 hK119 => wR <| sV hf rfl (ex_fa (k := 3) (r := 3) hf rfl (by kernel_rfl) rfl) fun a hf => sV hf rfl (ex_loadB hf rfl (by kernel_rfl) hB116 rfl) fun a hf => sV hf rfl (ex_len hf Try.underlying24 rfl) fun a hf => sV hf rfl (ex_eqI (c := true) hf rfl rfl (iEqT (by omega))) fun a hf => sM hf rfl rfl fun a hf => sM hf rfl rfl fun a hf => st_c hf rfl rfl rfl (by kernel_rfl) (pNextL hP) ?_
  rintro _ w121 ⟨rfl, hP, hx120⟩
  refine ⟨_, rfl, fun a hf => ?_⟩
  replace hB2 := hB2.c0 hx120
  replace hB116 := hB116.c0 hx120
  replace hB104 := hB104.c0 hx120
  replace hOK := own_gchg hOK hx120 nm0
  replace hKT := hKT.chg hx120 (fun b hb hlt => nm0)
  replace hO111 := own_gchg hO111 hx120 nm0
  replace hE := hE.t0 hx120
  refine st_c hf rfl rfl rfl (by kernel_rfl) (beginsL) ?_
  rintro _ w123 ⟨rfl, hx122⟩
  refine ⟨_, rfl, fun a hf => ?_⟩
  replace hB2 := hB2.c0 hx122
  replace hB116 := hB116.c0 hx122
  replace hB104 := hB104.c0 hx122
  replace hP := hP.chg hx122 all0
  replace hOK := own_gchg hOK hx122 nm0
  replace hKT := hKT.chg hx122 (fun b hb hlt => nm0)
  replace hO111 := own_gchg hO111 hx122 nm0
  replace hE := hE.t0 hx122
  refine sV hf rfl (ex_pickT hf rfl rfl) fun a hf => sN <| hK119 _ _ <| cd_b hf rfl ?_ ?_
  intro hbg
  refine wR <| sM hf rfl rfl fun a hf => st_c hf rfl rfl rfl (by kernel_rfl) (pFailL (e := 3) hP (by decide)) ?_
  rintro _ w126 ⟨rfl, hP, hx125⟩
  refine ⟨_, rfl, fun a hf => ?_⟩
  replace hB2 := hB2.chg hx125 (nmc (Ne.symm ne_p_b2) nm0)
  replace hB116 := hB116.chg hx125 (nmc (Ne.symm ne_p_bt) nm0)
  replace hB104 := hB104.chg hx125 (nmc (Ne.symm ne_p_b103) nm0)
  replace hOK := own_gchg hOK hx125 (nmc (Ne.symm ne_p_kg) nm0)
  replace hKT := hKT.chg hx125 (fun b hb hlt => (nmc (by omega) nm0))
  replace hO111 := own_gchg hO111 hx125 (nmc (Ne.symm ne_p_g109) nm0)
  replace hE := hE.trans hx125 (allc (.inl (by simp)) all0)
  refine sN <| hK118 _ _ ?_
  have s_hB116 := hB116
  refine dl_start (fun x => x.cell? ⟨bt, 3, none⟩ = w126.cell? ⟨bt, 3, none⟩) 7 8 rfl (by kernel_rfl) (by kernel_rfl) ?_
  intro w127 hx128 hsel
  replace hB2 := hB2.c0 hx128
  replace hB116 := hB116.c0 hx128
  replace hB104 := hB104.c0 hx128
  replace hP := hP.chg hx128 all0
  replace hOK := own_gchg hOK hx128 nm0
  replace hKT := hKT.chg hx128 (fun b hb hlt => nm0)
  replace hO111 := own_gchg hO111 hx128 nm0
  replace hE := hE.t0 hx128
  have hS0 := hB116.same s_hB116 3
  refine dV 0 rfl rfl hsel (by kernel_rfl) hf rfl (.inl hS0) (fun x => ex_fa (k := 3) (r := 3) hf rfl (by kernel_rfl) rfl) fun a hf => dL 1 rfl rfl hsel (by kernel_rfl) hf rfl hS0 (fun x hS => ex_load hf rfl (by kernel_rfl) (hS.trans ((s_hB116.cell 3).trans rfl))) fun a hf => dM 2 rfl rfl hsel (by kernel_rfl) hf rfl hS0 rfl fun a hf => ?_
  have plt129 := hP.lt
  refine dl_c 3 (by kernel_rfl) rfl hf rfl rfl rfl (by kernel_rfl) (argL (s := (pFail 3 (pTake s'))) ih hP (by have := pFail_len 3 (pTake s'); omega)) ?_
  rintro _ w130 ⟨c129_0, c129_1, c129_2, c129_3, rfl, hT129, hP, hx129, hl129⟩
  refine ⟨_, rfl, fun a hf => ?_⟩
  obtain ⟨lo131, elo131⟩ : ∃ x, x = w127.heap.size := ⟨_, rfl⟩
  obtain ⟨hi131, ehi131⟩ : ∃ x, x = w130.heap.size := ⟨_, rfl⟩
  replace hT129 := hT129.within elo131 ehi131
  have hle131 : hi131 ≤ w130.heap.size := Nat.le_of_eq ehi131
  have ge_lo131 : w.heap.size ≤ lo131 := elo131 ▸ hE.size
  have tb_lo131_b2 : b2 < lo131 := elo131 ▸ hB2.lt
  have tb_lo131_bt : bt < lo131 := elo131 ▸ hB116.lt
  have tb_lo131_b103 : b103 < lo131 := elo131 ▸ hB104.lt
  have tb_lo131_p : p < lo131 := elo131 ▸ plt129
  have tb_lo131_kg : kg < lo131 := elo131 ▸ (own_glt hOK)
  have tb_lo131_g109 : g109 < lo131 := elo131 ▸ (own_glt hO111)
  clear elo131 ehi131
  clear plt129
  have on_hT129 := hT129.one
  replace hB2 := hB2.chg hx129 (nmc (Ne.symm ne_p_b2) nm0)
  replace hB116 := hB116.chg hx129 (nmc (Ne.symm ne_p_bt) nm0)
  replace hB104 := hB104.chg hx129 (nmc (Ne.symm ne_p_b103) nm0)
  replace hOK := own_gchg hOK hx129 (nmc (Ne.symm ne_p_kg) nm0)
  replace hKT := hKT.chg hx129 (fun b hb hlt => (nmc (by omega) nm0))
  replace hO111 := own_gchg hO111 hx129 (nmc (Ne.symm ne_p_g109) nm0)
  replace hE := hE.trans hx129 (allc (.inl (by simp)) all0)
  clear hS0
  have hS0 := hB116.same s_hB116 3
  refine ⟨.inl hS0, ?_⟩
  obtain ⟨w132, b133, he, hB134, hx135, eb136, lb137⟩ := ef_bslice (P := Try.prog) (ps := [(0, (.tmp 73))]) (m := 1) (sz := 4) (z := zT) hf rfl Try.underlying24 (by kernel_rfl) (by kernel_rfl) rfl rfl (by kernel_rfl) rfl w130 24
  refine dl_e 4 (by kernel_rfl) rfl hf rfl rfl he fun a hf => ?_
  have ne_b2_b133 : b2 ≠ b133 := ne_new hB2.lt eb136
  have ne_bt_b133 : bt ≠ b133 := ne_new hB116.lt eb136
  have ne_b103_b133 : b103 ≠ b133 := ne_new hB104.lt eb136
  have ne_p_b133 : p ≠ b133 := ne_new hP.lt eb136
  have ne_kg_b133 : kg ≠ b133 := ne_new (own_glt hOK) eb136
  have ne_g109_b133 : g109 ≠ b133 := ne_new (own_glt hO111) eb136
  have ta_hi131_b133 : hi131 ≤ b133 := eb136 ▸ hle131
  have ge_b133 := ge_new hE eb136
  have hH_b133 : H ≤ b133 := by have := hP.le; have := hP.lt; omega
  replace hB2 := hB2.c0 hx135
  replace hB116 := hB116.c0 hx135
  replace hB104 := hB104.c0 hx135
  replace hP := hP.chg hx135 all0
  replace hOK := own_gchg hOK hx135 nm0
  replace hKT := hKT.chg hx135 (fun b hb hlt => nm0)
  replace hO111 := own_gchg hO111 hx135 nm0
  replace hT129 := hT129.chg hx135 (fun b hb _ => nm0)
  replace hle131 := nlt hle131 hx135.size
  replace hE := hE.t0 hx135
  clear eb136 lb137
  clear hS0
  have hS0 := hB116.same s_hB116 3
  refine ⟨.inl hS0, ?_⟩
  obtain ⟨g139, cap140, w138, he, hO141, hx142, hat143, hlt144⟩ := ef_append1 (P := Try.prog) (x := (.tmp 71)) (y := (.tmp 74)) (z := .agg zA) (sz := 4) (by_ := 72) hf rfl rfl Try.underlying24 (by kernel_rfl) rfl rfl hOK hB134 rfl on_hT129 rfl (by simp only [maxLen]; omega) (by omega) (hE.size) 24
  refine dl_e 5 (by kernel_rfl) rfl hf rfl rfl he fun a hf => ?_
  have ne_b2_g139 : b2 ≠ g139 := by have := hB2.lt; have := ne_b2_kg; omega
  have ne_bt_g139 : bt ≠ g139 := by have := hB116.lt; have := ne_bt_kg; omega
  have ne_b103_g139 : b103 ≠ g139 := by have := hB104.lt; have := (Ne.symm ne_kg_b103); omega
  have ne_b133_g139 : b133 ≠ g139 := by have := hB134.lt; have := (Ne.symm ne_kg_b133); omega
  have ne_p_g139 : p ≠ g139 := by have := hP.lt; have := ne_p_kg; omega
  have ne_g109_g139 : g109 ≠ g139 := by have := (own_glt hO111); have := (Ne.symm ne_kg_g109); omega
  have ta_hi131_g139 : hi131 ≤ g139 ∨ g139 < lo131 := by have := hle131; omega
  replace hKT : KidsAre (fun b => w.heap.size ≤ b ∧ b ≠ b2 ∧ b ≠ bt ∧ b ≠ lg ∧ b ≠ kg ∧ b ≠ g109 ∧ b ≠ g139) w132 _ _ := hKT.keepB (fun b hb hlt => by omega) (fun _ _ _ => rfl)
  have ge_g139 : w.heap.size ≤ g139 := own_gle hO141
  have hH_g139 : H ≤ g139 := by have := hP.le; have := hP.lt; omega
  replace hB2 := hB2.chg hx142 (nmc ne_b2_kg nm0)
  replace hB116 := hB116.chg hx142 (nmc ne_bt_kg nm0)
  replace hB104 := hB104.chg hx142 (nmc (Ne.symm ne_kg_b103) nm0)
  replace hB134 := hB134.chg hx142 (nmc (Ne.symm ne_kg_b133) nm0)
  replace hP := hP.chg hx142 (allc ⟨hH_kg, ne_p_kg⟩ all0)
  replace hKT := hKT.chg hx142 (fun b hb hlt => (nmc (by omega) nm0))
  replace hO111 := own_gchg hO111 hx142 (nmc (Ne.symm ne_kg_g109) nm0)
  replace hT129 := hT129.chg hx142 (fun b hb _ => (nmc (by omega) nm0))
  replace hle131 := nlt hle131 hx142.size
  replace hE := hE.trans hx142 (allc (.inr ge_kg) all0)
  clear hat143 hlt144
  clear hS0
  have hS0 := hB116.same s_hB116 3
  refine ⟨.inl hS0, ?_⟩
  refine dV 6 rfl rfl hsel (by kernel_rfl) hf rfl (.inl hS0) (fun x => ex_fa (k := 3) (r := 3) hf rfl (by kernel_rfl) rfl) fun a hf => ?_
  obtain ⟨w145, he, hB146, hx147⟩ := ef_store (P := Try.prog) (t := 24) (x := (.tmp 76)) (y := (.tmp 75)) hf rfl rfl (by kernel_rfl) rfl hB116 (Nat.le_of_ble_eq_true rfl) 0
  refine dl_s 7 (by kernel_rfl) rfl hf rfl rfl he fun a hf => ?_
  replace hB2 := hB2.chg hx147 (nmc ne_b2_bt nm0)
  replace hB104 := hB104.chg hx147 (nmc (Ne.symm ne_bt_b103) nm0)
  replace hB134 := hB134.chg hx147 (nmc (Ne.symm ne_bt_b133) nm0)
  replace hP := hP.chg hx147 (allc ⟨hH_bt, ne_p_bt⟩ all0)
  replace hKT := hKT.chg hx147 (fun b hb hlt => (nmc (by omega) nm0))
  replace hO111 := own_gchg hO111 hx147 (nmc (Ne.symm ne_bt_g109) nm0)
  replace hT129 := hT129.chg hx147 (fun b hb _ => (nmc (by omega) nm0))
  replace hle131 := nlt hle131 hx147.size
  replace hO141 := own_gchg hO141 hx147 (nmc (Ne.symm ne_bt_g139) nm0)
  replace hE := hE.trans hx147 (allc (.inr ge_bt) all0)
  clear hB116
  refine ⟨.inr (by kernel_rfl), ?_⟩
  refine dl_done (by kernel_rfl) ?_
  clear hS0 hsel
  have hR' := (commaF_step hcm (if_pos ⟨hmost, hbg⟩)).symm.trans hR
  have e1 : ([t.lead, (pWord [40] (pTake s)).1, []] ++ cs).length + 1 = ([t.lead, (pWord [40] (pTake s)).1, []] ++ (cs ++ [(pNext s').lead])).length := by simp
  have e2 : ks.length + 1 = (ks ++ [((argF (exprT n)) (pFail 3 (pTake s'))).1]).length := by simp
  have e3 : List.map strV ([t.lead, (pWord [40] (pTake s)).1, []] ++ cs) ++ [strV (pNext s').lead] = List.map strV ([t.lead, (pWord [40] (pTake s)).1, []] ++ (cs ++ [(pNext s').lead])) := by simp
  have hBT2 : Blk w145 bt 26 [.int .i64 16, strV (t.text), .slice (some ⟨g109, 0, none⟩) (([t.lead, (pWord [40] (pTake s)).1, []] ++ cs).length + 1) cap110, .slice (some ⟨g139, 0, none⟩) (ks.length + 1) cap140] := hB146
  rw [e1, e2] at hBT2
  have hOL2 := hO111
  have hOK2 := hO141
  have hOL3 : w145.ownsRow w.heap.size 9 1 (.slice (some ⟨g109, 0, none⟩) (([t.lead, (pWord [40] (pTake s)).1, []] ++ cs).length + 1) cap110) (([t.lead, (pWord [40] (pTake s)).1, []] ++ cs).length + 1) (List.map strV ([t.lead, (pWord [40] (pTake s)).1, []] ++ cs) ++ [strV (pNext s').lead]) := by rw [hn']; exact hOL2
  rw [e1, e3] at hOL3
  rw [e2] at hOK2
  have hl3 : ((argF (exprT n)) (pFail 3 (pTake s'))).2.toks.length < s'.toks.length := by have := hl129; have := pFail_len 3 (pTake s'); omega
  subst eb2 ebt
  exact ⟨_, hl3, cs ++ [(pNext s').lead], ks ++ [((argF (exprT n)) (pFail 3 (pTake s'))).1], _, g109, _, g139, _, _, F', hf.pick ⟨rfl, rfl, rfl, trivial⟩, ⟨hP, hE, hB2, hBT2, hOL3, hOK2, KidsAre.snoc (hKT.keepB (fun b hb hlt => by omega) (fun _ _ _ => rfl)) (hT129.mono (fun b hb => by omega)), ge_b2, ge_bt, lt_p, ne_b2_bt, by omega, by omega, by omega, by omega, by omega⟩, rfl, by omega, hR', by omega, by rw [← e2]; omega, by simp; omega⟩
  intro hbg
  refine wp_skip <| hK118 _ _ ?_
  have s_hB116 := hB116
  refine dl_start (fun x => x.cell? ⟨bt, 3, none⟩ = w123.cell? ⟨bt, 3, none⟩) 7 8 rfl (by kernel_rfl) (by kernel_rfl) ?_
  intro w148 hx149 hsel
  replace hB2 := hB2.c0 hx149
  replace hB116 := hB116.c0 hx149
  replace hB104 := hB104.c0 hx149
  replace hP := hP.chg hx149 all0
  replace hOK := own_gchg hOK hx149 nm0
  replace hKT := hKT.chg hx149 (fun b hb hlt => nm0)
  replace hO111 := own_gchg hO111 hx149 nm0
  replace hE := hE.t0 hx149
  have hS0 := hB116.same s_hB116 3
  refine dV 0 rfl rfl hsel (by kernel_rfl) hf rfl (.inl hS0) (fun x => ex_fa (k := 3) (r := 3) hf rfl (by kernel_rfl) rfl) fun a hf => dL 1 rfl rfl hsel (by kernel_rfl) hf rfl hS0 (fun x hS => ex_load hf rfl (by kernel_rfl) (hS.trans ((s_hB116.cell 3).trans rfl))) fun a hf => dM 2 rfl rfl hsel (by kernel_rfl) hf rfl hS0 rfl fun a hf => ?_
  have plt150 := hP.lt
  refine dl_c 3 (by kernel_rfl) rfl hf rfl rfl rfl (by kernel_rfl) (argL (s := (pTake s')) ih hP (by have := pFail_len 3 (pTake s'); omega)) ?_
  rintro _ w151 ⟨c150_0, c150_1, c150_2, c150_3, rfl, hT150, hP, hx150, hl150⟩
  refine ⟨_, rfl, fun a hf => ?_⟩
  obtain ⟨lo152, elo152⟩ : ∃ x, x = w148.heap.size := ⟨_, rfl⟩
  obtain ⟨hi152, ehi152⟩ : ∃ x, x = w151.heap.size := ⟨_, rfl⟩
  replace hT150 := hT150.within elo152 ehi152
  have hle152 : hi152 ≤ w151.heap.size := Nat.le_of_eq ehi152
  have ge_lo152 : w.heap.size ≤ lo152 := elo152 ▸ hE.size
  have tb_lo152_b2 : b2 < lo152 := elo152 ▸ hB2.lt
  have tb_lo152_bt : bt < lo152 := elo152 ▸ hB116.lt
  have tb_lo152_b103 : b103 < lo152 := elo152 ▸ hB104.lt
  have tb_lo152_p : p < lo152 := elo152 ▸ plt150
  have tb_lo152_kg : kg < lo152 := elo152 ▸ (own_glt hOK)
  have tb_lo152_g109 : g109 < lo152 := elo152 ▸ (own_glt hO111)
  clear elo152 ehi152
  clear plt150
  have on_hT150 := hT150.one
  replace hB2 := hB2.chg hx150 (nmc (Ne.symm ne_p_b2) nm0)
  replace hB116 := hB116.chg hx150 (nmc (Ne.symm ne_p_bt) nm0)
  replace hB104 := hB104.chg hx150 (nmc (Ne.symm ne_p_b103) nm0)
  replace hOK := own_gchg hOK hx150 (nmc (Ne.symm ne_p_kg) nm0)
  replace hKT := hKT.chg hx150 (fun b hb hlt => (nmc (by omega) nm0))
  replace hO111 := own_gchg hO111 hx150 (nmc (Ne.symm ne_p_g109) nm0)
  replace hE := hE.trans hx150 (allc (.inl (by simp)) all0)
  clear hS0
  have hS0 := hB116.same s_hB116 3
  refine ⟨.inl hS0, ?_⟩
  obtain ⟨w153, b154, he, hB155, hx156, eb157, lb158⟩ := ef_bslice (P := Try.prog) (ps := [(0, (.tmp 73))]) (m := 1) (sz := 4) (z := zT) hf rfl Try.underlying24 (by kernel_rfl) (by kernel_rfl) rfl rfl (by kernel_rfl) rfl w151 24
  refine dl_e 4 (by kernel_rfl) rfl hf rfl rfl he fun a hf => ?_
  have ne_b2_b154 : b2 ≠ b154 := ne_new hB2.lt eb157
  have ne_bt_b154 : bt ≠ b154 := ne_new hB116.lt eb157
  have ne_b103_b154 : b103 ≠ b154 := ne_new hB104.lt eb157
  have ne_p_b154 : p ≠ b154 := ne_new hP.lt eb157
  have ne_kg_b154 : kg ≠ b154 := ne_new (own_glt hOK) eb157
  have ne_g109_b154 : g109 ≠ b154 := ne_new (own_glt hO111) eb157
  have ta_hi152_b154 : hi152 ≤ b154 := eb157 ▸ hle152
  have ge_b154 := ge_new hE eb157
  have hH_b154 : H ≤ b154 := by have := hP.le; have := hP.lt; omega
  replace hB2 := hB2.c0 hx156
  replace hB116 := hB116.c0 hx156
  replace hB104 := hB104.c0 hx156
  replace hP := hP.chg hx156 all0
  replace hOK := own_gchg hOK hx156 nm0
  replace hKT := hKT.chg hx156 (fun b hb hlt => nm0)
  replace hO111 := own_gchg hO111 hx156 nm0
  replace hT150 := hT150.chg hx156 (fun b hb _ => nm0)
  replace hle152 := nlt hle152 hx156.size
  replace hE := hE.t0 hx156
  clear eb157 lb158
  clear hS0
  have hS0 := hB116.same s_hB116 3
  refine ⟨.inl hS0, ?_⟩
  obtain ⟨g160, cap161, w159, he, hO162, hx163, hat164, hlt165⟩ := ef_append1 (P := Try.prog) (x := (.tmp 71)) (y := (.tmp 74)) (z := .agg zA) (sz := 4) (by_ := 72) hf rfl rfl Try.underlying24 (by kernel_rfl) rfl rfl hOK hB155 rfl on_hT150 rfl (by simp only [maxLen]; omega) (by omega) (hE.size) 24
  refine dl_e 5 (by kernel_rfl) rfl hf rfl rfl he fun a hf => ?_
  have ne_b2_g160 : b2 ≠ g160 := by have := hB2.lt; have := ne_b2_kg; omega
  have ne_bt_g160 : bt ≠ g160 := by have := hB116.lt; have := ne_bt_kg; omega
  have ne_b103_g160 : b103 ≠ g160 := by have := hB104.lt; have := (Ne.symm ne_kg_b103); omega
  have ne_b154_g160 : b154 ≠ g160 := by have := hB155.lt; have := (Ne.symm ne_kg_b154); omega
  have ne_p_g160 : p ≠ g160 := by have := hP.lt; have := ne_p_kg; omega
  have ne_g109_g160 : g109 ≠ g160 := by have := (own_glt hO111); have := (Ne.symm ne_kg_g109); omega
  have ta_hi152_g160 : hi152 ≤ g160 ∨ g160 < lo152 := by have := hle152; omega
  replace hKT : KidsAre (fun b => w.heap.size ≤ b ∧ b ≠ b2 ∧ b ≠ bt ∧ b ≠ lg ∧ b ≠ kg ∧ b ≠ g109 ∧ b ≠ g160) w153 _ _ := hKT.keepB (fun b hb hlt => by omega) (fun _ _ _ => rfl)
  have ge_g160 : w.heap.size ≤ g160 := own_gle hO162
  have hH_g160 : H ≤ g160 := by have := hP.le; have := hP.lt; omega
  replace hB2 := hB2.chg hx163 (nmc ne_b2_kg nm0)
  replace hB116 := hB116.chg hx163 (nmc ne_bt_kg nm0)
  replace hB104 := hB104.chg hx163 (nmc (Ne.symm ne_kg_b103) nm0)
  replace hB155 := hB155.chg hx163 (nmc (Ne.symm ne_kg_b154) nm0)
  replace hP := hP.chg hx163 (allc ⟨hH_kg, ne_p_kg⟩ all0)
  replace hKT := hKT.chg hx163 (fun b hb hlt => (nmc (by omega) nm0))
  replace hO111 := own_gchg hO111 hx163 (nmc (Ne.symm ne_kg_g109) nm0)
  replace hT150 := hT150.chg hx163 (fun b hb _ => (nmc (by omega) nm0))
  replace hle152 := nlt hle152 hx163.size
  replace hE := hE.trans hx163 (allc (.inr ge_kg) all0)
  clear hat164 hlt165
  clear hS0
  have hS0 := hB116.same s_hB116 3
  refine ⟨.inl hS0, ?_⟩
  refine dV 6 rfl rfl hsel (by kernel_rfl) hf rfl (.inl hS0) (fun x => ex_fa (k := 3) (r := 3) hf rfl (by kernel_rfl) rfl) fun a hf => ?_
  obtain ⟨w166, he, hB167, hx168⟩ := ef_store (P := Try.prog) (t := 24) (x := (.tmp 76)) (y := (.tmp 75)) hf rfl rfl (by kernel_rfl) rfl hB116 (Nat.le_of_ble_eq_true rfl) 0
  refine dl_s 7 (by kernel_rfl) rfl hf rfl rfl he fun a hf => ?_
  replace hB2 := hB2.chg hx168 (nmc ne_b2_bt nm0)
  replace hB104 := hB104.chg hx168 (nmc (Ne.symm ne_bt_b103) nm0)
  replace hB155 := hB155.chg hx168 (nmc (Ne.symm ne_bt_b154) nm0)
  replace hP := hP.chg hx168 (allc ⟨hH_bt, ne_p_bt⟩ all0)
  replace hKT := hKT.chg hx168 (fun b hb hlt => (nmc (by omega) nm0))
  replace hO111 := own_gchg hO111 hx168 (nmc (Ne.symm ne_bt_g109) nm0)
  replace hT150 := hT150.chg hx168 (fun b hb _ => (nmc (by omega) nm0))
  replace hle152 := nlt hle152 hx168.size
  replace hO162 := own_gchg hO162 hx168 (nmc (Ne.symm ne_bt_g160) nm0)
  replace hE := hE.trans hx168 (allc (.inr ge_bt) all0)
  clear hB116
  refine ⟨.inr (by kernel_rfl), ?_⟩
  refine dl_done (by kernel_rfl) ?_
  clear hS0 hsel
  have hR' := (commaF_step hcm (if_neg (fun h => Bool.false_ne_true (hbg.symm.trans h.2)))).symm.trans hR
  have e1 : ([t.lead, (pWord [40] (pTake s)).1, []] ++ cs).length + 1 = ([t.lead, (pWord [40] (pTake s)).1, []] ++ (cs ++ [(pNext s').lead])).length := by simp
  have e2 : ks.length + 1 = (ks ++ [((argF (exprT n)) (pTake s')).1]).length := by simp
  have e3 : List.map strV ([t.lead, (pWord [40] (pTake s)).1, []] ++ cs) ++ [strV (pNext s').lead] = List.map strV ([t.lead, (pWord [40] (pTake s)).1, []] ++ (cs ++ [(pNext s').lead])) := by simp
  have hBT2 : Blk w166 bt 26 [.int .i64 16, strV (t.text), .slice (some ⟨g109, 0, none⟩) (([t.lead, (pWord [40] (pTake s)).1, []] ++ cs).length + 1) cap110, .slice (some ⟨g160, 0, none⟩) (ks.length + 1) cap161] := hB167
  rw [e1, e2] at hBT2
  have hOL2 := hO111
  have hOK2 := hO162
  have hOL3 : w166.ownsRow w.heap.size 9 1 (.slice (some ⟨g109, 0, none⟩) (([t.lead, (pWord [40] (pTake s)).1, []] ++ cs).length + 1) cap110) (([t.lead, (pWord [40] (pTake s)).1, []] ++ cs).length + 1) (List.map strV ([t.lead, (pWord [40] (pTake s)).1, []] ++ cs) ++ [strV (pNext s').lead]) := by rw [hn']; exact hOL2
  rw [e1, e3] at hOL3
  rw [e2] at hOK2
  have hl3 : ((argF (exprT n)) (pTake s')).2.toks.length < s'.toks.length := by have := hl150; have := pFail_len 3 (pTake s'); omega
  subst eb2 ebt
  exact ⟨_, hl3, cs ++ [(pNext s').lead], ks ++ [((argF (exprT n)) (pTake s')).1], _, g109, _, g160, _, _, F', hf.pick ⟨rfl, rfl, rfl, trivial⟩, ⟨hP, hE, hB2, hBT2, hOL3, hOK2, KidsAre.snoc (hKT.keepB (fun b hb hlt => by omega) (fun _ _ _ => rfl)) (hT150.mono (fun b hb => by omega)), ge_b2, ge_bt, lt_p, ne_b2_bt, by omega, by omega, by omega, by omega, by omega⟩, rfl, by omega, hR', by omega, by rw [← e2]; omega, by simp; omega⟩
  refine wS fun K169 hK169 => wS fun K170 hK170 => wR <| sM hf rfl rfl fun a hf => st_c hf rfl rfl rfl (by kernel_rfl) (pNextL hP) ?_
  rintro _ w172 ⟨rfl, hP, hx171⟩
  refine ⟨_, rfl, fun a hf => ?_⟩
  replace hB2 := hB2.c0 hx171
  replace hBT := hBT.c0 hx171
  replace hOL := own_gchg hOL hx171 nm0
  replace hOK := own_gchg hOK hx171 nm0
  replace hKT := hKT.chg hx171 (fun b hb hlt => nm0)
  replace hE := hE.t0 hx171
  refine sV hf rfl (ex_fd (k := 2) hf rfl (by kernel_rfl) rfl) fun a hf => sV hf rfl (ex_eqS (c := true) hf rfl rfl (beqT hcm)) fun a hf => sN <| hK170 _ _ <| cT hf rfl <| wp_skip <| hK169 _ _ <| wp_block <| wS fun K173 hK173 => ?_
  have s_hBT := hBT
  refine dl_start (fun x => x.cell? ⟨bt, 2, none⟩ = w172.cell? ⟨bt, 2, none⟩) 8 9 rfl (by kernel_rfl) (by kernel_rfl) ?_
  intro w174 hx175 hsel
  replace hB2 := hB2.c0 hx175
  replace hBT := hBT.c0 hx175
  replace hP := hP.chg hx175 all0
  replace hOL := own_gchg hOL hx175 nm0
  replace hOK := own_gchg hOK hx175 nm0
  replace hKT := hKT.chg hx175 (fun b hb hlt => nm0)
  replace hE := hE.t0 hx175
  have hS0 := hBT.same s_hBT 2
  refine dV 0 rfl rfl hsel (by kernel_rfl) hf rfl (.inl hS0) (fun x => ex_fa (k := 2) (r := 2) hf rfl (by kernel_rfl) rfl) fun a hf => dL 1 rfl rfl hsel (by kernel_rfl) hf rfl hS0 (fun x hS => ex_load hf rfl (by kernel_rfl) (hS.trans ((s_hBT.cell 2).trans rfl))) fun a hf => dM 2 rfl rfl hsel (by kernel_rfl) hf rfl hS0 rfl fun a hf => dl_c 3 (by kernel_rfl) rfl hf rfl rfl rfl (by kernel_rfl) (pTakeL hP hs') ?_
  rintro _ w177 ⟨rfl, hP, hx176⟩
  refine ⟨_, rfl, fun a hf => ?_⟩
  replace hB2 := hB2.chg hx176 (nmc (Ne.symm ne_p_b2) nm0)
  replace hBT := hBT.chg hx176 (nmc (Ne.symm ne_p_bt) nm0)
  replace hOL := own_gchg hOL hx176 (nmc (Ne.symm ne_p_lg) nm0)
  replace hOK := own_gchg hOK hx176 (nmc (Ne.symm ne_p_kg) nm0)
  replace hKT := hKT.chg hx176 (fun b hb hlt => (nmc (by omega) nm0))
  replace hE := hE.trans hx176 (allc (.inl (by simp)) all0)
  clear hS0
  have hS0 := hBT.same s_hBT 2
  refine ⟨.inl hS0, ?_⟩
  refine dV 4 rfl rfl hsel (by kernel_rfl) hf rfl (.inl hS0) (fun x => ex_fd (k := 1) hf rfl (by kernel_rfl) rfl) fun a hf => ?_
  obtain ⟨w178, b179, he, hB180, hx181, eb182, lb183⟩ := ef_bslice (P := Try.prog) (ps := [(0, (.tmp 55))]) (m := 1) (sz := 1) (z := [.string ⟨([] : List UInt8).toArray⟩]) hf rfl Try.underlying23 (by kernel_rfl) (by kernel_rfl) rfl rfl (by kernel_rfl) rfl w177 23
  refine dl_e 5 (by kernel_rfl) rfl hf rfl rfl he fun a hf => ?_
  have ne_b2_b179 : b2 ≠ b179 := ne_new hB2.lt eb182
  have ne_bt_b179 : bt ≠ b179 := ne_new hBT.lt eb182
  have ne_p_b179 : p ≠ b179 := ne_new hP.lt eb182
  have ne_lg_b179 : lg ≠ b179 := ne_new (own_glt hOL) eb182
  have ne_kg_b179 : kg ≠ b179 := ne_new (own_glt hOK) eb182
  have ge_b179 := ge_new hE eb182
  have hH_b179 : H ≤ b179 := by have := hP.le; have := hP.lt; omega
  replace hB2 := hB2.c0 hx181
  replace hBT := hBT.c0 hx181
  replace hP := hP.chg hx181 all0
  replace hOL := own_gchg hOL hx181 nm0
  replace hOK := own_gchg hOK hx181 nm0
  replace hKT := hKT.chg hx181 (fun b hb hlt => nm0)
  replace hE := hE.t0 hx181
  clear eb182 lb183
  clear hS0
  have hS0 := hBT.same s_hBT 2
  refine ⟨.inl hS0, ?_⟩
  obtain ⟨g185, cap186, w184, he, hO187, hx188, hat189, hlt190⟩ := ef_append1 (P := Try.prog) (x := (.tmp 52)) (y := (.tmp 56)) (z := .string ⟨([] : List UInt8).toArray⟩) (sz := 1) (by_ := 16) hf rfl rfl Try.underlying23 (by kernel_rfl) rfl rfl hOL hB180 rfl rfl rfl (by simp only [maxLen, List.length_append, List.length_cons, List.length_nil]; omega) (by simp only [List.length_append, List.length_cons, List.length_nil]; omega) (hE.size) 23
  refine dl_e 6 (by kernel_rfl) rfl hf rfl rfl he fun a hf => ?_
  have ne_b2_g185 : b2 ≠ g185 := by have := hB2.lt; have := ne_b2_lg; omega
  have ne_bt_g185 : bt ≠ g185 := by have := hBT.lt; have := ne_bt_lg; omega
  have ne_b179_g185 : b179 ≠ g185 := by have := hB180.lt; have := (Ne.symm ne_lg_b179); omega
  have ne_p_g185 : p ≠ g185 := by have := hP.lt; have := ne_p_lg; omega
  have ne_kg_g185 : kg ≠ g185 := by have := (own_glt hOK); have := (Ne.symm ne_lg_kg); omega
  replace hKT : KidsAre (fun b => w.heap.size ≤ b ∧ b ≠ b2 ∧ b ≠ bt ∧ b ≠ lg ∧ b ≠ kg ∧ b ≠ g185) w178 _ _ := hKT.keepB (fun b hb hlt => by omega) (fun _ _ _ => rfl)
  have ge_g185 : w.heap.size ≤ g185 := own_gle hO187
  have hH_g185 : H ≤ g185 := by have := hP.le; have := hP.lt; omega
  replace hB2 := hB2.chg hx188 (nmc ne_b2_lg nm0)
  replace hBT := hBT.chg hx188 (nmc ne_bt_lg nm0)
  replace hB180 := hB180.chg hx188 (nmc (Ne.symm ne_lg_b179) nm0)
  replace hP := hP.chg hx188 (allc ⟨hH_lg, ne_p_lg⟩ all0)
  replace hOK := own_gchg hOK hx188 (nmc (Ne.symm ne_lg_kg) nm0)
  replace hKT := hKT.chg hx188 (fun b hb hlt => (nmc (by omega) nm0))
  replace hE := hE.trans hx188 (allc (.inr ge_lg) all0)
  clear hat189 hlt190
  clear hS0
  have hS0 := hBT.same s_hBT 2
  refine ⟨.inl hS0, ?_⟩
  refine dV 7 rfl rfl hsel (by kernel_rfl) hf rfl (.inl hS0) (fun x => ex_fa (k := 2) (r := 2) hf rfl (by kernel_rfl) rfl) fun a hf => ?_
  obtain ⟨w191, he, hB192, hx193⟩ := ef_store (P := Try.prog) (t := 23) (x := (.tmp 58)) (y := (.tmp 57)) hf rfl rfl (by kernel_rfl) rfl hBT (Nat.le_of_ble_eq_true rfl) 0
  refine dl_s 8 (by kernel_rfl) rfl hf rfl rfl he fun a hf => ?_
  replace hB2 := hB2.chg hx193 (nmc ne_b2_bt nm0)
  replace hB180 := hB180.chg hx193 (nmc (Ne.symm ne_bt_b179) nm0)
  replace hP := hP.chg hx193 (allc ⟨hH_bt, ne_p_bt⟩ all0)
  replace hOK := own_gchg hOK hx193 (nmc (Ne.symm ne_bt_kg) nm0)
  replace hKT := hKT.chg hx193 (fun b hb hlt => (nmc (by omega) nm0))
  replace hO187 := own_gchg hO187 hx193 (nmc (Ne.symm ne_bt_g185) nm0)
  replace hE := hE.trans hx193 (allc (.inr ge_bt) all0)
  clear hBT
  refine ⟨.inr (by kernel_rfl), ?_⟩
  refine dl_done (by kernel_rfl) ?_
  clear hS0 hsel
  refine hK173 _ _ <| wS fun K194 hK194 => wS fun K195 hK195 => wR <| sV hf rfl (ex_fa (k := 3) (r := 3) hf rfl (by kernel_rfl) rfl) fun a hf => sV hf rfl (ex_loadB hf rfl (by kernel_rfl) hB192 rfl) fun a hf => sV hf rfl (ex_len hf Try.underlying24 rfl) fun a hf => sV hf rfl (ex_eqI (c := false) hf rfl rfl (iEqF (by omega))) fun a hf => sM hf rfl rfl fun a hf => st_k hf rfl rfl fun a hf => st_k hf rfl rfl fun a hf => st_k hf rfl rfl fun a hf => sV hf rfl (ex_pickF hf rfl rfl) fun a hf => sN <| hK195 _ _ <| cF hf rfl <| wp_skip <| hK194 _ _ ?_
  have s_hB192 := hB192
  refine dl_start (fun x => x.cell? ⟨bt, 3, none⟩ = w191.cell? ⟨bt, 3, none⟩) 7 8 rfl (by kernel_rfl) (by kernel_rfl) ?_
  intro w196 hx197 hsel
  replace hB2 := hB2.c0 hx197
  replace hB192 := hB192.c0 hx197
  replace hB180 := hB180.c0 hx197
  replace hP := hP.chg hx197 all0
  replace hOK := own_gchg hOK hx197 nm0
  replace hKT := hKT.chg hx197 (fun b hb hlt => nm0)
  replace hO187 := own_gchg hO187 hx197 nm0
  replace hE := hE.t0 hx197
  have hS0 := hB192.same s_hB192 3
  refine dV 0 rfl rfl hsel (by kernel_rfl) hf rfl (.inl hS0) (fun x => ex_fa (k := 3) (r := 3) hf rfl (by kernel_rfl) rfl) fun a hf => dL 1 rfl rfl hsel (by kernel_rfl) hf rfl hS0 (fun x hS => ex_load hf rfl (by kernel_rfl) (hS.trans ((s_hB192.cell 3).trans rfl))) fun a hf => dM 2 rfl rfl hsel (by kernel_rfl) hf rfl hS0 rfl fun a hf => ?_
  have plt198 := hP.lt
  refine dl_c 3 (by kernel_rfl) rfl hf rfl rfl rfl (by kernel_rfl) (argL (s := (pTake s')) ih hP (by have := pFail_len 3 (pTake s'); omega)) ?_
  rintro _ w199 ⟨c198_0, c198_1, c198_2, c198_3, rfl, hT198, hP, hx198, hl198⟩
  refine ⟨_, rfl, fun a hf => ?_⟩
  obtain ⟨lo200, elo200⟩ : ∃ x, x = w196.heap.size := ⟨_, rfl⟩
  obtain ⟨hi200, ehi200⟩ : ∃ x, x = w199.heap.size := ⟨_, rfl⟩
  replace hT198 := hT198.within elo200 ehi200
  have hle200 : hi200 ≤ w199.heap.size := Nat.le_of_eq ehi200
  have ge_lo200 : w.heap.size ≤ lo200 := elo200 ▸ hE.size
  have tb_lo200_b2 : b2 < lo200 := elo200 ▸ hB2.lt
  have tb_lo200_bt : bt < lo200 := elo200 ▸ hB192.lt
  have tb_lo200_b179 : b179 < lo200 := elo200 ▸ hB180.lt
  have tb_lo200_p : p < lo200 := elo200 ▸ plt198
  have tb_lo200_kg : kg < lo200 := elo200 ▸ (own_glt hOK)
  have tb_lo200_g185 : g185 < lo200 := elo200 ▸ (own_glt hO187)
  clear elo200 ehi200
  clear plt198
  have on_hT198 := hT198.one
  replace hB2 := hB2.chg hx198 (nmc (Ne.symm ne_p_b2) nm0)
  replace hB192 := hB192.chg hx198 (nmc (Ne.symm ne_p_bt) nm0)
  replace hB180 := hB180.chg hx198 (nmc (Ne.symm ne_p_b179) nm0)
  replace hOK := own_gchg hOK hx198 (nmc (Ne.symm ne_p_kg) nm0)
  replace hKT := hKT.chg hx198 (fun b hb hlt => (nmc (by omega) nm0))
  replace hO187 := own_gchg hO187 hx198 (nmc (Ne.symm ne_p_g185) nm0)
  replace hE := hE.trans hx198 (allc (.inl (by simp)) all0)
  clear hS0
  have hS0 := hB192.same s_hB192 3
  refine ⟨.inl hS0, ?_⟩
  obtain ⟨w201, b202, he, hB203, hx204, eb205, lb206⟩ := ef_bslice (P := Try.prog) (ps := [(0, (.tmp 73))]) (m := 1) (sz := 4) (z := zT) hf rfl Try.underlying24 (by kernel_rfl) (by kernel_rfl) rfl rfl (by kernel_rfl) rfl w199 24
  refine dl_e 4 (by kernel_rfl) rfl hf rfl rfl he fun a hf => ?_
  have ne_b2_b202 : b2 ≠ b202 := ne_new hB2.lt eb205
  have ne_bt_b202 : bt ≠ b202 := ne_new hB192.lt eb205
  have ne_b179_b202 : b179 ≠ b202 := ne_new hB180.lt eb205
  have ne_p_b202 : p ≠ b202 := ne_new hP.lt eb205
  have ne_kg_b202 : kg ≠ b202 := ne_new (own_glt hOK) eb205
  have ne_g185_b202 : g185 ≠ b202 := ne_new (own_glt hO187) eb205
  have ta_hi200_b202 : hi200 ≤ b202 := eb205 ▸ hle200
  have ge_b202 := ge_new hE eb205
  have hH_b202 : H ≤ b202 := by have := hP.le; have := hP.lt; omega
  replace hB2 := hB2.c0 hx204
  replace hB192 := hB192.c0 hx204
  replace hB180 := hB180.c0 hx204
  replace hP := hP.chg hx204 all0
  replace hOK := own_gchg hOK hx204 nm0
  replace hKT := hKT.chg hx204 (fun b hb hlt => nm0)
  replace hO187 := own_gchg hO187 hx204 nm0
  replace hT198 := hT198.chg hx204 (fun b hb _ => nm0)
  replace hle200 := nlt hle200 hx204.size
  replace hE := hE.t0 hx204
  clear eb205 lb206
  clear hS0
  have hS0 := hB192.same s_hB192 3
  refine ⟨.inl hS0, ?_⟩
  obtain ⟨g208, cap209, w207, he, hO210, hx211, hat212, hlt213⟩ := ef_append1 (P := Try.prog) (x := (.tmp 71)) (y := (.tmp 74)) (z := .agg zA) (sz := 4) (by_ := 72) hf rfl rfl Try.underlying24 (by kernel_rfl) rfl rfl hOK hB203 rfl on_hT198 rfl (by simp only [maxLen]; omega) (by omega) (hE.size) 24
  refine dl_e 5 (by kernel_rfl) rfl hf rfl rfl he fun a hf => ?_
  have ne_b2_g208 : b2 ≠ g208 := by have := hB2.lt; have := ne_b2_kg; omega
  have ne_bt_g208 : bt ≠ g208 := by have := hB192.lt; have := ne_bt_kg; omega
  have ne_b179_g208 : b179 ≠ g208 := by have := hB180.lt; have := (Ne.symm ne_kg_b179); omega
  have ne_b202_g208 : b202 ≠ g208 := by have := hB203.lt; have := (Ne.symm ne_kg_b202); omega
  have ne_p_g208 : p ≠ g208 := by have := hP.lt; have := ne_p_kg; omega
  have ne_g185_g208 : g185 ≠ g208 := by have := (own_glt hO187); have := (Ne.symm ne_kg_g185); omega
  have ta_hi200_g208 : hi200 ≤ g208 ∨ g208 < lo200 := by have := hle200; omega
  replace hKT : KidsAre (fun b => w.heap.size ≤ b ∧ b ≠ b2 ∧ b ≠ bt ∧ b ≠ lg ∧ b ≠ kg ∧ b ≠ g185 ∧ b ≠ g208) w201 _ _ := hKT.keepB (fun b hb hlt => by omega) (fun _ _ _ => rfl)
  have ge_g208 : w.heap.size ≤ g208 := own_gle hO210
  have hH_g208 : H ≤ g208 := by have := hP.le; have := hP.lt; omega
  replace hB2 := hB2.chg hx211 (nmc ne_b2_kg nm0)
  replace hB192 := hB192.chg hx211 (nmc ne_bt_kg nm0)
  replace hB180 := hB180.chg hx211 (nmc (Ne.symm ne_kg_b179) nm0)
  replace hB203 := hB203.chg hx211 (nmc (Ne.symm ne_kg_b202) nm0)
  replace hP := hP.chg hx211 (allc ⟨hH_kg, ne_p_kg⟩ all0)
  replace hKT := hKT.chg hx211 (fun b hb hlt => (nmc (by omega) nm0))
  replace hO187 := own_gchg hO187 hx211 (nmc (Ne.symm ne_kg_g185) nm0)
  replace hT198 := hT198.chg hx211 (fun b hb _ => (nmc (by omega) nm0))
  replace hle200 := nlt hle200 hx211.size
  replace hE := hE.trans hx211 (allc (.inr ge_kg) all0)
  clear hat212 hlt213
  clear hS0
  have hS0 := hB192.same s_hB192 3
  refine ⟨.inl hS0, ?_⟩
  refine dV 6 rfl rfl hsel (by kernel_rfl) hf rfl (.inl hS0) (fun x => ex_fa (k := 3) (r := 3) hf rfl (by kernel_rfl) rfl) fun a hf => ?_
  obtain ⟨w214, he, hB215, hx216⟩ := ef_store (P := Try.prog) (t := 24) (x := (.tmp 76)) (y := (.tmp 75)) hf rfl rfl (by kernel_rfl) rfl hB192 (Nat.le_of_ble_eq_true rfl) 0
  refine dl_s 7 (by kernel_rfl) rfl hf rfl rfl he fun a hf => ?_
  replace hB2 := hB2.chg hx216 (nmc ne_b2_bt nm0)
  replace hB180 := hB180.chg hx216 (nmc (Ne.symm ne_bt_b179) nm0)
  replace hB203 := hB203.chg hx216 (nmc (Ne.symm ne_bt_b202) nm0)
  replace hP := hP.chg hx216 (allc ⟨hH_bt, ne_p_bt⟩ all0)
  replace hKT := hKT.chg hx216 (fun b hb hlt => (nmc (by omega) nm0))
  replace hO187 := own_gchg hO187 hx216 (nmc (Ne.symm ne_bt_g185) nm0)
  replace hT198 := hT198.chg hx216 (fun b hb _ => (nmc (by omega) nm0))
  replace hle200 := nlt hle200 hx216.size
  replace hO210 := own_gchg hO210 hx216 (nmc (Ne.symm ne_bt_g208) nm0)
  replace hE := hE.trans hx216 (allc (.inr ge_bt) all0)
  clear hB192
  refine ⟨.inr (by kernel_rfl), ?_⟩
  refine dl_done (by kernel_rfl) ?_
  clear hS0 hsel
  have hR' := (commaF_step hcm (if_neg (fun h => hmost h.1))).symm.trans hR
  have e1 : ([t.lead, (pWord [40] (pTake s)).1, []] ++ cs).length + 1 = ([t.lead, (pWord [40] (pTake s)).1, []] ++ (cs ++ [(pNext s').lead])).length := by simp
  have e2 : ks.length + 1 = (ks ++ [((argF (exprT n)) (pTake s')).1]).length := by simp
  have e3 : List.map strV ([t.lead, (pWord [40] (pTake s)).1, []] ++ cs) ++ [strV (pNext s').lead] = List.map strV ([t.lead, (pWord [40] (pTake s)).1, []] ++ (cs ++ [(pNext s').lead])) := by simp
  have hBT2 : Blk w214 bt 26 [.int .i64 16, strV (t.text), .slice (some ⟨g185, 0, none⟩) (([t.lead, (pWord [40] (pTake s)).1, []] ++ cs).length + 1) cap186, .slice (some ⟨g208, 0, none⟩) (ks.length + 1) cap209] := hB215
  rw [e1, e2] at hBT2
  have hOL2 := hO187
  have hOK2 := hO210
  have hOL3 : w214.ownsRow w.heap.size 9 1 (.slice (some ⟨g185, 0, none⟩) (([t.lead, (pWord [40] (pTake s)).1, []] ++ cs).length + 1) cap186) (([t.lead, (pWord [40] (pTake s)).1, []] ++ cs).length + 1) (List.map strV ([t.lead, (pWord [40] (pTake s)).1, []] ++ cs) ++ [strV (pNext s').lead]) := by rw [hn']; exact hOL2
  rw [e1, e3] at hOL3
  rw [e2] at hOK2
  have hl3 : ((argF (exprT n)) (pTake s')).2.toks.length < s'.toks.length := by have := hl198; have := pFail_len 3 (pTake s'); omega
  subst eb2 ebt
  exact ⟨_, hl3, cs ++ [(pNext s').lead], ks ++ [((argF (exprT n)) (pTake s')).1], _, g185, _, g208, _, _, F', hf.pick ⟨rfl, rfl, rfl, trivial⟩, ⟨hP, hE, hB2, hBT2, hOL3, hOK2, KidsAre.snoc (hKT.keepB (fun b hb hlt => by omega) (fun _ _ _ => rfl)) (hT198.mono (fun b hb => by omega)), ge_b2, ge_bt, lt_p, ne_b2_bt, by omega, by omega, by omega, by omega, by omega⟩, rfl, by omega, hR', by omega, by rw [← e2]; omega, by simp; omega⟩
  have hL := hLs
  have hRe := (commaF_stop hcm).symm.trans hR
  refine wS fun K217 hK217 => wS fun K218 hK218 => wR <| sM hf rfl rfl fun a hf => st_c hf rfl rfl rfl (by kernel_rfl) (pNextL hP) ?_
  rintro _ w220 ⟨rfl, hP, hx219⟩
  refine ⟨_, rfl, fun a hf => ?_⟩
  replace hB2 := hB2.c0 hx219
  replace hBT := hBT.c0 hx219
  replace hOL := own_gchg hOL hx219 nm0
  replace hOK := own_gchg hOK hx219 nm0
  replace hKT := hKT.chg hx219 (fun b hb hlt => nm0)
  replace hE := hE.t0 hx219
  refine sV hf rfl (ex_fd (k := 2) hf rfl (by kernel_rfl) rfl) fun a hf => sV hf rfl (ex_eqS (c := false) hf rfl rfl (beqF hcm)) fun a hf => sN <| hK218 _ _ <| cF hf rfl <| wp_exit ?_
  simp only [Exit.then, Exit.inBlock, ↓reduceIte, Nat.reduceEqDiff]
  refine hK67 _ _ <| wS fun K221 hK221 => ?_
  have s_hBT := hBT
  refine dl_start (fun x => x.cell? ⟨bt, 2, none⟩ = w220.cell? ⟨bt, 2, none⟩) 6 6 rfl (by kernel_rfl) (by kernel_rfl) ?_
  intro w222 hx223 hsel
  replace hB2 := hB2.c0 hx223
  replace hBT := hBT.c0 hx223
  replace hP := hP.chg hx223 all0
  replace hOL := own_gchg hOL hx223 nm0
  replace hOK := own_gchg hOK hx223 nm0
  replace hKT := hKT.chg hx223 (fun b hb hlt => nm0)
  replace hE := hE.t0 hx223
  have hS0 := hBT.same s_hBT 2
  refine dV 0 rfl rfl hsel (by kernel_rfl) hf rfl (.inl hS0) (fun x => ex_fa (k := 2) (r := 2) hf rfl (by kernel_rfl) rfl) fun a hf => dL 1 rfl rfl hsel (by kernel_rfl) hf rfl hS0 (fun x hS => ex_load hf rfl (by kernel_rfl) (hS.trans ((s_hBT.cell 2).trans rfl))) fun a hf => dM 2 rfl rfl hsel (by kernel_rfl) hf rfl hS0 rfl fun a hf => dl_c 3 (by kernel_rfl) rfl hf rfl rfl rfl (by kernel_rfl) (pWordL (x := [41]) hP (by decide)) ?_
  rintro _ w225 ⟨rfl, hP, hx224⟩
  refine ⟨_, rfl, fun a hf => ?_⟩
  replace hB2 := hB2.chg hx224 (nmc (Ne.symm ne_p_b2) nm0)
  replace hBT := hBT.chg hx224 (nmc (Ne.symm ne_p_bt) nm0)
  replace hOL := own_gchg hOL hx224 (nmc (Ne.symm ne_p_lg) nm0)
  replace hOK := own_gchg hOK hx224 (nmc (Ne.symm ne_p_kg) nm0)
  replace hKT := hKT.chg hx224 (fun b hb hlt => (nmc (by omega) nm0))
  replace hE := hE.trans hx224 (allc (.inl (by simp)) all0)
  replace hL := nlt (pWord_len [41] _) hL
  clear hS0
  have hS0 := hBT.same s_hBT 2
  refine ⟨.inl hS0, ?_⟩
  refine dV 4 rfl rfl hsel (by kernel_rfl) hf rfl (.inl hS0) (fun x => ex_index (sz := 1) (k := 2) (r := 2) hf Try.underlying23 (by kernel_rfl) rfl rfl rfl (by first | decide | simp) rfl) fun a hf => ?_
  obtain ⟨w226, he, hO227, hx228⟩ := ef_storeO (P := Try.prog) (t := 9) (x := (.tmp 81)) (y := (.tmp 80)) hf rfl rfl (by kernel_rfl) rfl hOL (by simp) 0
  refine dl_s 5 (by kernel_rfl) rfl hf rfl rfl he fun a hf => ?_
  replace hB2 := hB2.chg hx228 (nmc ne_b2_lg nm0)
  replace hBT := hBT.chg hx228 (nmc ne_bt_lg nm0)
  replace hP := hP.chg hx228 (allc ⟨hH_lg, ne_p_lg⟩ all0)
  replace hOK := own_gchg hOK hx228 (nmc (Ne.symm ne_lg_kg) nm0)
  replace hKT := hKT.chg hx228 (fun b hb hlt => (nmc (by omega) nm0))
  replace hE := hE.trans hx228 (allc (.inr ge_lg) all0)
  clear hOL
  clear hS0
  have hS0 := hBT.same s_hBT 2
  refine ⟨.inl hS0, ?_⟩
  refine dl_done (by kernel_rfl) ?_
  clear hS0 hsel
  refine hK221 _ _ <| wS fun K229 hK229 => wR <| sV hf rfl (ex_loadBN (m := 4) hf rfl (by kernel_rfl) hBT rfl) fun a hf => ?_
  obtain ⟨w230, he, hB231, hx232⟩ := eN (.tmp 2) (.tmp 82) hf rfl rfl rfl rfl hB2 rfl 0
  refine st_s hf rfl rfl he fun a hf => ?_
  replace hBT := hBT.chg hx232 (nmc (Ne.symm ne_b2_bt) nm0)
  replace hP := hP.chg hx232 (allc ⟨hH_b2, ne_p_b2⟩ all0)
  replace hO227 := own_gchg hO227 hx232 (nmc (Ne.symm ne_b2_lg) nm0)
  replace hOK := own_gchg hOK hx232 (nmc (Ne.symm ne_b2_kg) nm0)
  replace hKT := hKT.chg hx232 (fun b hb hlt => (nmc (by omega) nm0))
  replace hE := hE.trans hx232 (allc (.inr ge_b2) all0)
  clear hB2
  refine sN <| hK229 _ _ <| wp_ret ?_
  have hq := hq0
  rw [hRd, ← hRe] at hq
  rw [hq]
  try simp only [Exit.then, Exit.inBlock]
  exact ret_of (rs := [.cell 2 26]) hf rfl ⟨_, _, _, _, 4, rfl, rfl, by kernel_rfl, hB231, rfl, rfl⟩ ⟨_, _, _, _, rfl, tree_mk (own_cap hO227).1 (own_cap hO227).2 (own_cap hOK).1 (own_cap hOK).2 (RowIn.of_own hO227) (hKT.mono (fun b hb => hb.1)) (RowIn.of_own hOK), hP, hE, (nlt hL (pTake_len s))⟩
end Go.Proofs.Ythpjpngfghcmcaa
