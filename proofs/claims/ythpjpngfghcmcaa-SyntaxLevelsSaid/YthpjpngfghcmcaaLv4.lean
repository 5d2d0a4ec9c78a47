/- Contracts of the functions that the law reaches, part 4. -/
import Derived.Test.YthpjpngfghcmcaaLv3
set_option linter.unusedVariables false
set_option linter.unusedSimpArgs false
namespace Go.Proofs.Ythpjpngfghcmcaa
open Go.RowKit Lx Sx
set_option maxRecDepth 100000
set_option maxHeartbeats 4000000
section
variable {E : PS → Tree × PS} {s : PS}
theorem unitF_use (h : (pNext s).kind = 1 ∨ (pNext s).kind = 3) : unitF E s = useF E s := by unfold unitF; simp only [if_pos h]
variable (h : ¬ ((pNext s).kind = 1 ∨ (pNext s).kind = 3))
include h
theorem unitF_true (h1 : (pNext s).text = wTrue) : unitF E s = (.node 13 [] [(pNext s).lead] [], pTake s) := by unfold unitF; simp only [if_neg h, if_pos h1]
variable (h1 : ¬ (pNext s).text = wTrue)
include h1
theorem unitF_false (h2 : (pNext s).text = wFalse) : unitF E s = (.node 14 [] [(pNext s).lead] [], pTake s) := by unfold unitF; simp only [if_neg h, if_neg h1, if_pos h2]
variable (h2 : ¬ (pNext s).text = wFalse)
include h2
theorem unitF_hole (h3 : (pNext s).text = [63]) : unitF E s = (.node 15 [] [(pNext s).lead] [], pTake s) := by unfold unitF; simp only [if_neg h, if_neg h1, if_neg h2, if_pos h3]
variable (h3 : ¬ (pNext s).text = [63])
include h3
theorem unitF_list (h4 : (pNext s).text = [91]) : unitF E s = listF E s := by unfold unitF; simp only [if_neg h, if_neg h1, if_neg h2, if_neg h3, if_pos h4]
variable (h4 : ¬ (pNext s).text = [91])
include h4
theorem unitF_paren (h5 : (pNext s).text = [40]) : unitF E s = parenF E s := by unfold unitF; simp only [if_neg h, if_neg h1, if_neg h2, if_neg h3, if_neg h4, if_pos h5]
variable (h5 : ¬ (pNext s).text = [40])
include h5
theorem unitF_num (hk : ((pNext s).kind == 5) = true) : unitF E s = (.node 10 (pNext s).text [(pNext s).lead] [], pTake s) := by unfold unitF; simp only [if_neg h, if_neg h1, if_neg h2, if_neg h3, if_neg h4, if_neg h5]; rw [if_pos (by simpa using hk)]
theorem unitF_str (hj : ((pNext s).kind == 5) = false) (hk : ((pNext s).kind == 6) = true) : unitF E s = (.node 11 (pNext s).text [(pNext s).lead] [], pTake s) := by unfold unitF; simp only [if_neg h, if_neg h1, if_neg h2, if_neg h3, if_neg h4, if_neg h5]; rw [if_neg (by simpa using hj), if_pos (by simpa using hk)]
theorem unitF_none (hj : ((pNext s).kind == 5) = false) (hk : ((pNext s).kind == 6) = false) : unitF E s = (zeroTree, pFail 2 s) := by unfold unitF; simp only [if_neg h, if_neg h1, if_neg h2, if_neg h3, if_neg h4, if_neg h5]; rw [if_neg (by simpa using hj), if_neg (by simpa using hk)]
end
theorem useL {H p n : Nat} {s : PS} {w : World} {t : Tok} {r : List Tok} (ih : ExprOk n) (hP : PAt H w p s) (hn : s.toks.length < n + 1) (hs : s.toks = t :: r) (hnx : pNext s = t) : Calls Try.prog 117 [.pointer (some ⟨p, 0, none⟩)].toArray w (TreePost w H p s (useF (exprT n) s)) := by
  by_cases hk : t.kind = 1 ∧ ¬ (pNext (pTake s)).text = [40]
  · exact useVarL ih hP hn hs hnx hk.1 hk.2
  · have hop : t.kind = 1 → (pNext (pTake s)).text = [40] := fun h => Classical.byContradiction fun h2 => hk ⟨h, h2⟩
    by_cases hcl : (pNext (pWord [40] (pTake s)).2).text = [41]
    · exact useEmptyL ih hP hn hs hnx hop hcl
    · exact useRowL ih hP hn hs hnx hop hcl
theorem unit_use1 {H p n : Nat} {s : PS} {w : World} (ih : ExprOk n) (hP : PAt H w p s) (hn : s.toks.length < n + 1) (hk : (pNext s).kind = 1) : Calls Try.prog 104 [.pointer (some ⟨p, 0, none⟩)].toArray w (TreePost w H p s (unitF (exprT n) s)) := by
  obtain ⟨t, r, hs, hnx⟩ := pNext_cons (s := s) (.inr (by omega))
  have hq : unitF (exprT n) s = useF (exprT n) s := unitF_use (by omega)
  refine enter_fr 69 Try.func104 rfl rfl rfl ?_
  intro a hf
  have hE := Chg.refl [p] w
  have hL := Nat.le_refl s.toks.length
  refine wS fun K1 hK1 => wR ?_
  obtain ⟨w2, b3, he, hB4, hx5, eb6, lb7⟩ := eT a w 0
  refine sV hf rfl he fun a hf => ?_
  have ne_p_b3 : p ≠ b3 := ne_new hP.lt eb6
  have ge_b3 := ge_new hE eb6
  have hH_b3 : H ≤ b3 := by have := hP.le; have := hP.lt; omega
  replace hP := hP.chg hx5 all0
  replace hE := hE.t0 hx5
  clear eb6 lb7
  refine sN <| hK1 _ _ <| wS fun K8 hK8 => wR <| sM hf rfl rfl fun a hf => st_c hf rfl rfl rfl (by kernel_rfl) (pNextL hP) ?_
  rintro _ w10 ⟨rfl, hP, hx9⟩
  refine ⟨_, rfl, fun a hf => ?_⟩
  replace hB4 := hB4.c0 hx9
  replace hE := hE.t0 hx9
  obtain ⟨w11, b12, he, hB13, hx14, eb15, lb16⟩ := ef_alloc (P := Try.prog) (t := 49) [.int .i64 0, .string ⟨([] : List UInt8).toArray⟩, .string ⟨([] : List UInt8).toArray⟩] (by kernel_rfl) a w10 0
  refine sV hf rfl he fun a hf => ?_
  have ne_b3_b12 : b3 ≠ b12 := ne_new hB4.lt eb15
  have ne_p_b12 : p ≠ b12 := ne_new hP.lt eb15
  have ge_b12 := ge_new hE eb15
  have hH_b12 : H ≤ b12 := by have := hP.le; have := hP.lt; omega
  replace hB4 := hB4.c0 hx14
  replace hP := hP.chg hx14 all0
  replace hE := hE.t0 hx14
  clear eb15 lb16
  obtain ⟨w17, he, hB18, hx19⟩ := ef_storeN (P := Try.prog) (t := 49) (x := (.tmp 3)) (y := (.tmp 8)) (m := 3) hf rfl rfl (by kernel_rfl) rfl rfl hB13 rfl 0
  refine st_s hf rfl rfl he fun a hf => ?_
  replace hB4 := hB4.chg hx19 (nmc ne_b3_b12 nm0)
  replace hP := hP.chg hx19 (allc ⟨hH_b12, ne_p_b12⟩ all0)
  replace hE := hE.trans hx19 (allc (.inr ge_b12) all0)
  clear hB13
  refine sN <| hK8 _ _ <| wS fun K20 hK20 => ?_
  have s_hB18 := hB18
  refine dl_start (fun x => x.cell? ⟨b12, 2, none⟩ = w17.cell? ⟨b12, 2, none⟩) 4 4 rfl (by kernel_rfl) (by kernel_rfl) ?_
  intro w21 hx22 hsel
  replace hB4 := hB4.c0 hx22
  replace hB18 := hB18.c0 hx22
  replace hP := hP.chg hx22 all0
  replace hE := hE.t0 hx22
  have hS0 := hB18.same s_hB18 2
  refine dV 0 rfl rfl hsel (by kernel_rfl) hf rfl (.inl hS0) (fun x => ex_fa (k := 2) (r := 2) hf rfl (by kernel_rfl) rfl) fun a hf => dL 1 rfl rfl hsel (by kernel_rfl) hf rfl hS0 (fun x hS => ex_load hf rfl (by kernel_rfl) (hS.trans ((s_hB18.cell 2).trans rfl))) fun a hf => dV 2 rfl rfl hsel (by kernel_rfl) hf rfl (.inl hS0) (fun x => ex_assign hf rfl) fun a hf => dV 3 rfl rfl hsel (by kernel_rfl) hf rfl (.inl hS0) (fun x => ex_assign hf rfl) fun a hf => dl_done (by kernel_rfl) ?_
  clear hS0 hsel
  refine hK20 _ _ <| wS fun K23 hK23 => wS fun K24 hK24 => wR <| sV hf rfl (ex_fa (k := 0) (r := 0) hf rfl (by kernel_rfl) rfl) fun a hf => sV hf rfl (ex_loadB hf rfl (by kernel_rfl) hB18 rfl) fun a hf => sN <| hK24 _ _ <| wp_block <| wS fun K25 hK25 => wR <| sV hf rfl (ex_eqI (c := false) hf rfl rfl (iEqF (by omega))) fun a hf => sA hf rfl rfl fun a hf => sN <| hK25 _ _ <| cF hf rfl <| wS fun K26 hK26 => wR <| sV hf rfl (ex_eqI (c := false) hf rfl rfl (iEqF (by omega))) fun a hf => sA hf rfl rfl fun a hf => sN <| hK26 _ _ <| cF hf rfl <| wS fun K27 hK27 => wS fun K28 hK28 => wR <| sV hf rfl (ex_eqI (c := true) hf rfl rfl (iEqT hk)) fun a hf => sA hf rfl rfl fun a hf => sN <| hK28 _ _ <| cT hf rfl <| wp_skip <| hK27 _ _ <| cT hf rfl <| wS fun K29 hK29 => wR <| sM hf rfl rfl fun a hf => ?_
  have plt30 := hP.lt
  refine st_c hf rfl rfl rfl (by kernel_rfl) (useL ih hP hn hs hnx) ?_
  rintro _ w31 ⟨c30_0, c30_1, c30_2, c30_3, rfl, hT30, hP, hx30, hl30⟩
  refine ⟨_, rfl, fun a hf => ?_⟩
  obtain ⟨lo32, elo32⟩ : ∃ x, x = w21.heap.size := ⟨_, rfl⟩
  obtain ⟨hi32, ehi32⟩ : ∃ x, x = w31.heap.size := ⟨_, rfl⟩
  replace hT30 := hT30.within elo32 ehi32
  have hle32 : hi32 ≤ w31.heap.size := Nat.le_of_eq ehi32
  have ge_lo32 : w.heap.size ≤ lo32 := elo32 ▸ hE.size
  have tb_lo32_b3 : b3 < lo32 := elo32 ▸ hB4.lt
  have tb_lo32_b12 : b12 < lo32 := elo32 ▸ hB18.lt
  have tb_lo32_p : p < lo32 := elo32 ▸ plt30
  clear elo32 ehi32
  clear plt30
  have on_hT30 := hT30.one
  replace hB4 := hB4.chg hx30 (nmc (Ne.symm ne_p_b3) nm0)
  replace hB18 := hB18.chg hx30 (nmc (Ne.symm ne_p_b12) nm0)
  replace hE := hE.trans hx30 (allc (.inl (by simp)) all0)
  replace hL := nlt hl30 hL
  obtain ⟨w33, he, hB34, hx35⟩ := eN (.tmp 2) (.tmp 21) hf rfl rfl rfl on_hT30 hB4 rfl 0
  refine st_s hf rfl rfl he fun a hf => ?_
  replace hB18 := hB18.chg hx35 (nmc (Ne.symm ne_b3_b12) nm0)
  replace hP := hP.chg hx35 (allc ⟨hH_b3, ne_p_b3⟩ all0)
  replace hT30 := hT30.chg hx35 (fun b hb _ => (nmc (by omega) nm0))
  replace hle32 := nlt hle32 hx35.size
  replace hE := hE.trans hx35 (allc (.inr ge_b3) all0)
  clear hB4
  refine sN <| hK29 _ _ <| wp_ret ?_
  rw [hq]
  try simp only [Exit.then, Exit.inBlock]
  exact ret_of (rs := [.cell 2 26]) hf rfl ⟨_, _, _, _, 4, rfl, rfl, by kernel_rfl, hB34, rfl, rfl⟩ ⟨_, _, _, _, rfl, (hT30.mono (fun b hb => by omega)), hP, hE, hL⟩
theorem unit_use3 {H p n : Nat} {s : PS} {w : World} (ih : ExprOk n) (hP : PAt H w p s) (hn : s.toks.length < n + 1) (hk : (pNext s).kind = 3) : Calls Try.prog 104 [.pointer (some ⟨p, 0, none⟩)].toArray w (TreePost w H p s (unitF (exprT n) s)) := by
  obtain ⟨t, r, hs, hnx⟩ := pNext_cons (s := s) (.inr (by omega))
  have hq : unitF (exprT n) s = useF (exprT n) s := unitF_use (by omega)
  refine enter_fr 69 Try.func104 rfl rfl rfl ?_
  intro a hf
  have hE := Chg.refl [p] w
  have hL := Nat.le_refl s.toks.length
  refine wS fun K1 hK1 => wR ?_
  obtain ⟨w2, b3, he, hB4, hx5, eb6, lb7⟩ := eT a w 0
  refine sV hf rfl he fun a hf => ?_
  have ne_p_b3 : p ≠ b3 := ne_new hP.lt eb6
  have ge_b3 := ge_new hE eb6
  have hH_b3 : H ≤ b3 := by have := hP.le; have := hP.lt; omega
  replace hP := hP.chg hx5 all0
  replace hE := hE.t0 hx5
  clear eb6 lb7
  refine sN <| hK1 _ _ <| wS fun K8 hK8 => wR <| sM hf rfl rfl fun a hf => st_c hf rfl rfl rfl (by kernel_rfl) (pNextL hP) ?_
  rintro _ w10 ⟨rfl, hP, hx9⟩
  refine ⟨_, rfl, fun a hf => ?_⟩
  replace hB4 := hB4.c0 hx9
  replace hE := hE.t0 hx9
  obtain ⟨w11, b12, he, hB13, hx14, eb15, lb16⟩ := ef_alloc (P := Try.prog) (t := 49) [.int .i64 0, .string ⟨([] : List UInt8).toArray⟩, .string ⟨([] : List UInt8).toArray⟩] (by kernel_rfl) a w10 0
  refine sV hf rfl he fun a hf => ?_
  have ne_b3_b12 : b3 ≠ b12 := ne_new hB4.lt eb15
  have ne_p_b12 : p ≠ b12 := ne_new hP.lt eb15
  have ge_b12 := ge_new hE eb15
  have hH_b12 : H ≤ b12 := by have := hP.le; have := hP.lt; omega
  replace hB4 := hB4.c0 hx14
  replace hP := hP.chg hx14 all0
  replace hE := hE.t0 hx14
  clear eb15 lb16
  obtain ⟨w17, he, hB18, hx19⟩ := ef_storeN (P := Try.prog) (t := 49) (x := (.tmp 3)) (y := (.tmp 8)) (m := 3) hf rfl rfl (by kernel_rfl) rfl rfl hB13 rfl 0
  refine st_s hf rfl rfl he fun a hf => ?_
  replace hB4 := hB4.chg hx19 (nmc ne_b3_b12 nm0)
  replace hP := hP.chg hx19 (allc ⟨hH_b12, ne_p_b12⟩ all0)
  replace hE := hE.trans hx19 (allc (.inr ge_b12) all0)
  clear hB13
  refine sN <| hK8 _ _ <| wS fun K20 hK20 => ?_
  have s_hB18 := hB18
  refine dl_start (fun x => x.cell? ⟨b12, 2, none⟩ = w17.cell? ⟨b12, 2, none⟩) 4 4 rfl (by kernel_rfl) (by kernel_rfl) ?_
  intro w21 hx22 hsel
  replace hB4 := hB4.c0 hx22
  replace hB18 := hB18.c0 hx22
  replace hP := hP.chg hx22 all0
  replace hE := hE.t0 hx22
  have hS0 := hB18.same s_hB18 2
  refine dV 0 rfl rfl hsel (by kernel_rfl) hf rfl (.inl hS0) (fun x => ex_fa (k := 2) (r := 2) hf rfl (by kernel_rfl) rfl) fun a hf => dL 1 rfl rfl hsel (by kernel_rfl) hf rfl hS0 (fun x hS => ex_load hf rfl (by kernel_rfl) (hS.trans ((s_hB18.cell 2).trans rfl))) fun a hf => dV 2 rfl rfl hsel (by kernel_rfl) hf rfl (.inl hS0) (fun x => ex_assign hf rfl) fun a hf => dV 3 rfl rfl hsel (by kernel_rfl) hf rfl (.inl hS0) (fun x => ex_assign hf rfl) fun a hf => dl_done (by kernel_rfl) ?_
  clear hS0 hsel
  refine hK20 _ _ <| wS fun K23 hK23 => wS fun K24 hK24 => wR <| sV hf rfl (ex_fa (k := 0) (r := 0) hf rfl (by kernel_rfl) rfl) fun a hf => sV hf rfl (ex_loadB hf rfl (by kernel_rfl) hB18 rfl) fun a hf => sN <| hK24 _ _ <| wp_block <| wS fun K25 hK25 => wR <| sV hf rfl (ex_eqI (c := false) hf rfl rfl (iEqF (by omega))) fun a hf => sA hf rfl rfl fun a hf => sN <| hK25 _ _ <| cF hf rfl <| wS fun K26 hK26 => wR <| sV hf rfl (ex_eqI (c := false) hf rfl rfl (iEqF (by omega))) fun a hf => sA hf rfl rfl fun a hf => sN <| hK26 _ _ <| cF hf rfl <| wS fun K27 hK27 => wS fun K28 hK28 => wR <| sV hf rfl (ex_eqI (c := false) hf rfl rfl (iEqF (by omega))) fun a hf => sA hf rfl rfl fun a hf => sN <| hK28 _ _ <| cF hf rfl <| wR <| sV hf rfl (ex_eqI (c := true) hf rfl rfl (iEqT hk)) fun a hf => sA hf rfl rfl fun a hf => sN <| hK27 _ _ <| cT hf rfl <| wS fun K29 hK29 => wR <| sM hf rfl rfl fun a hf => ?_
  have plt30 := hP.lt
  refine st_c hf rfl rfl rfl (by kernel_rfl) (useL ih hP hn hs hnx) ?_
  rintro _ w31 ⟨c30_0, c30_1, c30_2, c30_3, rfl, hT30, hP, hx30, hl30⟩
  refine ⟨_, rfl, fun a hf => ?_⟩
  obtain ⟨lo32, elo32⟩ : ∃ x, x = w21.heap.size := ⟨_, rfl⟩
  obtain ⟨hi32, ehi32⟩ : ∃ x, x = w31.heap.size := ⟨_, rfl⟩
  replace hT30 := hT30.within elo32 ehi32
  have hle32 : hi32 ≤ w31.heap.size := Nat.le_of_eq ehi32
  have ge_lo32 : w.heap.size ≤ lo32 := elo32 ▸ hE.size
  have tb_lo32_b3 : b3 < lo32 := elo32 ▸ hB4.lt
  have tb_lo32_b12 : b12 < lo32 := elo32 ▸ hB18.lt
  have tb_lo32_p : p < lo32 := elo32 ▸ plt30
  clear elo32 ehi32
  clear plt30
  have on_hT30 := hT30.one
  replace hB4 := hB4.chg hx30 (nmc (Ne.symm ne_p_b3) nm0)
  replace hB18 := hB18.chg hx30 (nmc (Ne.symm ne_p_b12) nm0)
  replace hE := hE.trans hx30 (allc (.inl (by simp)) all0)
  replace hL := nlt hl30 hL
  obtain ⟨w33, he, hB34, hx35⟩ := eN (.tmp 2) (.tmp 21) hf rfl rfl rfl on_hT30 hB4 rfl 0
  refine st_s hf rfl rfl he fun a hf => ?_
  replace hB18 := hB18.chg hx35 (nmc (Ne.symm ne_b3_b12) nm0)
  replace hP := hP.chg hx35 (allc ⟨hH_b3, ne_p_b3⟩ all0)
  replace hT30 := hT30.chg hx35 (fun b hb _ => (nmc (by omega) nm0))
  replace hle32 := nlt hle32 hx35.size
  replace hE := hE.trans hx35 (allc (.inr ge_b3) all0)
  clear hB4
  refine sN <| hK29 _ _ <| wp_ret ?_
  rw [hq]
  try simp only [Exit.then, Exit.inBlock]
  exact ret_of (rs := [.cell 2 26]) hf rfl ⟨_, _, _, _, 4, rfl, rfl, by kernel_rfl, hB34, rfl, rfl⟩ ⟨_, _, _, _, rfl, (hT30.mono (fun b hb => by omega)), hP, hE, hL⟩
theorem unit_true {H p n : Nat} {s : PS} {w : World} (ih : ExprOk n) (hP : PAt H w p s) (hn : s.toks.length < n + 1) (hk : ¬ ((pNext s).kind = 1 ∨ (pNext s).kind = 3)) (h1 : (pNext s).text = wTrue) : Calls Try.prog 104 [.pointer (some ⟨p, 0, none⟩)].toArray w (TreePost w H p s (unitF (exprT n) s)) := by
  obtain ⟨t, r, hs, hnx⟩ := pNext_cons (s := s) (.inl (by rw [h1]; decide))
  have htl := pTake_lt hs
  have hq : unitF (exprT n) s = _ := unitF_true hk h1
  rw [hnx] at hq
  refine enter_fr 69 Try.func104 rfl rfl rfl ?_
  intro a hf
  have hE := Chg.refl [p] w
  have hL := Nat.le_refl s.toks.length
  refine wS fun K1 hK1 => wR ?_
  obtain ⟨w2, b3, he, hB4, hx5, eb6, lb7⟩ := eT a w 0
  refine sV hf rfl he fun a hf => ?_
  have ne_p_b3 : p ≠ b3 := ne_new hP.lt eb6
  have ge_b3 := ge_new hE eb6
  have hH_b3 : H ≤ b3 := by have := hP.le; have := hP.lt; omega
  replace hP := hP.chg hx5 all0
  replace hE := hE.t0 hx5
  clear eb6 lb7
  refine sN <| hK1 _ _ <| wS fun K8 hK8 => wR <| sM hf rfl rfl fun a hf => st_c hf rfl rfl rfl (by kernel_rfl) (pNextL hP) ?_
  rintro _ w10 ⟨rfl, hP, hx9⟩
  refine ⟨_, rfl, fun a hf => ?_⟩
  replace hB4 := hB4.c0 hx9
  replace hE := hE.t0 hx9
  obtain ⟨w11, b12, he, hB13, hx14, eb15, lb16⟩ := ef_alloc (P := Try.prog) (t := 49) [.int .i64 0, .string ⟨([] : List UInt8).toArray⟩, .string ⟨([] : List UInt8).toArray⟩] (by kernel_rfl) a w10 0
  refine sV hf rfl he fun a hf => ?_
  have ne_b3_b12 : b3 ≠ b12 := ne_new hB4.lt eb15
  have ne_p_b12 : p ≠ b12 := ne_new hP.lt eb15
  have ge_b12 := ge_new hE eb15
  have hH_b12 : H ≤ b12 := by have := hP.le; have := hP.lt; omega
  replace hB4 := hB4.c0 hx14
  replace hP := hP.chg hx14 all0
  replace hE := hE.t0 hx14
  clear eb15 lb16
  obtain ⟨w17, he, hB18, hx19⟩ := ef_storeN (P := Try.prog) (t := 49) (x := (.tmp 3)) (y := (.tmp 8)) (m := 3) hf rfl rfl (by kernel_rfl) rfl rfl hB13 rfl 0
  refine st_s hf rfl rfl he fun a hf => ?_
  replace hB4 := hB4.chg hx19 (nmc ne_b3_b12 nm0)
  replace hP := hP.chg hx19 (allc ⟨hH_b12, ne_p_b12⟩ all0)
  replace hE := hE.trans hx19 (allc (.inr ge_b12) all0)
  clear hB13
  refine sN <| hK8 _ _ <| wS fun K20 hK20 => ?_
  have s_hB18 := hB18
  refine dl_start (fun x => x.cell? ⟨b12, 2, none⟩ = w17.cell? ⟨b12, 2, none⟩) 4 4 rfl (by kernel_rfl) (by kernel_rfl) ?_
  intro w21 hx22 hsel
  replace hB4 := hB4.c0 hx22
  replace hB18 := hB18.c0 hx22
  replace hP := hP.chg hx22 all0
  replace hE := hE.t0 hx22
  have hS0 := hB18.same s_hB18 2
  refine dV 0 rfl rfl hsel (by kernel_rfl) hf rfl (.inl hS0) (fun x => ex_fa (k := 2) (r := 2) hf rfl (by kernel_rfl) rfl) fun a hf => dL 1 rfl rfl hsel (by kernel_rfl) hf rfl hS0 (fun x hS => ex_load hf rfl (by kernel_rfl) (hS.trans ((s_hB18.cell 2).trans rfl))) fun a hf => dV 2 rfl rfl hsel (by kernel_rfl) hf rfl (.inl hS0) (fun x => ex_assign hf rfl) fun a hf => dV 3 rfl rfl hsel (by kernel_rfl) hf rfl (.inl hS0) (fun x => ex_assign hf rfl) fun a hf => dl_done (by kernel_rfl) ?_
  clear hS0 hsel
  refine hK20 _ _ <| wS fun K23 hK23 => wS fun K24 hK24 => wR <| sV hf rfl (ex_fa (k := 0) (r := 0) hf rfl (by kernel_rfl) rfl) fun a hf => sV hf rfl (ex_loadB hf rfl (by kernel_rfl) hB18 rfl) fun a hf => sN <| hK24 _ _ <| wp_block <| wS fun K25 hK25 => wR <| st_b hf rfl rfl (fun c hc => ex_eqI hf rfl rfl hc) ?_ ?_
  clear hf a; intro hk5 a hf
  refine sA hf rfl rfl fun a hf => sN <| hK25 _ _ <| cT hf rfl <| wR <| sA hf rfl rfl fun a hf => sN <| hK23 _ _ <| wS fun K26 hK26 => wS fun K27 hK27 => wR <| sV hf rfl (ex_fa (k := 2) (r := 2) hf rfl (by kernel_rfl) rfl) fun a hf => sV hf rfl (ex_loadB hf rfl (by kernel_rfl) hB18 rfl) fun a hf => sN <| hK27 _ _ <| wp_block <| wS fun K28 hK28 => wR <| sV hf rfl (ex_eqS (c := true) hf rfl rfl (beqT h1)) fun a hf => sA hf rfl rfl fun a hf => sN <| hK28 _ _ <| cT hf rfl <| wR <| sA hf rfl rfl fun a hf => sA hf rfl rfl fun a hf => sN <| hK26 _ _ <| wS fun K29 hK29 => wS fun K30 hK30 => wR <| sM hf rfl rfl fun a hf => sV hf rfl (ex_eqI (c := false) hf rfl rfl (by decide)) fun a hf => sN <| hK30 _ _ <| cF hf rfl <| wp_skip <| hK29 _ _ <| wS fun K31 hK31 => wR <| sM hf rfl rfl fun a hf => sM hf rfl rfl fun a hf => sM hf rfl rfl fun a hf => st_c hf rfl rfl rfl (by kernel_rfl) (pTakeL hP hs) ?_
  rintro _ w33 ⟨rfl, hP, hx32⟩
  refine ⟨_, rfl, fun a hf => ?_⟩
  replace hB4 := hB4.chg hx32 (nmc (Ne.symm ne_p_b3) nm0)
  replace hB18 := hB18.chg hx32 (nmc (Ne.symm ne_p_b12) nm0)
  replace hE := hE.trans hx32 (allc (.inl (by simp)) all0)
  replace hL := nlt (Nat.le_of_lt (pTake_lt hs)) hL
  refine sV hf rfl (ex_fd (k := 1) hf rfl (by kernel_rfl) rfl) fun a hf => ?_
  obtain ⟨w34, b35, he, hB36, hx37, eb38, lb39⟩ := ef_bslice (P := Try.prog) (ps := [(0, (.tmp 66))]) (m := 1) (sz := 1) (z := [.string ⟨([] : List UInt8).toArray⟩]) hf rfl Try.underlying23 (by kernel_rfl) (by kernel_rfl) rfl rfl (by kernel_rfl) rfl w33 23
  refine sV hf rfl he fun a hf => ?_
  have ne_b3_b35 : b3 ≠ b35 := ne_new hB4.lt eb38
  have ne_b12_b35 : b12 ≠ b35 := ne_new hB18.lt eb38
  have ne_p_b35 : p ≠ b35 := ne_new hP.lt eb38
  have ge_b35 := ge_new hE eb38
  have hH_b35 : H ≤ b35 := by have := hP.le; have := hP.lt; omega
  replace hB4 := hB4.c0 hx37
  replace hB18 := hB18.c0 hx37
  replace hP := hP.chg hx37 all0
  replace hE := hE.t0 hx37
  clear eb38 lb39
  refine sV hf rfl (ex_bd (ps := [(0, (.tmp 62)), (1, (.tmp 63)), (2, (.tmp 67))]) (z := zT) (os := [0, 1, 2]) hf rfl (by kernel_rfl) (by kernel_rfl) (by kernel_rfl) rfl rfl) fun a hf => ?_
  obtain ⟨w40, he, hB41, hx42⟩ := eN (.tmp 2) (.tmp 68) hf rfl rfl rfl rfl hB4 rfl 0
  refine st_s hf rfl rfl he fun a hf => ?_
  replace hB18 := hB18.chg hx42 (nmc (Ne.symm ne_b3_b12) nm0)
  replace hB36 := hB36.chg hx42 (nmc (Ne.symm ne_b3_b35) nm0)
  replace hP := hP.chg hx42 (allc ⟨hH_b3, ne_p_b3⟩ all0)
  replace hE := hE.trans hx42 (allc (.inr ge_b3) all0)
  clear hB4
  refine sN <| hK31 _ _ <| wp_ret ?_
  rw [hq]
  try simp only [Exit.then, Exit.inBlock]
  exact ret_of (rs := [.cell 2 26]) hf rfl ⟨_, _, _, _, 4, rfl, rfl, by kernel_rfl, hB41, rfl, rfl⟩ ⟨_, _, _, _, rfl, tree_mk (Nat.le_refl _) (maxLen_ge rfl) (Nat.le_refl _) (maxLen_ge rfl) (RowIn.of_blk hB36 ge_b35 rfl) kids_none RowIn.none_, hP, hE, hL⟩
  clear hf a; intro hk5 a hf
  refine sA hf rfl rfl fun a hf => sN <| hK25 _ _ <| cF hf rfl <| wS fun K43 hK43 => wR <| st_b hf rfl rfl (fun c hc => ex_eqI hf rfl rfl hc) ?_ ?_
  clear hf a; intro hk6 a hf
  refine sA hf rfl rfl fun a hf => sN <| hK43 _ _ <| cT hf rfl <| wR <| sA hf rfl rfl fun a hf => sN <| hK23 _ _ <| wS fun K44 hK44 => wS fun K45 hK45 => wR <| sV hf rfl (ex_fa (k := 2) (r := 2) hf rfl (by kernel_rfl) rfl) fun a hf => sV hf rfl (ex_loadB hf rfl (by kernel_rfl) hB18 rfl) fun a hf => sN <| hK45 _ _ <| wp_block <| wS fun K46 hK46 => wR <| sV hf rfl (ex_eqS (c := true) hf rfl rfl (beqT h1)) fun a hf => sA hf rfl rfl fun a hf => sN <| hK46 _ _ <| cT hf rfl <| wR <| sA hf rfl rfl fun a hf => sA hf rfl rfl fun a hf => sN <| hK44 _ _ <| wS fun K47 hK47 => wS fun K48 hK48 => wR <| sM hf rfl rfl fun a hf => sV hf rfl (ex_eqI (c := false) hf rfl rfl (by decide)) fun a hf => sN <| hK48 _ _ <| cF hf rfl <| wp_skip <| hK47 _ _ <| wS fun K49 hK49 => wR <| sM hf rfl rfl fun a hf => sM hf rfl rfl fun a hf => sM hf rfl rfl fun a hf => st_c hf rfl rfl rfl (by kernel_rfl) (pTakeL hP hs) ?_
  rintro _ w51 ⟨rfl, hP, hx50⟩
  refine ⟨_, rfl, fun a hf => ?_⟩
  replace hB4 := hB4.chg hx50 (nmc (Ne.symm ne_p_b3) nm0)
  replace hB18 := hB18.chg hx50 (nmc (Ne.symm ne_p_b12) nm0)
  replace hE := hE.trans hx50 (allc (.inl (by simp)) all0)
  replace hL := nlt (Nat.le_of_lt (pTake_lt hs)) hL
  refine sV hf rfl (ex_fd (k := 1) hf rfl (by kernel_rfl) rfl) fun a hf => ?_
  obtain ⟨w52, b53, he, hB54, hx55, eb56, lb57⟩ := ef_bslice (P := Try.prog) (ps := [(0, (.tmp 66))]) (m := 1) (sz := 1) (z := [.string ⟨([] : List UInt8).toArray⟩]) hf rfl Try.underlying23 (by kernel_rfl) (by kernel_rfl) rfl rfl (by kernel_rfl) rfl w51 23
  refine sV hf rfl he fun a hf => ?_
  have ne_b3_b53 : b3 ≠ b53 := ne_new hB4.lt eb56
  have ne_b12_b53 : b12 ≠ b53 := ne_new hB18.lt eb56
  have ne_p_b53 : p ≠ b53 := ne_new hP.lt eb56
  have ge_b53 := ge_new hE eb56
  have hH_b53 : H ≤ b53 := by have := hP.le; have := hP.lt; omega
  replace hB4 := hB4.c0 hx55
  replace hB18 := hB18.c0 hx55
  replace hP := hP.chg hx55 all0
  replace hE := hE.t0 hx55
  clear eb56 lb57
  refine sV hf rfl (ex_bd (ps := [(0, (.tmp 62)), (1, (.tmp 63)), (2, (.tmp 67))]) (z := zT) (os := [0, 1, 2]) hf rfl (by kernel_rfl) (by kernel_rfl) (by kernel_rfl) rfl rfl) fun a hf => ?_
  obtain ⟨w58, he, hB59, hx60⟩ := eN (.tmp 2) (.tmp 68) hf rfl rfl rfl rfl hB4 rfl 0
  refine st_s hf rfl rfl he fun a hf => ?_
  replace hB18 := hB18.chg hx60 (nmc (Ne.symm ne_b3_b12) nm0)
  replace hB54 := hB54.chg hx60 (nmc (Ne.symm ne_b3_b53) nm0)
  replace hP := hP.chg hx60 (allc ⟨hH_b3, ne_p_b3⟩ all0)
  replace hE := hE.trans hx60 (allc (.inr ge_b3) all0)
  clear hB4
  refine sN <| hK49 _ _ <| wp_ret ?_
  rw [hq]
  try simp only [Exit.then, Exit.inBlock]
  exact ret_of (rs := [.cell 2 26]) hf rfl ⟨_, _, _, _, 4, rfl, rfl, by kernel_rfl, hB59, rfl, rfl⟩ ⟨_, _, _, _, rfl, tree_mk (Nat.le_refl _) (maxLen_ge rfl) (Nat.le_refl _) (maxLen_ge rfl) (RowIn.of_blk hB54 ge_b53 rfl) kids_none RowIn.none_, hP, hE, hL⟩
  clear hf a; intro hk6 a hf
  refine sA hf rfl rfl fun a hf => sN <| hK43 _ _ <| cF hf rfl <| wS fun K61 hK61 => wS fun K62 hK62 => wR <| sV hf rfl (ex_eqI (c := false) hf rfl rfl (iEqF (fun h => hk (.inl h)))) fun a hf => sA hf rfl rfl fun a hf => sN <| hK62 _ _ <| cF hf rfl <| wR <| sV hf rfl (ex_eqI (c := false) hf rfl rfl (iEqF (fun h => hk (.inr h)))) fun a hf => sA hf rfl rfl fun a hf => sN <| hK61 _ _ <| cF hf rfl <| wp_skip <| hK23 _ _ <| wS fun K63 hK63 => wS fun K64 hK64 => wR <| sV hf rfl (ex_fa (k := 2) (r := 2) hf rfl (by kernel_rfl) rfl) fun a hf => sV hf rfl (ex_loadB hf rfl (by kernel_rfl) hB18 rfl) fun a hf => sN <| hK64 _ _ <| wp_block <| wS fun K65 hK65 => wR <| sV hf rfl (ex_eqS (c := true) hf rfl rfl (beqT h1)) fun a hf => sA hf rfl rfl fun a hf => sN <| hK65 _ _ <| cT hf rfl <| wR <| sA hf rfl rfl fun a hf => sA hf rfl rfl fun a hf => sN <| hK63 _ _ <| wS fun K66 hK66 => wS fun K67 hK67 => wR <| sM hf rfl rfl fun a hf => sV hf rfl (ex_eqI (c := false) hf rfl rfl (by decide)) fun a hf => sN <| hK67 _ _ <| cF hf rfl <| wp_skip <| hK66 _ _ <| wS fun K68 hK68 => wR <| sM hf rfl rfl fun a hf => sM hf rfl rfl fun a hf => sM hf rfl rfl fun a hf => st_c hf rfl rfl rfl (by kernel_rfl) (pTakeL hP hs) ?_
  rintro _ w70 ⟨rfl, hP, hx69⟩
  refine ⟨_, rfl, fun a hf => ?_⟩
  replace hB4 := hB4.chg hx69 (nmc (Ne.symm ne_p_b3) nm0)
  replace hB18 := hB18.chg hx69 (nmc (Ne.symm ne_p_b12) nm0)
  replace hE := hE.trans hx69 (allc (.inl (by simp)) all0)
  replace hL := nlt (Nat.le_of_lt (pTake_lt hs)) hL
  refine sV hf rfl (ex_fd (k := 1) hf rfl (by kernel_rfl) rfl) fun a hf => ?_
  obtain ⟨w71, b72, he, hB73, hx74, eb75, lb76⟩ := ef_bslice (P := Try.prog) (ps := [(0, (.tmp 66))]) (m := 1) (sz := 1) (z := [.string ⟨([] : List UInt8).toArray⟩]) hf rfl Try.underlying23 (by kernel_rfl) (by kernel_rfl) rfl rfl (by kernel_rfl) rfl w70 23
  refine sV hf rfl he fun a hf => ?_
  have ne_b3_b72 : b3 ≠ b72 := ne_new hB4.lt eb75
  have ne_b12_b72 : b12 ≠ b72 := ne_new hB18.lt eb75
  have ne_p_b72 : p ≠ b72 := ne_new hP.lt eb75
  have ge_b72 := ge_new hE eb75
  have hH_b72 : H ≤ b72 := by have := hP.le; have := hP.lt; omega
  replace hB4 := hB4.c0 hx74
  replace hB18 := hB18.c0 hx74
  replace hP := hP.chg hx74 all0
  replace hE := hE.t0 hx74
  clear eb75 lb76
  refine sV hf rfl (ex_bd (ps := [(0, (.tmp 62)), (1, (.tmp 63)), (2, (.tmp 67))]) (z := zT) (os := [0, 1, 2]) hf rfl (by kernel_rfl) (by kernel_rfl) (by kernel_rfl) rfl rfl) fun a hf => ?_
  obtain ⟨w77, he, hB78, hx79⟩ := eN (.tmp 2) (.tmp 68) hf rfl rfl rfl rfl hB4 rfl 0
  refine st_s hf rfl rfl he fun a hf => ?_
  replace hB18 := hB18.chg hx79 (nmc (Ne.symm ne_b3_b12) nm0)
  replace hB73 := hB73.chg hx79 (nmc (Ne.symm ne_b3_b72) nm0)
  replace hP := hP.chg hx79 (allc ⟨hH_b3, ne_p_b3⟩ all0)
  replace hE := hE.trans hx79 (allc (.inr ge_b3) all0)
  clear hB4
  refine sN <| hK68 _ _ <| wp_ret ?_
  rw [hq]
  try simp only [Exit.then, Exit.inBlock]
  exact ret_of (rs := [.cell 2 26]) hf rfl ⟨_, _, _, _, 4, rfl, rfl, by kernel_rfl, hB78, rfl, rfl⟩ ⟨_, _, _, _, rfl, tree_mk (Nat.le_refl _) (maxLen_ge rfl) (Nat.le_refl _) (maxLen_ge rfl) (RowIn.of_blk hB73 ge_b72 rfl) kids_none RowIn.none_, hP, hE, hL⟩
theorem unit_false {H p n : Nat} {s : PS} {w : World} (ih : ExprOk n) (hP : PAt H w p s) (hn : s.toks.length < n + 1) (hk : ¬ ((pNext s).kind = 1 ∨ (pNext s).kind = 3)) (h1 : ¬ (pNext s).text = wTrue) (h2 : (pNext s).text = wFalse) : Calls Try.prog 104 [.pointer (some ⟨p, 0, none⟩)].toArray w (TreePost w H p s (unitF (exprT n) s)) := by
  obtain ⟨t, r, hs, hnx⟩ := pNext_cons (s := s) (.inl (by rw [h2]; decide))
  have htl := pTake_lt hs
  have hq : unitF (exprT n) s = _ := unitF_false hk h1 h2
  rw [hnx] at hq
  refine enter_fr 69 Try.func104 rfl rfl rfl ?_
  intro a hf
  have hE := Chg.refl [p] w
  have hL := Nat.le_refl s.toks.length
  refine wS fun K1 hK1 => wR ?_
  obtain ⟨w2, b3, he, hB4, hx5, eb6, lb7⟩ := eT a w 0
  refine sV hf rfl he fun a hf => ?_
  have ne_p_b3 : p ≠ b3 := ne_new hP.lt eb6
  have ge_b3 := ge_new hE eb6
  have hH_b3 : H ≤ b3 := by have := hP.le; have := hP.lt; omega
  replace hP := hP.chg hx5 all0
  replace hE := hE.t0 hx5
  clear eb6 lb7
  refine sN <| hK1 _ _ <| wS fun K8 hK8 => wR <| sM hf rfl rfl fun a hf => st_c hf rfl rfl rfl (by kernel_rfl) (pNextL hP) ?_
  rintro _ w10 ⟨rfl, hP, hx9⟩
  refine ⟨_, rfl, fun a hf => ?_⟩
  replace hB4 := hB4.c0 hx9
  replace hE := hE.t0 hx9
  obtain ⟨w11, b12, he, hB13, hx14, eb15, lb16⟩ := ef_alloc (P := Try.prog) (t := 49) [.int .i64 0, .string ⟨([] : List UInt8).toArray⟩, .string ⟨([] : List UInt8).toArray⟩] (by kernel_rfl) a w10 0
  refine sV hf rfl he fun a hf => ?_
  have ne_b3_b12 : b3 ≠ b12 := ne_new hB4.lt eb15
  have ne_p_b12 : p ≠ b12 := ne_new hP.lt eb15
  have ge_b12 := ge_new hE eb15
  have hH_b12 : H ≤ b12 := by have := hP.le; have := hP.lt; omega
  replace hB4 := hB4.c0 hx14
  replace hP := hP.chg hx14 all0
  replace hE := hE.t0 hx14
  clear eb15 lb16
  obtain ⟨w17, he, hB18, hx19⟩ := ef_storeN (P := Try.prog) (t := 49) (x := (.tmp 3)) (y := (.tmp 8)) (m := 3) hf rfl rfl (by kernel_rfl) rfl rfl hB13 rfl 0
  refine st_s hf rfl rfl he fun a hf => ?_
  replace hB4 := hB4.chg hx19 (nmc ne_b3_b12 nm0)
  replace hP := hP.chg hx19 (allc ⟨hH_b12, ne_p_b12⟩ all0)
  replace hE := hE.trans hx19 (allc (.inr ge_b12) all0)
  clear hB13
  refine sN <| hK8 _ _ <| wS fun K20 hK20 => ?_
  have s_hB18 := hB18
  refine dl_start (fun x => x.cell? ⟨b12, 2, none⟩ = w17.cell? ⟨b12, 2, none⟩) 4 4 rfl (by kernel_rfl) (by kernel_rfl) ?_
  intro w21 hx22 hsel
  replace hB4 := hB4.c0 hx22
  replace hB18 := hB18.c0 hx22
  replace hP := hP.chg hx22 all0
  replace hE := hE.t0 hx22
  have hS0 := hB18.same s_hB18 2
  refine dV 0 rfl rfl hsel (by kernel_rfl) hf rfl (.inl hS0) (fun x => ex_fa (k := 2) (r := 2) hf rfl (by kernel_rfl) rfl) fun a hf => dL 1 rfl rfl hsel (by kernel_rfl) hf rfl hS0 (fun x hS => ex_load hf rfl (by kernel_rfl) (hS.trans ((s_hB18.cell 2).trans rfl))) fun a hf => dV 2 rfl rfl hsel (by kernel_rfl) hf rfl (.inl hS0) (fun x => ex_assign hf rfl) fun a hf => dV 3 rfl rfl hsel (by kernel_rfl) hf rfl (.inl hS0) (fun x => ex_assign hf rfl) fun a hf => dl_done (by kernel_rfl) ?_
  clear hS0 hsel
  refine hK20 _ _ <| wS fun K23 hK23 => wS fun K24 hK24 => wR <| sV hf rfl (ex_fa (k := 0) (r := 0) hf rfl (by kernel_rfl) rfl) fun a hf => sV hf rfl (ex_loadB hf rfl (by kernel_rfl) hB18 rfl) fun a hf => sN <| hK24 _ _ <| wp_block <| wS fun K25 hK25 => wR <| st_b hf rfl rfl (fun c hc => ex_eqI hf rfl rfl hc) ?_ ?_
  clear hf a; intro hk5 a hf
  refine sA hf rfl rfl fun a hf => sN <| hK25 _ _ <| cT hf rfl <| wR <| sA hf rfl rfl fun a hf => sN <| hK23 _ _ <| wS fun K26 hK26 => wS fun K27 hK27 => wR <| sV hf rfl (ex_fa (k := 2) (r := 2) hf rfl (by kernel_rfl) rfl) fun a hf => sV hf rfl (ex_loadB hf rfl (by kernel_rfl) hB18 rfl) fun a hf => sN <| hK27 _ _ <| wp_block <| wS fun K28 hK28 => wR <| sV hf rfl (ex_eqS (c := false) hf rfl rfl (beqF h1)) fun a hf => sA hf rfl rfl fun a hf => sN <| hK28 _ _ <| cF hf rfl <| wS fun K29 hK29 => wR <| sV hf rfl (ex_eqS (c := true) hf rfl rfl (beqT h2)) fun a hf => sA hf rfl rfl fun a hf => sN <| hK29 _ _ <| cT hf rfl <| wR <| sA hf rfl rfl fun a hf => sA hf rfl rfl fun a hf => sN <| hK26 _ _ <| wS fun K30 hK30 => wS fun K31 hK31 => wR <| sM hf rfl rfl fun a hf => sV hf rfl (ex_eqI (c := false) hf rfl rfl (by decide)) fun a hf => sN <| hK31 _ _ <| cF hf rfl <| wp_skip <| hK30 _ _ <| wS fun K32 hK32 => wR <| sM hf rfl rfl fun a hf => sM hf rfl rfl fun a hf => sM hf rfl rfl fun a hf => st_c hf rfl rfl rfl (by kernel_rfl) (pTakeL hP hs) ?_
  rintro _ w34 ⟨rfl, hP, hx33⟩
  refine ⟨_, rfl, fun a hf => ?_⟩
  replace hB4 := hB4.chg hx33 (nmc (Ne.symm ne_p_b3) nm0)
  replace hB18 := hB18.chg hx33 (nmc (Ne.symm ne_p_b12) nm0)
  replace hE := hE.trans hx33 (allc (.inl (by simp)) all0)
  replace hL := nlt (Nat.le_of_lt (pTake_lt hs)) hL
  refine sV hf rfl (ex_fd (k := 1) hf rfl (by kernel_rfl) rfl) fun a hf => ?_
  obtain ⟨w35, b36, he, hB37, hx38, eb39, lb40⟩ := ef_bslice (P := Try.prog) (ps := [(0, (.tmp 66))]) (m := 1) (sz := 1) (z := [.string ⟨([] : List UInt8).toArray⟩]) hf rfl Try.underlying23 (by kernel_rfl) (by kernel_rfl) rfl rfl (by kernel_rfl) rfl w34 23
  refine sV hf rfl he fun a hf => ?_
  have ne_b3_b36 : b3 ≠ b36 := ne_new hB4.lt eb39
  have ne_b12_b36 : b12 ≠ b36 := ne_new hB18.lt eb39
  have ne_p_b36 : p ≠ b36 := ne_new hP.lt eb39
  have ge_b36 := ge_new hE eb39
  have hH_b36 : H ≤ b36 := by have := hP.le; have := hP.lt; omega
  replace hB4 := hB4.c0 hx38
  replace hB18 := hB18.c0 hx38
  replace hP := hP.chg hx38 all0
  replace hE := hE.t0 hx38
  clear eb39 lb40
  refine sV hf rfl (ex_bd (ps := [(0, (.tmp 62)), (1, (.tmp 63)), (2, (.tmp 67))]) (z := zT) (os := [0, 1, 2]) hf rfl (by kernel_rfl) (by kernel_rfl) (by kernel_rfl) rfl rfl) fun a hf => ?_
  obtain ⟨w41, he, hB42, hx43⟩ := eN (.tmp 2) (.tmp 68) hf rfl rfl rfl rfl hB4 rfl 0
  refine st_s hf rfl rfl he fun a hf => ?_
  replace hB18 := hB18.chg hx43 (nmc (Ne.symm ne_b3_b12) nm0)
  replace hB37 := hB37.chg hx43 (nmc (Ne.symm ne_b3_b36) nm0)
  replace hP := hP.chg hx43 (allc ⟨hH_b3, ne_p_b3⟩ all0)
  replace hE := hE.trans hx43 (allc (.inr ge_b3) all0)
  clear hB4
  refine sN <| hK32 _ _ <| wp_ret ?_
  rw [hq]
  try simp only [Exit.then, Exit.inBlock]
  exact ret_of (rs := [.cell 2 26]) hf rfl ⟨_, _, _, _, 4, rfl, rfl, by kernel_rfl, hB42, rfl, rfl⟩ ⟨_, _, _, _, rfl, tree_mk (Nat.le_refl _) (maxLen_ge rfl) (Nat.le_refl _) (maxLen_ge rfl) (RowIn.of_blk hB37 ge_b36 rfl) kids_none RowIn.none_, hP, hE, hL⟩
  clear hf a; intro hk5 a hf
  refine sA hf rfl rfl fun a hf => sN <| hK25 _ _ <| cF hf rfl <| wS fun K44 hK44 => wR <| st_b hf rfl rfl (fun c hc => ex_eqI hf rfl rfl hc) ?_ ?_
  clear hf a; intro hk6 a hf
  refine sA hf rfl rfl fun a hf => sN <| hK44 _ _ <| cT hf rfl <| wR <| sA hf rfl rfl fun a hf => sN <| hK23 _ _ <| wS fun K45 hK45 => wS fun K46 hK46 => wR <| sV hf rfl (ex_fa (k := 2) (r := 2) hf rfl (by kernel_rfl) rfl) fun a hf => sV hf rfl (ex_loadB hf rfl (by kernel_rfl) hB18 rfl) fun a hf => sN <| hK46 _ _ <| wp_block <| wS fun K47 hK47 => wR <| sV hf rfl (ex_eqS (c := false) hf rfl rfl (beqF h1)) fun a hf => sA hf rfl rfl fun a hf => sN <| hK47 _ _ <| cF hf rfl <| wS fun K48 hK48 => wR <| sV hf rfl (ex_eqS (c := true) hf rfl rfl (beqT h2)) fun a hf => sA hf rfl rfl fun a hf => sN <| hK48 _ _ <| cT hf rfl <| wR <| sA hf rfl rfl fun a hf => sA hf rfl rfl fun a hf => sN <| hK45 _ _ <| wS fun K49 hK49 => wS fun K50 hK50 => wR <| sM hf rfl rfl fun a hf => sV hf rfl (ex_eqI (c := false) hf rfl rfl (by decide)) fun a hf => sN <| hK50 _ _ <| cF hf rfl <| wp_skip <| hK49 _ _ <| wS fun K51 hK51 => wR <| sM hf rfl rfl fun a hf => sM hf rfl rfl fun a hf => sM hf rfl rfl fun a hf => st_c hf rfl rfl rfl (by kernel_rfl) (pTakeL hP hs) ?_
  rintro _ w53 ⟨rfl, hP, hx52⟩
  refine ⟨_, rfl, fun a hf => ?_⟩
  replace hB4 := hB4.chg hx52 (nmc (Ne.symm ne_p_b3) nm0)
  replace hB18 := hB18.chg hx52 (nmc (Ne.symm ne_p_b12) nm0)
  replace hE := hE.trans hx52 (allc (.inl (by simp)) all0)
  replace hL := nlt (Nat.le_of_lt (pTake_lt hs)) hL
  refine sV hf rfl (ex_fd (k := 1) hf rfl (by kernel_rfl) rfl) fun a hf => ?_
  obtain ⟨w54, b55, he, hB56, hx57, eb58, lb59⟩ := ef_bslice (P := Try.prog) (ps := [(0, (.tmp 66))]) (m := 1) (sz := 1) (z := [.string ⟨([] : List UInt8).toArray⟩]) hf rfl Try.underlying23 (by kernel_rfl) (by kernel_rfl) rfl rfl (by kernel_rfl) rfl w53 23
  refine sV hf rfl he fun a hf => ?_
  have ne_b3_b55 : b3 ≠ b55 := ne_new hB4.lt eb58
  have ne_b12_b55 : b12 ≠ b55 := ne_new hB18.lt eb58
  have ne_p_b55 : p ≠ b55 := ne_new hP.lt eb58
  have ge_b55 := ge_new hE eb58
  have hH_b55 : H ≤ b55 := by have := hP.le; have := hP.lt; omega
  replace hB4 := hB4.c0 hx57
  replace hB18 := hB18.c0 hx57
  replace hP := hP.chg hx57 all0
  replace hE := hE.t0 hx57
  clear eb58 lb59
  refine sV hf rfl (ex_bd (ps := [(0, (.tmp 62)), (1, (.tmp 63)), (2, (.tmp 67))]) (z := zT) (os := [0, 1, 2]) hf rfl (by kernel_rfl) (by kernel_rfl) (by kernel_rfl) rfl rfl) fun a hf => ?_
  obtain ⟨w60, he, hB61, hx62⟩ := eN (.tmp 2) (.tmp 68) hf rfl rfl rfl rfl hB4 rfl 0
  refine st_s hf rfl rfl he fun a hf => ?_
  replace hB18 := hB18.chg hx62 (nmc (Ne.symm ne_b3_b12) nm0)
  replace hB56 := hB56.chg hx62 (nmc (Ne.symm ne_b3_b55) nm0)
  replace hP := hP.chg hx62 (allc ⟨hH_b3, ne_p_b3⟩ all0)
  replace hE := hE.trans hx62 (allc (.inr ge_b3) all0)
  clear hB4
  refine sN <| hK51 _ _ <| wp_ret ?_
  rw [hq]
  try simp only [Exit.then, Exit.inBlock]
  exact ret_of (rs := [.cell 2 26]) hf rfl ⟨_, _, _, _, 4, rfl, rfl, by kernel_rfl, hB61, rfl, rfl⟩ ⟨_, _, _, _, rfl, tree_mk (Nat.le_refl _) (maxLen_ge rfl) (Nat.le_refl _) (maxLen_ge rfl) (RowIn.of_blk hB56 ge_b55 rfl) kids_none RowIn.none_, hP, hE, hL⟩
  clear hf a; intro hk6 a hf
  refine sA hf rfl rfl fun a hf => sN <| hK44 _ _ <| cF hf rfl <| wS fun K63 hK63 => wS fun K64 hK64 => wR <| sV hf rfl (ex_eqI (c := false) hf rfl rfl (iEqF (fun h => hk (.inl h)))) fun a hf => sA hf rfl rfl fun a hf => sN <| hK64 _ _ <| cF hf rfl <| wR <| sV hf rfl (ex_eqI (c := false) hf rfl rfl (iEqF (fun h => hk (.inr h)))) fun a hf => sA hf rfl rfl fun a hf => sN <| hK63 _ _ <| cF hf rfl <| wp_skip <| hK23 _ _ <| wS fun K65 hK65 => wS fun K66 hK66 => wR <| sV hf rfl (ex_fa (k := 2) (r := 2) hf rfl (by kernel_rfl) rfl) fun a hf => sV hf rfl (ex_loadB hf rfl (by kernel_rfl) hB18 rfl) fun a hf => sN <| hK66 _ _ <| wp_block <| wS fun K67 hK67 => wR <| sV hf rfl (ex_eqS (c := false) hf rfl rfl (beqF h1)) fun a hf => sA hf rfl rfl fun a hf => sN <| hK67 _ _ <| cF hf rfl <| wS fun K68 hK68 => wR <| sV hf rfl (ex_eqS (c := true) hf rfl rfl (beqT h2)) fun a hf => sA hf rfl rfl fun a hf => sN <| hK68 _ _ <| cT hf rfl <| wR <| sA hf rfl rfl fun a hf => sA hf rfl rfl fun a hf => sN <| hK65 _ _ <| wS fun K69 hK69 => wS fun K70 hK70 => wR <| sM hf rfl rfl fun a hf => sV hf rfl (ex_eqI (c := false) hf rfl rfl (by decide)) fun a hf => sN <| hK70 _ _ <| cF hf rfl <| wp_skip <| hK69 _ _ <| wS fun K71 hK71 => wR <| sM hf rfl rfl fun a hf => sM hf rfl rfl fun a hf => sM hf rfl rfl fun a hf => st_c hf rfl rfl rfl (by kernel_rfl) (pTakeL hP hs) ?_
  rintro _ w73 ⟨rfl, hP, hx72⟩
  refine ⟨_, rfl, fun a hf => ?_⟩
  replace hB4 := hB4.chg hx72 (nmc (Ne.symm ne_p_b3) nm0)
  replace hB18 := hB18.chg hx72 (nmc (Ne.symm ne_p_b12) nm0)
  replace hE := hE.trans hx72 (allc (.inl (by simp)) all0)
  replace hL := nlt (Nat.le_of_lt (pTake_lt hs)) hL
  refine sV hf rfl (ex_fd (k := 1) hf rfl (by kernel_rfl) rfl) fun a hf => ?_
  obtain ⟨w74, b75, he, hB76, hx77, eb78, lb79⟩ := ef_bslice (P := Try.prog) (ps := [(0, (.tmp 66))]) (m := 1) (sz := 1) (z := [.string ⟨([] : List UInt8).toArray⟩]) hf rfl Try.underlying23 (by kernel_rfl) (by kernel_rfl) rfl rfl (by kernel_rfl) rfl w73 23
  refine sV hf rfl he fun a hf => ?_
  have ne_b3_b75 : b3 ≠ b75 := ne_new hB4.lt eb78
  have ne_b12_b75 : b12 ≠ b75 := ne_new hB18.lt eb78
  have ne_p_b75 : p ≠ b75 := ne_new hP.lt eb78
  have ge_b75 := ge_new hE eb78
  have hH_b75 : H ≤ b75 := by have := hP.le; have := hP.lt; omega
  replace hB4 := hB4.c0 hx77
  replace hB18 := hB18.c0 hx77
  replace hP := hP.chg hx77 all0
  replace hE := hE.t0 hx77
  clear eb78 lb79
  refine sV hf rfl (ex_bd (ps := [(0, (.tmp 62)), (1, (.tmp 63)), (2, (.tmp 67))]) (z := zT) (os := [0, 1, 2]) hf rfl (by kernel_rfl) (by kernel_rfl) (by kernel_rfl) rfl rfl) fun a hf => ?_
  obtain ⟨w80, he, hB81, hx82⟩ := eN (.tmp 2) (.tmp 68) hf rfl rfl rfl rfl hB4 rfl 0
  refine st_s hf rfl rfl he fun a hf => ?_
  replace hB18 := hB18.chg hx82 (nmc (Ne.symm ne_b3_b12) nm0)
  replace hB76 := hB76.chg hx82 (nmc (Ne.symm ne_b3_b75) nm0)
  replace hP := hP.chg hx82 (allc ⟨hH_b3, ne_p_b3⟩ all0)
  replace hE := hE.trans hx82 (allc (.inr ge_b3) all0)
  clear hB4
  refine sN <| hK71 _ _ <| wp_ret ?_
  rw [hq]
  try simp only [Exit.then, Exit.inBlock]
  exact ret_of (rs := [.cell 2 26]) hf rfl ⟨_, _, _, _, 4, rfl, rfl, by kernel_rfl, hB81, rfl, rfl⟩ ⟨_, _, _, _, rfl, tree_mk (Nat.le_refl _) (maxLen_ge rfl) (Nat.le_refl _) (maxLen_ge rfl) (RowIn.of_blk hB76 ge_b75 rfl) kids_none RowIn.none_, hP, hE, hL⟩
theorem unit_hole {H p n : Nat} {s : PS} {w : World} (ih : ExprOk n) (hP : PAt H w p s) (hn : s.toks.length < n + 1) (hk : ¬ ((pNext s).kind = 1 ∨ (pNext s).kind = 3)) (h1 : ¬ (pNext s).text = wTrue) (h2 : ¬ (pNext s).text = wFalse) (h3 : (pNext s).text = [63]) : Calls Try.prog 104 [.pointer (some ⟨p, 0, none⟩)].toArray w (TreePost w H p s (unitF (exprT n) s)) := by
  obtain ⟨t, r, hs, hnx⟩ := pNext_cons (s := s) (.inl (by rw [h3]; decide))
  have htl := pTake_lt hs
  have hq : unitF (exprT n) s = _ := unitF_hole hk h1 h2 h3
  rw [hnx] at hq
  refine enter_fr 69 Try.func104 rfl rfl rfl ?_
  intro a hf
  have hE := Chg.refl [p] w
  have hL := Nat.le_refl s.toks.length
  refine wS fun K1 hK1 => wR ?_
  obtain ⟨w2, b3, he, hB4, hx5, eb6, lb7⟩ := eT a w 0
  refine sV hf rfl he fun a hf => ?_
  have ne_p_b3 : p ≠ b3 := ne_new hP.lt eb6
  have ge_b3 := ge_new hE eb6
  have hH_b3 : H ≤ b3 := by have := hP.le; have := hP.lt; omega
  replace hP := hP.chg hx5 all0
  replace hE := hE.t0 hx5
  clear eb6 lb7
  refine sN <| hK1 _ _ <| wS fun K8 hK8 => wR <| sM hf rfl rfl fun a hf => st_c hf rfl rfl rfl (by kernel_rfl) (pNextL hP) ?_
  rintro _ w10 ⟨rfl, hP, hx9⟩
  refine ⟨_, rfl, fun a hf => ?_⟩
  replace hB4 := hB4.c0 hx9
  replace hE := hE.t0 hx9
  obtain ⟨w11, b12, he, hB13, hx14, eb15, lb16⟩ := ef_alloc (P := Try.prog) (t := 49) [.int .i64 0, .string ⟨([] : List UInt8).toArray⟩, .string ⟨([] : List UInt8).toArray⟩] (by kernel_rfl) a w10 0
  refine sV hf rfl he fun a hf => ?_
  have ne_b3_b12 : b3 ≠ b12 := ne_new hB4.lt eb15
  have ne_p_b12 : p ≠ b12 := ne_new hP.lt eb15
  have ge_b12 := ge_new hE eb15
  have hH_b12 : H ≤ b12 := by have := hP.le; have := hP.lt; omega
  replace hB4 := hB4.c0 hx14
  replace hP := hP.chg hx14 all0
  replace hE := hE.t0 hx14
  clear eb15 lb16
  obtain ⟨w17, he, hB18, hx19⟩ := ef_storeN (P := Try.prog) (t := 49) (x := (.tmp 3)) (y := (.tmp 8)) (m := 3) hf rfl rfl (by kernel_rfl) rfl rfl hB13 rfl 0
  refine st_s hf rfl rfl he fun a hf => ?_
  replace hB4 := hB4.chg hx19 (nmc ne_b3_b12 nm0)
  replace hP := hP.chg hx19 (allc ⟨hH_b12, ne_p_b12⟩ all0)
  replace hE := hE.trans hx19 (allc (.inr ge_b12) all0)
  clear hB13
  refine sN <| hK8 _ _ <| wS fun K20 hK20 => ?_
  have s_hB18 := hB18
  refine dl_start (fun x => x.cell? ⟨b12, 2, none⟩ = w17.cell? ⟨b12, 2, none⟩) 4 4 rfl (by kernel_rfl) (by kernel_rfl) ?_
  intro w21 hx22 hsel
  replace hB4 := hB4.c0 hx22
  replace hB18 := hB18.c0 hx22
  replace hP := hP.chg hx22 all0
  replace hE := hE.t0 hx22
  have hS0 := hB18.same s_hB18 2
  refine dV 0 rfl rfl hsel (by kernel_rfl) hf rfl (.inl hS0) (fun x => ex_fa (k := 2) (r := 2) hf rfl (by kernel_rfl) rfl) fun a hf => dL 1 rfl rfl hsel (by kernel_rfl) hf rfl hS0 (fun x hS => ex_load hf rfl (by kernel_rfl) (hS.trans ((s_hB18.cell 2).trans rfl))) fun a hf => dV 2 rfl rfl hsel (by kernel_rfl) hf rfl (.inl hS0) (fun x => ex_assign hf rfl) fun a hf => dV 3 rfl rfl hsel (by kernel_rfl) hf rfl (.inl hS0) (fun x => ex_assign hf rfl) fun a hf => dl_done (by kernel_rfl) ?_
  clear hS0 hsel
  refine hK20 _ _ <| wS fun K23 hK23 => wS fun K24 hK24 => wR <| sV hf rfl (ex_fa (k := 0) (r := 0) hf rfl (by kernel_rfl) rfl) fun a hf => sV hf rfl (ex_loadB hf rfl (by kernel_rfl) hB18 rfl) fun a hf => sN <| hK24 _ _ <| wp_block <| wS fun K25 hK25 => wR <| st_b hf rfl rfl (fun c hc => ex_eqI hf rfl rfl hc) ?_ ?_
  clear hf a; intro hk5 a hf
  refine sA hf rfl rfl fun a hf => sN <| hK25 _ _ <| cT hf rfl <| wR <| sA hf rfl rfl fun a hf => sN <| hK23 _ _ <| wS fun K26 hK26 => wS fun K27 hK27 => wR <| sV hf rfl (ex_fa (k := 2) (r := 2) hf rfl (by kernel_rfl) rfl) fun a hf => sV hf rfl (ex_loadB hf rfl (by kernel_rfl) hB18 rfl) fun a hf => sN <| hK27 _ _ <| wp_block <| wS fun K28 hK28 => wR <| sV hf rfl (ex_eqS (c := false) hf rfl rfl (beqF h1)) fun a hf => sA hf rfl rfl fun a hf => sN <| hK28 _ _ <| cF hf rfl <| wS fun K29 hK29 => wR <| sV hf rfl (ex_eqS (c := false) hf rfl rfl (beqF h2)) fun a hf => sA hf rfl rfl fun a hf => sN <| hK29 _ _ <| cF hf rfl <| wS fun K30 hK30 => wR <| sV hf rfl (ex_eqS (c := true) hf rfl rfl (beqT h3)) fun a hf => sA hf rfl rfl fun a hf => sN <| hK30 _ _ <| cT hf rfl <| wR <| sA hf rfl rfl fun a hf => sA hf rfl rfl fun a hf => sN <| hK26 _ _ <| wS fun K31 hK31 => wS fun K32 hK32 => wR <| sM hf rfl rfl fun a hf => sV hf rfl (ex_eqI (c := false) hf rfl rfl (by decide)) fun a hf => sN <| hK32 _ _ <| cF hf rfl <| wp_skip <| hK31 _ _ <| wS fun K33 hK33 => wR <| sM hf rfl rfl fun a hf => sM hf rfl rfl fun a hf => sM hf rfl rfl fun a hf => st_c hf rfl rfl rfl (by kernel_rfl) (pTakeL hP hs) ?_
  rintro _ w35 ⟨rfl, hP, hx34⟩
  refine ⟨_, rfl, fun a hf => ?_⟩
  replace hB4 := hB4.chg hx34 (nmc (Ne.symm ne_p_b3) nm0)
  replace hB18 := hB18.chg hx34 (nmc (Ne.symm ne_p_b12) nm0)
  replace hE := hE.trans hx34 (allc (.inl (by simp)) all0)
  replace hL := nlt (Nat.le_of_lt (pTake_lt hs)) hL
  refine sV hf rfl (ex_fd (k := 1) hf rfl (by kernel_rfl) rfl) fun a hf => ?_
  obtain ⟨w36, b37, he, hB38, hx39, eb40, lb41⟩ := ef_bslice (P := Try.prog) (ps := [(0, (.tmp 66))]) (m := 1) (sz := 1) (z := [.string ⟨([] : List UInt8).toArray⟩]) hf rfl Try.underlying23 (by kernel_rfl) (by kernel_rfl) rfl rfl (by kernel_rfl) rfl w35 23
  refine sV hf rfl he fun a hf => ?_
  have ne_b3_b37 : b3 ≠ b37 := ne_new hB4.lt eb40
  have ne_b12_b37 : b12 ≠ b37 := ne_new hB18.lt eb40
  have ne_p_b37 : p ≠ b37 := ne_new hP.lt eb40
  have ge_b37 := ge_new hE eb40
  have hH_b37 : H ≤ b37 := by have := hP.le; have := hP.lt; omega
  replace hB4 := hB4.c0 hx39
  replace hB18 := hB18.c0 hx39
  replace hP := hP.chg hx39 all0
  replace hE := hE.t0 hx39
  clear eb40 lb41
  refine sV hf rfl (ex_bd (ps := [(0, (.tmp 62)), (1, (.tmp 63)), (2, (.tmp 67))]) (z := zT) (os := [0, 1, 2]) hf rfl (by kernel_rfl) (by kernel_rfl) (by kernel_rfl) rfl rfl) fun a hf => ?_
  obtain ⟨w42, he, hB43, hx44⟩ := eN (.tmp 2) (.tmp 68) hf rfl rfl rfl rfl hB4 rfl 0
  refine st_s hf rfl rfl he fun a hf => ?_
  replace hB18 := hB18.chg hx44 (nmc (Ne.symm ne_b3_b12) nm0)
  replace hB38 := hB38.chg hx44 (nmc (Ne.symm ne_b3_b37) nm0)
  replace hP := hP.chg hx44 (allc ⟨hH_b3, ne_p_b3⟩ all0)
  replace hE := hE.trans hx44 (allc (.inr ge_b3) all0)
  clear hB4
  refine sN <| hK33 _ _ <| wp_ret ?_
  rw [hq]
  try simp only [Exit.then, Exit.inBlock]
  exact ret_of (rs := [.cell 2 26]) hf rfl ⟨_, _, _, _, 4, rfl, rfl, by kernel_rfl, hB43, rfl, rfl⟩ ⟨_, _, _, _, rfl, tree_mk (Nat.le_refl _) (maxLen_ge rfl) (Nat.le_refl _) (maxLen_ge rfl) (RowIn.of_blk hB38 ge_b37 rfl) kids_none RowIn.none_, hP, hE, hL⟩
  clear hf a; intro hk5 a hf
  refine sA hf rfl rfl fun a hf => sN <| hK25 _ _ <| cF hf rfl <| wS fun K45 hK45 => wR <| st_b hf rfl rfl (fun c hc => ex_eqI hf rfl rfl hc) ?_ ?_
  clear hf a; intro hk6 a hf
  refine sA hf rfl rfl fun a hf => sN <| hK45 _ _ <| cT hf rfl <| wR <| sA hf rfl rfl fun a hf => sN <| hK23 _ _ <| wS fun K46 hK46 => wS fun K47 hK47 => wR <| sV hf rfl (ex_fa (k := 2) (r := 2) hf rfl (by kernel_rfl) rfl) fun a hf => sV hf rfl (ex_loadB hf rfl (by kernel_rfl) hB18 rfl) fun a hf => sN <| hK47 _ _ <| wp_block <| wS fun K48 hK48 => wR <| sV hf rfl (ex_eqS (c := false) hf rfl rfl (beqF h1)) fun a hf => sA hf rfl rfl fun a hf => sN <| hK48 _ _ <| cF hf rfl <| wS fun K49 hK49 => wR <| sV hf rfl (ex_eqS (c := false) hf rfl rfl (beqF h2)) fun a hf => sA hf rfl rfl fun a hf => sN <| hK49 _ _ <| cF hf rfl <| wS fun K50 hK50 => wR <| sV hf rfl (ex_eqS (c := true) hf rfl rfl (beqT h3)) fun a hf => sA hf rfl rfl fun a hf => sN <| hK50 _ _ <| cT hf rfl <| wR <| sA hf rfl rfl fun a hf => sA hf rfl rfl fun a hf => sN <| hK46 _ _ <| wS fun K51 hK51 => wS fun K52 hK52 => wR <| sM hf rfl rfl fun a hf => sV hf rfl (ex_eqI (c := false) hf rfl rfl (by decide)) fun a hf => sN <| hK52 _ _ <| cF hf rfl <| wp_skip <| hK51 _ _ <| wS fun K53 hK53 => wR <| sM hf rfl rfl fun a hf => sM hf rfl rfl fun a hf => sM hf rfl rfl fun a hf => st_c hf rfl rfl rfl (by kernel_rfl) (pTakeL hP hs) ?_
  rintro _ w55 ⟨rfl, hP, hx54⟩
  refine ⟨_, rfl, fun a hf => ?_⟩
  replace hB4 := hB4.chg hx54 (nmc (Ne.symm ne_p_b3) nm0)
  replace hB18 := hB18.chg hx54 (nmc (Ne.symm ne_p_b12) nm0)
  replace hE := hE.trans hx54 (allc (.inl (by simp)) all0)
  replace hL := nlt (Nat.le_of_lt (pTake_lt hs)) hL
  refine sV hf rfl (ex_fd (k := 1) hf rfl (by kernel_rfl) rfl) fun a hf => ?_
  obtain ⟨w56, b57, he, hB58, hx59, eb60, lb61⟩ := ef_bslice (P := Try.prog) (ps := [(0, (.tmp 66))]) (m := 1) (sz := 1) (z := [.string ⟨([] : List UInt8).toArray⟩]) hf rfl Try.underlying23 (by kernel_rfl) (by kernel_rfl) rfl rfl (by kernel_rfl) rfl w55 23
  refine sV hf rfl he fun a hf => ?_
  have ne_b3_b57 : b3 ≠ b57 := ne_new hB4.lt eb60
  have ne_b12_b57 : b12 ≠ b57 := ne_new hB18.lt eb60
  have ne_p_b57 : p ≠ b57 := ne_new hP.lt eb60
  have ge_b57 := ge_new hE eb60
  have hH_b57 : H ≤ b57 := by have := hP.le; have := hP.lt; omega
  replace hB4 := hB4.c0 hx59
  replace hB18 := hB18.c0 hx59
  replace hP := hP.chg hx59 all0
  replace hE := hE.t0 hx59
  clear eb60 lb61
  refine sV hf rfl (ex_bd (ps := [(0, (.tmp 62)), (1, (.tmp 63)), (2, (.tmp 67))]) (z := zT) (os := [0, 1, 2]) hf rfl (by kernel_rfl) (by kernel_rfl) (by kernel_rfl) rfl rfl) fun a hf => ?_
  obtain ⟨w62, he, hB63, hx64⟩ := eN (.tmp 2) (.tmp 68) hf rfl rfl rfl rfl hB4 rfl 0
  refine st_s hf rfl rfl he fun a hf => ?_
  replace hB18 := hB18.chg hx64 (nmc (Ne.symm ne_b3_b12) nm0)
  replace hB58 := hB58.chg hx64 (nmc (Ne.symm ne_b3_b57) nm0)
  replace hP := hP.chg hx64 (allc ⟨hH_b3, ne_p_b3⟩ all0)
  replace hE := hE.trans hx64 (allc (.inr ge_b3) all0)
  clear hB4
  refine sN <| hK53 _ _ <| wp_ret ?_
  rw [hq]
  try simp only [Exit.then, Exit.inBlock]
  exact ret_of (rs := [.cell 2 26]) hf rfl ⟨_, _, _, _, 4, rfl, rfl, by kernel_rfl, hB63, rfl, rfl⟩ ⟨_, _, _, _, rfl, tree_mk (Nat.le_refl _) (maxLen_ge rfl) (Nat.le_refl _) (maxLen_ge rfl) (RowIn.of_blk hB58 ge_b57 rfl) kids_none RowIn.none_, hP, hE, hL⟩
  clear hf a; intro hk6 a hf
  refine sA hf rfl rfl fun a hf => sN <| hK45 _ _ <| cF hf rfl <| wS fun K65 hK65 => wS fun K66 hK66 => wR <| sV hf rfl (ex_eqI (c := false) hf rfl rfl (iEqF (fun h => hk (.inl h)))) fun a hf => sA hf rfl rfl fun a hf => sN <| hK66 _ _ <| cF hf rfl <| wR <| sV hf rfl (ex_eqI (c := false) hf rfl rfl (iEqF (fun h => hk (.inr h)))) fun a hf => sA hf rfl rfl fun a hf => sN <| hK65 _ _ <| cF hf rfl <| wp_skip <| hK23 _ _ <| wS fun K67 hK67 => wS fun K68 hK68 => wR <| sV hf rfl (ex_fa (k := 2) (r := 2) hf rfl (by kernel_rfl) rfl) fun a hf => sV hf rfl (ex_loadB hf rfl (by kernel_rfl) hB18 rfl) fun a hf => sN <| hK68 _ _ <| wp_block <| wS fun K69 hK69 => wR <| sV hf rfl (ex_eqS (c := false) hf rfl rfl (beqF h1)) fun a hf => sA hf rfl rfl fun a hf => sN <| hK69 _ _ <| cF hf rfl <| wS fun K70 hK70 => wR <| sV hf rfl (ex_eqS (c := false) hf rfl rfl (beqF h2)) fun a hf => sA hf rfl rfl fun a hf => sN <| hK70 _ _ <| cF hf rfl <| wS fun K71 hK71 => wR <| sV hf rfl (ex_eqS (c := true) hf rfl rfl (beqT h3)) fun a hf => sA hf rfl rfl fun a hf => sN <| hK71 _ _ <| cT hf rfl <| wR <| sA hf rfl rfl fun a hf => sA hf rfl rfl fun a hf => sN <| hK67 _ _ <| wS fun K72 hK72 => wS fun K73 hK73 => wR <| sM hf rfl rfl fun a hf => sV hf rfl (ex_eqI (c := false) hf rfl rfl (by decide)) fun a hf => sN <| hK73 _ _ <| cF hf rfl <| wp_skip <| hK72 _ _ <| wS fun K74 hK74 => wR <| sM hf rfl rfl fun a hf => sM hf rfl rfl fun a hf => sM hf rfl rfl fun a hf => st_c hf rfl rfl rfl (by kernel_rfl) (pTakeL hP hs) ?_
  rintro _ w76 ⟨rfl, hP, hx75⟩
  refine ⟨_, rfl, fun a hf => ?_⟩
  replace hB4 := hB4.chg hx75 (nmc (Ne.symm ne_p_b3) nm0)
  replace hB18 := hB18.chg hx75 (nmc (Ne.symm ne_p_b12) nm0)
  replace hE := hE.trans hx75 (allc (.inl (by simp)) all0)
  replace hL := nlt (Nat.le_of_lt (pTake_lt hs)) hL
  refine sV hf rfl (ex_fd (k := 1) hf rfl (by kernel_rfl) rfl) fun a hf => ?_
  obtain ⟨w77, b78, he, hB79, hx80, eb81, lb82⟩ := ef_bslice (P := Try.prog) (ps := [(0, (.tmp 66))]) (m := 1) (sz := 1) (z := [.string ⟨([] : List UInt8).toArray⟩]) hf rfl Try.underlying23 (by kernel_rfl) (by kernel_rfl) rfl rfl (by kernel_rfl) rfl w76 23
  refine sV hf rfl he fun a hf => ?_
  have ne_b3_b78 : b3 ≠ b78 := ne_new hB4.lt eb81
  have ne_b12_b78 : b12 ≠ b78 := ne_new hB18.lt eb81
  have ne_p_b78 : p ≠ b78 := ne_new hP.lt eb81
  have ge_b78 := ge_new hE eb81
  have hH_b78 : H ≤ b78 := by have := hP.le; have := hP.lt; omega
  replace hB4 := hB4.c0 hx80
  replace hB18 := hB18.c0 hx80
  replace hP := hP.chg hx80 all0
  replace hE := hE.t0 hx80
  clear eb81 lb82
  refine sV hf rfl (ex_bd (ps := [(0, (.tmp 62)), (1, (.tmp 63)), (2, (.tmp 67))]) (z := zT) (os := [0, 1, 2]) hf rfl (by kernel_rfl) (by kernel_rfl) (by kernel_rfl) rfl rfl) fun a hf => ?_
  obtain ⟨w83, he, hB84, hx85⟩ := eN (.tmp 2) (.tmp 68) hf rfl rfl rfl rfl hB4 rfl 0
  refine st_s hf rfl rfl he fun a hf => ?_
  replace hB18 := hB18.chg hx85 (nmc (Ne.symm ne_b3_b12) nm0)
  replace hB79 := hB79.chg hx85 (nmc (Ne.symm ne_b3_b78) nm0)
  replace hP := hP.chg hx85 (allc ⟨hH_b3, ne_p_b3⟩ all0)
  replace hE := hE.trans hx85 (allc (.inr ge_b3) all0)
  clear hB4
  refine sN <| hK74 _ _ <| wp_ret ?_
  rw [hq]
  try simp only [Exit.then, Exit.inBlock]
  exact ret_of (rs := [.cell 2 26]) hf rfl ⟨_, _, _, _, 4, rfl, rfl, by kernel_rfl, hB84, rfl, rfl⟩ ⟨_, _, _, _, rfl, tree_mk (Nat.le_refl _) (maxLen_ge rfl) (Nat.le_refl _) (maxLen_ge rfl) (RowIn.of_blk hB79 ge_b78 rfl) kids_none RowIn.none_, hP, hE, hL⟩
theorem unit_list {H p n : Nat} {s : PS} {w : World} (ih : ExprOk n) (hP : PAt H w p s) (hn : s.toks.length < n + 1) (hk : ¬ ((pNext s).kind = 1 ∨ (pNext s).kind = 3)) (h1 : ¬ (pNext s).text = wTrue) (h2 : ¬ (pNext s).text = wFalse) (h3 : ¬ (pNext s).text = [63]) (h4 : (pNext s).text = [91]) : Calls Try.prog 104 [.pointer (some ⟨p, 0, none⟩)].toArray w (TreePost w H p s (unitF (exprT n) s)) := by
  obtain ⟨t, r, hs, hnx⟩ := pNext_cons (s := s) (.inl (by rw [h4]; decide))
  have htl := pTake_lt hs
  have hq : unitF (exprT n) s = _ := unitF_list hk h1 h2 h3 h4
  refine enter_fr 69 Try.func104 rfl rfl rfl ?_
  intro a hf
  have hE := Chg.refl [p] w
  have hL := Nat.le_refl s.toks.length
  refine wS fun K1 hK1 => wR ?_
  obtain ⟨w2, b3, he, hB4, hx5, eb6, lb7⟩ := eT a w 0
  refine sV hf rfl he fun a hf => ?_
  have ne_p_b3 : p ≠ b3 := ne_new hP.lt eb6
  have ge_b3 := ge_new hE eb6
  have hH_b3 : H ≤ b3 := by have := hP.le; have := hP.lt; omega
  replace hP := hP.chg hx5 all0
  replace hE := hE.t0 hx5
  clear eb6 lb7
  refine sN <| hK1 _ _ <| wS fun K8 hK8 => wR <| sM hf rfl rfl fun a hf => st_c hf rfl rfl rfl (by kernel_rfl) (pNextL hP) ?_
  rintro _ w10 ⟨rfl, hP, hx9⟩
  refine ⟨_, rfl, fun a hf => ?_⟩
  replace hB4 := hB4.c0 hx9
  replace hE := hE.t0 hx9
  obtain ⟨w11, b12, he, hB13, hx14, eb15, lb16⟩ := ef_alloc (P := Try.prog) (t := 49) [.int .i64 0, .string ⟨([] : List UInt8).toArray⟩, .string ⟨([] : List UInt8).toArray⟩] (by kernel_rfl) a w10 0
  refine sV hf rfl he fun a hf => ?_
  have ne_b3_b12 : b3 ≠ b12 := ne_new hB4.lt eb15
  have ne_p_b12 : p ≠ b12 := ne_new hP.lt eb15
  have ge_b12 := ge_new hE eb15
  have hH_b12 : H ≤ b12 := by have := hP.le; have := hP.lt; omega
  replace hB4 := hB4.c0 hx14
  replace hP := hP.chg hx14 all0
  replace hE := hE.t0 hx14
  clear eb15 lb16
  obtain ⟨w17, he, hB18, hx19⟩ := ef_storeN (P := Try.prog) (t := 49) (x := (.tmp 3)) (y := (.tmp 8)) (m := 3) hf rfl rfl (by kernel_rfl) rfl rfl hB13 rfl 0
  refine st_s hf rfl rfl he fun a hf => ?_
  replace hB4 := hB4.chg hx19 (nmc ne_b3_b12 nm0)
  replace hP := hP.chg hx19 (allc ⟨hH_b12, ne_p_b12⟩ all0)
  replace hE := hE.trans hx19 (allc (.inr ge_b12) all0)
  clear hB13
  refine sN <| hK8 _ _ <| wS fun K20 hK20 => ?_
  have s_hB18 := hB18
  refine dl_start (fun x => x.cell? ⟨b12, 2, none⟩ = w17.cell? ⟨b12, 2, none⟩) 4 4 rfl (by kernel_rfl) (by kernel_rfl) ?_
  intro w21 hx22 hsel
  replace hB4 := hB4.c0 hx22
  replace hB18 := hB18.c0 hx22
  replace hP := hP.chg hx22 all0
  replace hE := hE.t0 hx22
  have hS0 := hB18.same s_hB18 2
  refine dV 0 rfl rfl hsel (by kernel_rfl) hf rfl (.inl hS0) (fun x => ex_fa (k := 2) (r := 2) hf rfl (by kernel_rfl) rfl) fun a hf => dL 1 rfl rfl hsel (by kernel_rfl) hf rfl hS0 (fun x hS => ex_load hf rfl (by kernel_rfl) (hS.trans ((s_hB18.cell 2).trans rfl))) fun a hf => dV 2 rfl rfl hsel (by kernel_rfl) hf rfl (.inl hS0) (fun x => ex_assign hf rfl) fun a hf => dV 3 rfl rfl hsel (by kernel_rfl) hf rfl (.inl hS0) (fun x => ex_assign hf rfl) fun a hf => dl_done (by kernel_rfl) ?_
  clear hS0 hsel
  refine hK20 _ _ <| wS fun K23 hK23 => wS fun K24 hK24 => wR <| sV hf rfl (ex_fa (k := 0) (r := 0) hf rfl (by kernel_rfl) rfl) fun a hf => sV hf rfl (ex_loadB hf rfl (by kernel_rfl) hB18 rfl) fun a hf => sN <| hK24 _ _ <| wp_block <| wS fun K25 hK25 => wR <| st_b hf rfl rfl (fun c hc => ex_eqI hf rfl rfl hc) ?_ ?_
  clear hf a; intro hk5 a hf
  refine sA hf rfl rfl fun a hf => sN <| hK25 _ _ <| cT hf rfl <| wR <| sA hf rfl rfl fun a hf => sN <| hK23 _ _ <| wS fun K26 hK26 => wS fun K27 hK27 => wR <| sV hf rfl (ex_fa (k := 2) (r := 2) hf rfl (by kernel_rfl) rfl) fun a hf => sV hf rfl (ex_loadB hf rfl (by kernel_rfl) hB18 rfl) fun a hf => sN <| hK27 _ _ <| wp_block <| wS fun K28 hK28 => wR <| sV hf rfl (ex_eqS (c := false) hf rfl rfl (beqF h1)) fun a hf => sA hf rfl rfl fun a hf => sN <| hK28 _ _ <| cF hf rfl <| wS fun K29 hK29 => wR <| sV hf rfl (ex_eqS (c := false) hf rfl rfl (beqF h2)) fun a hf => sA hf rfl rfl fun a hf => sN <| hK29 _ _ <| cF hf rfl <| wS fun K30 hK30 => wR <| sV hf rfl (ex_eqS (c := false) hf rfl rfl (beqF h3)) fun a hf => sA hf rfl rfl fun a hf => sN <| hK30 _ _ <| cF hf rfl <| wS fun K31 hK31 => wR <| sV hf rfl (ex_eqS (c := true) hf rfl rfl (beqT h4)) fun a hf => sA hf rfl rfl fun a hf => sN <| hK31 _ _ <| cT hf rfl <| wS fun K32 hK32 => wR <| sM hf rfl rfl fun a hf => ?_
  have plt33 := hP.lt
  refine st_c hf rfl rfl rfl (by kernel_rfl) (listL ih hP hn h4) ?_
  rintro _ w34 ⟨c33_0, c33_1, c33_2, c33_3, rfl, hT33, hP, hx33, hl33⟩
  refine ⟨_, rfl, fun a hf => ?_⟩
  obtain ⟨lo35, elo35⟩ : ∃ x, x = w21.heap.size := ⟨_, rfl⟩
  obtain ⟨hi35, ehi35⟩ : ∃ x, x = w34.heap.size := ⟨_, rfl⟩
  replace hT33 := hT33.within elo35 ehi35
  have hle35 : hi35 ≤ w34.heap.size := Nat.le_of_eq ehi35
  have ge_lo35 : w.heap.size ≤ lo35 := elo35 ▸ hE.size
  have tb_lo35_b3 : b3 < lo35 := elo35 ▸ hB4.lt
  have tb_lo35_b12 : b12 < lo35 := elo35 ▸ hB18.lt
  have tb_lo35_p : p < lo35 := elo35 ▸ plt33
  clear elo35 ehi35
  clear plt33
  have on_hT33 := hT33.one
  replace hB4 := hB4.chg hx33 (nmc (Ne.symm ne_p_b3) nm0)
  replace hB18 := hB18.chg hx33 (nmc (Ne.symm ne_p_b12) nm0)
  replace hE := hE.trans hx33 (allc (.inl (by simp)) all0)
  replace hL := nlt hl33 hL
  obtain ⟨w36, he, hB37, hx38⟩ := eN (.tmp 2) (.tmp 33) hf rfl rfl rfl on_hT33 hB4 rfl 0
  refine st_s hf rfl rfl he fun a hf => ?_
  replace hB18 := hB18.chg hx38 (nmc (Ne.symm ne_b3_b12) nm0)
  replace hP := hP.chg hx38 (allc ⟨hH_b3, ne_p_b3⟩ all0)
  replace hT33 := hT33.chg hx38 (fun b hb _ => (nmc (by omega) nm0))
  replace hle35 := nlt hle35 hx38.size
  replace hE := hE.trans hx38 (allc (.inr ge_b3) all0)
  clear hB4
  refine sN <| hK32 _ _ <| wp_ret ?_
  rw [hq]
  try simp only [Exit.then, Exit.inBlock]
  exact ret_of (rs := [.cell 2 26]) hf rfl ⟨_, _, _, _, 4, rfl, rfl, by kernel_rfl, hB37, rfl, rfl⟩ ⟨_, _, _, _, rfl, (hT33.mono (fun b hb => by omega)), hP, hE, hL⟩
  clear hf a; intro hk5 a hf
  refine sA hf rfl rfl fun a hf => sN <| hK25 _ _ <| cF hf rfl <| wS fun K39 hK39 => wR <| st_b hf rfl rfl (fun c hc => ex_eqI hf rfl rfl hc) ?_ ?_
  clear hf a; intro hk6 a hf
  refine sA hf rfl rfl fun a hf => sN <| hK39 _ _ <| cT hf rfl <| wR <| sA hf rfl rfl fun a hf => sN <| hK23 _ _ <| wS fun K40 hK40 => wS fun K41 hK41 => wR <| sV hf rfl (ex_fa (k := 2) (r := 2) hf rfl (by kernel_rfl) rfl) fun a hf => sV hf rfl (ex_loadB hf rfl (by kernel_rfl) hB18 rfl) fun a hf => sN <| hK41 _ _ <| wp_block <| wS fun K42 hK42 => wR <| sV hf rfl (ex_eqS (c := false) hf rfl rfl (beqF h1)) fun a hf => sA hf rfl rfl fun a hf => sN <| hK42 _ _ <| cF hf rfl <| wS fun K43 hK43 => wR <| sV hf rfl (ex_eqS (c := false) hf rfl rfl (beqF h2)) fun a hf => sA hf rfl rfl fun a hf => sN <| hK43 _ _ <| cF hf rfl <| wS fun K44 hK44 => wR <| sV hf rfl (ex_eqS (c := false) hf rfl rfl (beqF h3)) fun a hf => sA hf rfl rfl fun a hf => sN <| hK44 _ _ <| cF hf rfl <| wS fun K45 hK45 => wR <| sV hf rfl (ex_eqS (c := true) hf rfl rfl (beqT h4)) fun a hf => sA hf rfl rfl fun a hf => sN <| hK45 _ _ <| cT hf rfl <| wS fun K46 hK46 => wR <| sM hf rfl rfl fun a hf => ?_
  have plt47 := hP.lt
  refine st_c hf rfl rfl rfl (by kernel_rfl) (listL ih hP hn h4) ?_
  rintro _ w48 ⟨c47_0, c47_1, c47_2, c47_3, rfl, hT47, hP, hx47, hl47⟩
  refine ⟨_, rfl, fun a hf => ?_⟩
  obtain ⟨lo49, elo49⟩ : ∃ x, x = w21.heap.size := ⟨_, rfl⟩
  obtain ⟨hi49, ehi49⟩ : ∃ x, x = w48.heap.size := ⟨_, rfl⟩
  replace hT47 := hT47.within elo49 ehi49
  have hle49 : hi49 ≤ w48.heap.size := Nat.le_of_eq ehi49
  have ge_lo49 : w.heap.size ≤ lo49 := elo49 ▸ hE.size
  have tb_lo49_b3 : b3 < lo49 := elo49 ▸ hB4.lt
  have tb_lo49_b12 : b12 < lo49 := elo49 ▸ hB18.lt
  have tb_lo49_p : p < lo49 := elo49 ▸ plt47
  clear elo49 ehi49
  clear plt47
  have on_hT47 := hT47.one
  replace hB4 := hB4.chg hx47 (nmc (Ne.symm ne_p_b3) nm0)
  replace hB18 := hB18.chg hx47 (nmc (Ne.symm ne_p_b12) nm0)
  replace hE := hE.trans hx47 (allc (.inl (by simp)) all0)
  replace hL := nlt hl47 hL
  obtain ⟨w50, he, hB51, hx52⟩ := eN (.tmp 2) (.tmp 33) hf rfl rfl rfl on_hT47 hB4 rfl 0
  refine st_s hf rfl rfl he fun a hf => ?_
  replace hB18 := hB18.chg hx52 (nmc (Ne.symm ne_b3_b12) nm0)
  replace hP := hP.chg hx52 (allc ⟨hH_b3, ne_p_b3⟩ all0)
  replace hT47 := hT47.chg hx52 (fun b hb _ => (nmc (by omega) nm0))
  replace hle49 := nlt hle49 hx52.size
  replace hE := hE.trans hx52 (allc (.inr ge_b3) all0)
  clear hB4
  refine sN <| hK46 _ _ <| wp_ret ?_
  rw [hq]
  try simp only [Exit.then, Exit.inBlock]
  exact ret_of (rs := [.cell 2 26]) hf rfl ⟨_, _, _, _, 4, rfl, rfl, by kernel_rfl, hB51, rfl, rfl⟩ ⟨_, _, _, _, rfl, (hT47.mono (fun b hb => by omega)), hP, hE, hL⟩
  clear hf a; intro hk6 a hf
  refine sA hf rfl rfl fun a hf => sN <| hK39 _ _ <| cF hf rfl <| wS fun K53 hK53 => wS fun K54 hK54 => wR <| sV hf rfl (ex_eqI (c := false) hf rfl rfl (iEqF (fun h => hk (.inl h)))) fun a hf => sA hf rfl rfl fun a hf => sN <| hK54 _ _ <| cF hf rfl <| wR <| sV hf rfl (ex_eqI (c := false) hf rfl rfl (iEqF (fun h => hk (.inr h)))) fun a hf => sA hf rfl rfl fun a hf => sN <| hK53 _ _ <| cF hf rfl <| wp_skip <| hK23 _ _ <| wS fun K55 hK55 => wS fun K56 hK56 => wR <| sV hf rfl (ex_fa (k := 2) (r := 2) hf rfl (by kernel_rfl) rfl) fun a hf => sV hf rfl (ex_loadB hf rfl (by kernel_rfl) hB18 rfl) fun a hf => sN <| hK56 _ _ <| wp_block <| wS fun K57 hK57 => wR <| sV hf rfl (ex_eqS (c := false) hf rfl rfl (beqF h1)) fun a hf => sA hf rfl rfl fun a hf => sN <| hK57 _ _ <| cF hf rfl <| wS fun K58 hK58 => wR <| sV hf rfl (ex_eqS (c := false) hf rfl rfl (beqF h2)) fun a hf => sA hf rfl rfl fun a hf => sN <| hK58 _ _ <| cF hf rfl <| wS fun K59 hK59 => wR <| sV hf rfl (ex_eqS (c := false) hf rfl rfl (beqF h3)) fun a hf => sA hf rfl rfl fun a hf => sN <| hK59 _ _ <| cF hf rfl <| wS fun K60 hK60 => wR <| sV hf rfl (ex_eqS (c := true) hf rfl rfl (beqT h4)) fun a hf => sA hf rfl rfl fun a hf => sN <| hK60 _ _ <| cT hf rfl <| wS fun K61 hK61 => wR <| sM hf rfl rfl fun a hf => ?_
  have plt62 := hP.lt
  refine st_c hf rfl rfl rfl (by kernel_rfl) (listL ih hP hn h4) ?_
  rintro _ w63 ⟨c62_0, c62_1, c62_2, c62_3, rfl, hT62, hP, hx62, hl62⟩
  refine ⟨_, rfl, fun a hf => ?_⟩
  obtain ⟨lo64, elo64⟩ : ∃ x, x = w21.heap.size := ⟨_, rfl⟩
  obtain ⟨hi64, ehi64⟩ : ∃ x, x = w63.heap.size := ⟨_, rfl⟩
  replace hT62 := hT62.within elo64 ehi64
  have hle64 : hi64 ≤ w63.heap.size := Nat.le_of_eq ehi64
  have ge_lo64 : w.heap.size ≤ lo64 := elo64 ▸ hE.size
  have tb_lo64_b3 : b3 < lo64 := elo64 ▸ hB4.lt
  have tb_lo64_b12 : b12 < lo64 := elo64 ▸ hB18.lt
  have tb_lo64_p : p < lo64 := elo64 ▸ plt62
  clear elo64 ehi64
  clear plt62
  have on_hT62 := hT62.one
  replace hB4 := hB4.chg hx62 (nmc (Ne.symm ne_p_b3) nm0)
  replace hB18 := hB18.chg hx62 (nmc (Ne.symm ne_p_b12) nm0)
  replace hE := hE.trans hx62 (allc (.inl (by simp)) all0)
  replace hL := nlt hl62 hL
  obtain ⟨w65, he, hB66, hx67⟩ := eN (.tmp 2) (.tmp 33) hf rfl rfl rfl on_hT62 hB4 rfl 0
  refine st_s hf rfl rfl he fun a hf => ?_
  replace hB18 := hB18.chg hx67 (nmc (Ne.symm ne_b3_b12) nm0)
  replace hP := hP.chg hx67 (allc ⟨hH_b3, ne_p_b3⟩ all0)
  replace hT62 := hT62.chg hx67 (fun b hb _ => (nmc (by omega) nm0))
  replace hle64 := nlt hle64 hx67.size
  replace hE := hE.trans hx67 (allc (.inr ge_b3) all0)
  clear hB4
  refine sN <| hK61 _ _ <| wp_ret ?_
  rw [hq]
  try simp only [Exit.then, Exit.inBlock]
  exact ret_of (rs := [.cell 2 26]) hf rfl ⟨_, _, _, _, 4, rfl, rfl, by kernel_rfl, hB66, rfl, rfl⟩ ⟨_, _, _, _, rfl, (hT62.mono (fun b hb => by omega)), hP, hE, hL⟩
theorem unit_paren {H p n : Nat} {s : PS} {w : World} (ih : ExprOk n) (hP : PAt H w p s) (hn : s.toks.length < n + 1) (hk : ¬ ((pNext s).kind = 1 ∨ (pNext s).kind = 3)) (h1 : ¬ (pNext s).text = wTrue) (h2 : ¬ (pNext s).text = wFalse) (h3 : ¬ (pNext s).text = [63]) (h4 : ¬ (pNext s).text = [91]) (h5 : (pNext s).text = [40]) : Calls Try.prog 104 [.pointer (some ⟨p, 0, none⟩)].toArray w (TreePost w H p s (unitF (exprT n) s)) := by
  obtain ⟨t, r, hs, hnx⟩ := pNext_cons (s := s) (.inl (by rw [h5]; decide))
  have htl := pTake_lt hs
  have hq : unitF (exprT n) s = _ := unitF_paren hk h1 h2 h3 h4 h5
  simp only [parenF, hnx] at hq
  refine enter_fr 69 Try.func104 rfl rfl rfl ?_
  intro a hf
  have hE := Chg.refl [p] w
  have hL := Nat.le_refl s.toks.length
  refine wS fun K1 hK1 => wR ?_
  obtain ⟨w2, b3, he, hB4, hx5, eb6, lb7⟩ := eT a w 0
  refine sV hf rfl he fun a hf => ?_
  have ne_p_b3 : p ≠ b3 := ne_new hP.lt eb6
  have ge_b3 := ge_new hE eb6
  have hH_b3 : H ≤ b3 := by have := hP.le; have := hP.lt; omega
  replace hP := hP.chg hx5 all0
  replace hE := hE.t0 hx5
  clear eb6 lb7
  refine sN <| hK1 _ _ <| wS fun K8 hK8 => wR <| sM hf rfl rfl fun a hf => st_c hf rfl rfl rfl (by kernel_rfl) (pNextL hP) ?_
  rintro _ w10 ⟨rfl, hP, hx9⟩
  refine ⟨_, rfl, fun a hf => ?_⟩
  replace hB4 := hB4.c0 hx9
  replace hE := hE.t0 hx9
  obtain ⟨w11, b12, he, hB13, hx14, eb15, lb16⟩ := ef_alloc (P := Try.prog) (t := 49) [.int .i64 0, .string ⟨([] : List UInt8).toArray⟩, .string ⟨([] : List UInt8).toArray⟩] (by kernel_rfl) a w10 0
  refine sV hf rfl he fun a hf => ?_
  have ne_b3_b12 : b3 ≠ b12 := ne_new hB4.lt eb15
  have ne_p_b12 : p ≠ b12 := ne_new hP.lt eb15
  have ge_b12 := ge_new hE eb15
  have hH_b12 : H ≤ b12 := by have := hP.le; have := hP.lt; omega
  replace hB4 := hB4.c0 hx14
  replace hP := hP.chg hx14 all0
  replace hE := hE.t0 hx14
  clear eb15 lb16
  obtain ⟨w17, he, hB18, hx19⟩ := ef_storeN (P := Try.prog) (t := 49) (x := (.tmp 3)) (y := (.tmp 8)) (m := 3) hf rfl rfl (by kernel_rfl) rfl rfl hB13 rfl 0
  refine st_s hf rfl rfl he fun a hf => ?_
  replace hB4 := hB4.chg hx19 (nmc ne_b3_b12 nm0)
  replace hP := hP.chg hx19 (allc ⟨hH_b12, ne_p_b12⟩ all0)
  replace hE := hE.trans hx19 (allc (.inr ge_b12) all0)
  clear hB13
  refine sN <| hK8 _ _ <| wS fun K20 hK20 => ?_
  have s_hB18 := hB18
  refine dl_start (fun x => x.cell? ⟨b12, 2, none⟩ = w17.cell? ⟨b12, 2, none⟩) 4 4 rfl (by kernel_rfl) (by kernel_rfl) ?_
  intro w21 hx22 hsel
  replace hB4 := hB4.c0 hx22
  replace hB18 := hB18.c0 hx22
  replace hP := hP.chg hx22 all0
  replace hE := hE.t0 hx22
  have hS0 := hB18.same s_hB18 2
  refine dV 0 rfl rfl hsel (by kernel_rfl) hf rfl (.inl hS0) (fun x => ex_fa (k := 2) (r := 2) hf rfl (by kernel_rfl) rfl) fun a hf => dL 1 rfl rfl hsel (by kernel_rfl) hf rfl hS0 (fun x hS => ex_load hf rfl (by kernel_rfl) (hS.trans ((s_hB18.cell 2).trans rfl))) fun a hf => dV 2 rfl rfl hsel (by kernel_rfl) hf rfl (.inl hS0) (fun x => ex_assign hf rfl) fun a hf => dV 3 rfl rfl hsel (by kernel_rfl) hf rfl (.inl hS0) (fun x => ex_assign hf rfl) fun a hf => dl_done (by kernel_rfl) ?_
  clear hS0 hsel
  refine hK20 _ _ <| wS fun K23 hK23 => wS fun K24 hK24 => wR <| sV hf rfl (ex_fa (k := 0) (r := 0) hf rfl (by kernel_rfl) rfl) fun a hf => sV hf rfl (ex_loadB hf rfl (by kernel_rfl) hB18 rfl) fun a hf => sN <| hK24 _ _ <| wp_block <| wS fun K25 hK25 => wR <| st_b hf rfl rfl (fun c hc => ex_eqI hf rfl rfl hc) ?_ ?_
  clear hf a; intro hk5 a hf
  refine sA hf rfl rfl fun a hf => sN <| hK25 _ _ <| cT hf rfl <| wR <| sA hf rfl rfl fun a hf => sN <| hK23 _ _ <| wS fun K26 hK26 => wS fun K27 hK27 => wR <| sV hf rfl (ex_fa (k := 2) (r := 2) hf rfl (by kernel_rfl) rfl) fun a hf => sV hf rfl (ex_loadB hf rfl (by kernel_rfl) hB18 rfl) fun a hf => sN <| hK27 _ _ <| wp_block <| wS fun K28 hK28 => wR <| sV hf rfl (ex_eqS (c := false) hf rfl rfl (beqF h1)) fun a hf => sA hf rfl rfl fun a hf => sN <| hK28 _ _ <| cF hf rfl <| wS fun K29 hK29 => wR <| sV hf rfl (ex_eqS (c := false) hf rfl rfl (beqF h2)) fun a hf => sA hf rfl rfl fun a hf => sN <| hK29 _ _ <| cF hf rfl <| wS fun K30 hK30 => wR <| sV hf rfl (ex_eqS (c := false) hf rfl rfl (beqF h3)) fun a hf => sA hf rfl rfl fun a hf => sN <| hK30 _ _ <| cF hf rfl <| wS fun K31 hK31 => wR <| sV hf rfl (ex_eqS (c := false) hf rfl rfl (beqF h4)) fun a hf => sA hf rfl rfl fun a hf => sN <| hK31 _ _ <| cF hf rfl <| wS fun K32 hK32 => wR <| sV hf rfl (ex_eqS (c := true) hf rfl rfl (beqT h5)) fun a hf => sA hf rfl rfl fun a hf => sN <| hK32 _ _ <| cT hf rfl <| wS fun K33 hK33 => wR ?_
  obtain ⟨w34, b35, he, hB36, hx37, eb38, lb39⟩ := ef_make (P := Try.prog) (m := 2) (x := (.const (.int .i64 2))) (y := (.const (.int .i64 2))) (z := .string ⟨([] : List UInt8).toArray⟩) (sz := 1) (by_ := 16) (cs := [.string ⟨([] : List UInt8).toArray⟩, .string ⟨([] : List UInt8).toArray⟩]) hf rfl rfl Try.underlying23 (by kernel_rfl) (by kernel_rfl) (by kernel_rfl) (by kernel_rfl) w21 23
  refine sV hf rfl he fun a hf => ?_
  have ne_b3_b35 : b3 ≠ b35 := ne_new hB4.lt eb38
  have ne_b12_b35 : b12 ≠ b35 := ne_new hB18.lt eb38
  have ne_p_b35 : p ≠ b35 := ne_new hP.lt eb38
  have ge_b35 := ge_new hE eb38
  have hH_b35 : H ≤ b35 := by have := hP.le; have := hP.lt; omega
  replace hB4 := hB4.c0 hx37
  replace hB18 := hB18.c0 hx37
  replace hP := hP.chg hx37 all0
  replace hE := hE.t0 hx37
  clear eb38 lb39
  refine sV hf rfl (ex_bd (ps := [(0, (.const (.int .i64 22))), (2, (.tmp 36))]) (z := zT) (os := [0, 2]) hf rfl (by kernel_rfl) (by kernel_rfl) (by kernel_rfl) rfl rfl) fun a hf => ?_
  obtain ⟨w40, b41, he, hB42, hx43, eb44, lb45⟩ := eT a w34 0
  refine sV hf rfl he fun a hf => ?_
  have ne_b3_b41 : b3 ≠ b41 := ne_new hB4.lt eb44
  have ne_b12_b41 : b12 ≠ b41 := ne_new hB18.lt eb44
  have ne_b35_b41 : b35 ≠ b41 := ne_new hB36.lt eb44
  have ne_p_b41 : p ≠ b41 := ne_new hP.lt eb44
  have ge_b41 := ge_new hE eb44
  have hH_b41 : H ≤ b41 := by have := hP.le; have := hP.lt; omega
  replace hB4 := hB4.c0 hx43
  replace hB18 := hB18.c0 hx43
  replace hB36 := hB36.c0 hx43
  replace hP := hP.chg hx43 all0
  replace hE := hE.t0 hx43
  clear eb44 lb45
  obtain ⟨w46, he, hB47, hx48⟩ := eN (.tmp 6) (.tmp 37) hf rfl rfl rfl rfl hB42 rfl 0
  refine st_s hf rfl rfl he fun a hf => ?_
  replace hB4 := hB4.chg hx48 (nmc ne_b3_b41 nm0)
  replace hB18 := hB18.chg hx48 (nmc ne_b12_b41 nm0)
  replace hB36 := hB36.chg hx48 (nmc ne_b35_b41 nm0)
  replace hP := hP.chg hx48 (allc ⟨hH_b41, ne_p_b41⟩ all0)
  replace hE := hE.trans hx48 (allc (.inr ge_b41) all0)
  clear hB42
  refine sN <| hK33 _ _ <| wS fun K49 hK49 => ?_
  have s_hB47 := hB47
  refine dl_start (fun x => x.cell? ⟨b41, 2, none⟩ = w46.cell? ⟨b41, 2, none⟩) 7 7 rfl (by kernel_rfl) (by kernel_rfl) ?_
  intro w50 hx51 hsel
  replace hB4 := hB4.c0 hx51
  replace hB18 := hB18.c0 hx51
  replace hB36 := hB36.c0 hx51
  replace hB47 := hB47.c0 hx51
  replace hP := hP.chg hx51 all0
  replace hE := hE.t0 hx51
  have hS0 := hB47.same s_hB47 2
  refine dV 0 rfl rfl hsel (by kernel_rfl) hf rfl (.inl hS0) (fun x => ex_fa (k := 2) (r := 2) hf rfl (by kernel_rfl) rfl) fun a hf => dL 1 rfl rfl hsel (by kernel_rfl) hf rfl hS0 (fun x hS => ex_load hf rfl (by kernel_rfl) (hS.trans ((s_hB47.cell 2).trans rfl))) fun a hf => dM 2 rfl rfl hsel (by kernel_rfl) hf rfl hS0 rfl fun a hf => dl_c 3 (by kernel_rfl) rfl hf rfl rfl rfl (by kernel_rfl) (pTakeL hP hs) ?_
  rintro _ w53 ⟨rfl, hP, hx52⟩
  refine ⟨_, rfl, fun a hf => ?_⟩
  replace hB4 := hB4.chg hx52 (nmc (Ne.symm ne_p_b3) nm0)
  replace hB18 := hB18.chg hx52 (nmc (Ne.symm ne_p_b12) nm0)
  replace hB36 := hB36.chg hx52 (nmc (Ne.symm ne_p_b35) nm0)
  replace hB47 := hB47.chg hx52 (nmc (Ne.symm ne_p_b41) nm0)
  replace hE := hE.trans hx52 (allc (.inl (by simp)) all0)
  replace hL := Nat.le_refl (pTake s).toks.length
  clear hS0
  have hS0 := hB47.same s_hB47 2
  refine ⟨.inl hS0, ?_⟩
  refine dV 4 rfl rfl hsel (by kernel_rfl) hf rfl (.inl hS0) (fun x => ex_fd (k := 1) hf rfl (by kernel_rfl) rfl) fun a hf => dV 5 rfl rfl hsel (by kernel_rfl) hf rfl (.inl hS0) (fun x => ex_index (sz := 1) (k := 0) (r := 0) hf Try.underlying23 (by kernel_rfl) rfl rfl rfl (by first | decide | simp) rfl) fun a hf => ?_
  obtain ⟨w54, he, hB55, hx56⟩ := ef_store (P := Try.prog) (t := 9) (x := (.tmp 43)) (y := (.tmp 42)) hf rfl rfl (by kernel_rfl) rfl hB36 (Nat.le_of_ble_eq_true rfl) 0
  refine dl_s 6 (by kernel_rfl) rfl hf rfl rfl he fun a hf => ?_
  replace hB4 := hB4.chg hx56 (nmc ne_b3_b35 nm0)
  replace hB18 := hB18.chg hx56 (nmc ne_b12_b35 nm0)
  replace hB47 := hB47.chg hx56 (nmc (Ne.symm ne_b35_b41) nm0)
  replace hP := hP.chg hx56 (allc ⟨hH_b35, ne_p_b35⟩ all0)
  replace hE := hE.trans hx56 (allc (.inr ge_b35) all0)
  clear hB36
  clear hS0
  have hS0 := hB47.same s_hB47 2
  refine ⟨.inl hS0, ?_⟩
  refine dl_done (by kernel_rfl) ?_
  clear hS0 hsel
  refine hK49 _ _ <| wS fun K57 hK57 => ?_
  have s_hB47 := hB47
  refine dl_start (fun x => x.cell? ⟨b41, 3, none⟩ = w54.cell? ⟨b41, 3, none⟩) 7 8 rfl (by kernel_rfl) (by kernel_rfl) ?_
  intro w58 hx59 hsel
  replace hB4 := hB4.c0 hx59
  replace hB18 := hB18.c0 hx59
  replace hB55 := hB55.c0 hx59
  replace hB47 := hB47.c0 hx59
  replace hP := hP.chg hx59 all0
  replace hE := hE.t0 hx59
  have hS0 := hB47.same s_hB47 3
  refine dV 0 rfl rfl hsel (by kernel_rfl) hf rfl (.inl hS0) (fun x => ex_fa (k := 3) (r := 3) hf rfl (by kernel_rfl) rfl) fun a hf => dL 1 rfl rfl hsel (by kernel_rfl) hf rfl hS0 (fun x hS => ex_load hf rfl (by kernel_rfl) (hS.trans ((s_hB47.cell 3).trans rfl))) fun a hf => dM 2 rfl rfl hsel (by kernel_rfl) hf rfl hS0 rfl fun a hf => ?_
  have plt60 := hP.lt
  refine dl_c 3 (by kernel_rfl) rfl hf rfl rfl rfl (by kernel_rfl) (ih _ _ _ _ hP (by omega)) ?_
  rintro _ w61 ⟨c60_0, c60_1, c60_2, c60_3, rfl, hT60, hP, hx60, hl60⟩
  refine ⟨_, rfl, fun a hf => ?_⟩
  obtain ⟨lo62, elo62⟩ : ∃ x, x = w58.heap.size := ⟨_, rfl⟩
  obtain ⟨hi62, ehi62⟩ : ∃ x, x = w61.heap.size := ⟨_, rfl⟩
  replace hT60 := hT60.within elo62 ehi62
  have hle62 : hi62 ≤ w61.heap.size := Nat.le_of_eq ehi62
  have ge_lo62 : w.heap.size ≤ lo62 := elo62 ▸ hE.size
  have tb_lo62_b3 : b3 < lo62 := elo62 ▸ hB4.lt
  have tb_lo62_b12 : b12 < lo62 := elo62 ▸ hB18.lt
  have tb_lo62_b35 : b35 < lo62 := elo62 ▸ hB55.lt
  have tb_lo62_b41 : b41 < lo62 := elo62 ▸ hB47.lt
  have tb_lo62_p : p < lo62 := elo62 ▸ plt60
  clear elo62 ehi62
  clear plt60
  have on_hT60 := hT60.one
  replace hB4 := hB4.chg hx60 (nmc (Ne.symm ne_p_b3) nm0)
  replace hB18 := hB18.chg hx60 (nmc (Ne.symm ne_p_b12) nm0)
  replace hB55 := hB55.chg hx60 (nmc (Ne.symm ne_p_b35) nm0)
  replace hB47 := hB47.chg hx60 (nmc (Ne.symm ne_p_b41) nm0)
  replace hE := hE.trans hx60 (allc (.inl (by simp)) all0)
  replace hL := nlt hl60 hL
  clear hS0
  have hS0 := hB47.same s_hB47 3
  refine ⟨.inl hS0, ?_⟩
  obtain ⟨w63, b64, he, hB65, hx66, eb67, lb68⟩ := ef_bslice (P := Try.prog) (ps := [(0, (.tmp 47))]) (m := 1) (sz := 4) (z := zT) hf rfl Try.underlying24 (by kernel_rfl) (by kernel_rfl) rfl rfl (by kernel_rfl) rfl w61 24
  refine dl_e 4 (by kernel_rfl) rfl hf rfl rfl he fun a hf => ?_
  have ne_b3_b64 : b3 ≠ b64 := ne_new hB4.lt eb67
  have ne_b12_b64 : b12 ≠ b64 := ne_new hB18.lt eb67
  have ne_b35_b64 : b35 ≠ b64 := ne_new hB55.lt eb67
  have ne_b41_b64 : b41 ≠ b64 := ne_new hB47.lt eb67
  have ne_p_b64 : p ≠ b64 := ne_new hP.lt eb67
  have ta_hi62_b64 : hi62 ≤ b64 := eb67 ▸ hle62
  have ge_b64 := ge_new hE eb67
  have hH_b64 : H ≤ b64 := by have := hP.le; have := hP.lt; omega
  replace hB4 := hB4.c0 hx66
  replace hB18 := hB18.c0 hx66
  replace hB55 := hB55.c0 hx66
  replace hB47 := hB47.c0 hx66
  replace hP := hP.chg hx66 all0
  replace hT60 := hT60.chg hx66 (fun b hb _ => nm0)
  replace hle62 := nlt hle62 hx66.size
  replace hE := hE.t0 hx66
  clear eb67 lb68
  clear hS0
  have hS0 := hB47.same s_hB47 3
  refine ⟨.inl hS0, ?_⟩
  obtain ⟨g70, cap71, w69, he, hO72, hx73, hat74, hlt75⟩ := ef_append0 (P := Try.prog) (x := (.tmp 45)) (y := (.tmp 48)) (z := .agg zA) (sz := 4) (by_ := 72) hf rfl rfl Try.underlying24 (by kernel_rfl) rfl rfl (World.ownsRow_nil w63 w.heap.size 26 4) hB65 rfl on_hT60 rfl (by simp only [maxLen]; omega) (by omega) (hE.size) 24
  refine dl_e 5 (by kernel_rfl) rfl hf rfl rfl he fun a hf => ?_
  have ne_b3_g70 : b3 ≠ g70 := by have := hB4.lt; omega
  have ne_b12_g70 : b12 ≠ g70 := by have := hB18.lt; omega
  have ne_b35_g70 : b35 ≠ g70 := by have := hB55.lt; omega
  have ne_b41_g70 : b41 ≠ g70 := by have := hB47.lt; omega
  have ne_b64_g70 : b64 ≠ g70 := by have := hB65.lt; omega
  have ne_p_g70 : p ≠ g70 := by have := hP.lt; omega
  have ta_hi62_g70 : hi62 ≤ g70 ∨ g70 < lo62 := by have := hle62; omega
  have ge_g70 : w.heap.size ≤ g70 := own_gle hO72
  have hH_g70 : H ≤ g70 := by have := hP.le; have := hP.lt; omega
  replace hB4 := hB4.c0 hx73
  replace hB18 := hB18.c0 hx73
  replace hB55 := hB55.c0 hx73
  replace hB47 := hB47.c0 hx73
  replace hB65 := hB65.c0 hx73
  replace hP := hP.chg hx73 all0
  replace hT60 := hT60.chg hx73 (fun b hb _ => nm0)
  replace hle62 := nlt hle62 hx73.size
  replace hE := hE.t0 hx73
  clear hat74 hlt75
  clear hS0
  have hS0 := hB47.same s_hB47 3
  refine ⟨.inl hS0, ?_⟩
  refine dV 6 rfl rfl hsel (by kernel_rfl) hf rfl (.inl hS0) (fun x => ex_fa (k := 3) (r := 3) hf rfl (by kernel_rfl) rfl) fun a hf => ?_
  obtain ⟨w76, he, hB77, hx78⟩ := ef_store (P := Try.prog) (t := 24) (x := (.tmp 50)) (y := (.tmp 49)) hf rfl rfl (by kernel_rfl) rfl hB47 (Nat.le_of_ble_eq_true rfl) 0
  refine dl_s 7 (by kernel_rfl) rfl hf rfl rfl he fun a hf => ?_
  replace hB4 := hB4.chg hx78 (nmc ne_b3_b41 nm0)
  replace hB18 := hB18.chg hx78 (nmc ne_b12_b41 nm0)
  replace hB55 := hB55.chg hx78 (nmc ne_b35_b41 nm0)
  replace hB65 := hB65.chg hx78 (nmc (Ne.symm ne_b41_b64) nm0)
  replace hP := hP.chg hx78 (allc ⟨hH_b41, ne_p_b41⟩ all0)
  replace hT60 := hT60.chg hx78 (fun b hb _ => (nmc (by omega) nm0))
  replace hle62 := nlt hle62 hx78.size
  replace hO72 := own_gchg hO72 hx78 (nmc (Ne.symm ne_b41_g70) nm0)
  replace hE := hE.trans hx78 (allc (.inr ge_b41) all0)
  clear hB47
  refine ⟨.inr (by kernel_rfl), ?_⟩
  refine dl_done (by kernel_rfl) ?_
  clear hS0 hsel
  refine hK57 _ _ <| wS fun K79 hK79 => ?_
  have s_hB77 := hB77
  refine dl_start (fun x => x.cell? ⟨b41, 2, none⟩ = w76.cell? ⟨b41, 2, none⟩) 6 6 rfl (by kernel_rfl) (by kernel_rfl) ?_
  intro w80 hx81 hsel
  replace hB4 := hB4.c0 hx81
  replace hB18 := hB18.c0 hx81
  replace hB55 := hB55.c0 hx81
  replace hB77 := hB77.c0 hx81
  replace hB65 := hB65.c0 hx81
  replace hP := hP.chg hx81 all0
  replace hT60 := hT60.chg hx81 (fun b hb _ => nm0)
  replace hle62 := nlt hle62 hx81.size
  replace hO72 := own_gchg hO72 hx81 nm0
  replace hE := hE.t0 hx81
  have hS0 := hB77.same s_hB77 2
  refine dV 0 rfl rfl hsel (by kernel_rfl) hf rfl (.inl hS0) (fun x => ex_fa (k := 2) (r := 2) hf rfl (by kernel_rfl) rfl) fun a hf => dL 1 rfl rfl hsel (by kernel_rfl) hf rfl hS0 (fun x hS => ex_load hf rfl (by kernel_rfl) (hS.trans ((s_hB77.cell 2).trans rfl))) fun a hf => dM 2 rfl rfl hsel (by kernel_rfl) hf rfl hS0 rfl fun a hf => dl_c 3 (by kernel_rfl) rfl hf rfl rfl rfl (by kernel_rfl) (pWordL (x := [41]) hP (by decide)) ?_
  rintro _ w83 ⟨rfl, hP, hx82⟩
  refine ⟨_, rfl, fun a hf => ?_⟩
  replace hB4 := hB4.chg hx82 (nmc (Ne.symm ne_p_b3) nm0)
  replace hB18 := hB18.chg hx82 (nmc (Ne.symm ne_p_b12) nm0)
  replace hB55 := hB55.chg hx82 (nmc (Ne.symm ne_p_b35) nm0)
  replace hB77 := hB77.chg hx82 (nmc (Ne.symm ne_p_b41) nm0)
  replace hB65 := hB65.chg hx82 (nmc (Ne.symm ne_p_b64) nm0)
  replace hT60 := hT60.chg hx82 (fun b hb _ => (nmc (by omega) nm0))
  replace hle62 := nlt hle62 hx82.size
  replace hO72 := own_gchg hO72 hx82 (nmc (Ne.symm ne_p_g70) nm0)
  replace hE := hE.trans hx82 (allc (.inl (by simp)) all0)
  replace hL := nlt (pWord_len [41] _) hL
  clear hS0
  have hS0 := hB77.same s_hB77 2
  refine ⟨.inl hS0, ?_⟩
  refine dV 4 rfl rfl hsel (by kernel_rfl) hf rfl (.inl hS0) (fun x => ex_index (sz := 1) (k := 1) (r := 1) hf Try.underlying23 (by kernel_rfl) rfl rfl rfl (by first | decide | simp) rfl) fun a hf => ?_
  obtain ⟨w84, he, hB85, hx86⟩ := ef_store (P := Try.prog) (t := 9) (x := (.tmp 55)) (y := (.tmp 54)) hf rfl rfl (by kernel_rfl) rfl hB55 (Nat.le_of_ble_eq_true rfl) 0
  refine dl_s 5 (by kernel_rfl) rfl hf rfl rfl he fun a hf => ?_
  replace hB4 := hB4.chg hx86 (nmc ne_b3_b35 nm0)
  replace hB18 := hB18.chg hx86 (nmc ne_b12_b35 nm0)
  replace hB77 := hB77.chg hx86 (nmc (Ne.symm ne_b35_b41) nm0)
  replace hB65 := hB65.chg hx86 (nmc (Ne.symm ne_b35_b64) nm0)
  replace hP := hP.chg hx86 (allc ⟨hH_b35, ne_p_b35⟩ all0)
  replace hT60 := hT60.chg hx86 (fun b hb _ => (nmc (by omega) nm0))
  replace hle62 := nlt hle62 hx86.size
  replace hO72 := own_gchg hO72 hx86 (nmc (Ne.symm ne_b35_g70) nm0)
  replace hE := hE.trans hx86 (allc (.inr ge_b35) all0)
  clear hB55
  clear hS0
  have hS0 := hB77.same s_hB77 2
  refine ⟨.inl hS0, ?_⟩
  refine dl_done (by kernel_rfl) ?_
  clear hS0 hsel
  refine hK79 _ _ <| wS fun K87 hK87 => wR <| sV hf rfl (ex_loadBN (m := 4) hf rfl (by kernel_rfl) hB77 rfl) fun a hf => ?_
  obtain ⟨w88, he, hB89, hx90⟩ := eN (.tmp 2) (.tmp 56) hf rfl rfl rfl rfl hB4 rfl 0
  refine st_s hf rfl rfl he fun a hf => ?_
  replace hB18 := hB18.chg hx90 (nmc (Ne.symm ne_b3_b12) nm0)
  replace hB85 := hB85.chg hx90 (nmc (Ne.symm ne_b3_b35) nm0)
  replace hB77 := hB77.chg hx90 (nmc (Ne.symm ne_b3_b41) nm0)
  replace hB65 := hB65.chg hx90 (nmc (Ne.symm ne_b3_b64) nm0)
  replace hP := hP.chg hx90 (allc ⟨hH_b3, ne_p_b3⟩ all0)
  replace hT60 := hT60.chg hx90 (fun b hb _ => (nmc (by omega) nm0))
  replace hle62 := nlt hle62 hx90.size
  replace hO72 := own_gchg hO72 hx90 (nmc (Ne.symm ne_b3_g70) nm0)
  replace hE := hE.trans hx90 (allc (.inr ge_b3) all0)
  clear hB4
  refine sN <| hK87 _ _ <| wp_ret ?_
  rw [hq]
  try simp only [Exit.then, Exit.inBlock]
  exact ret_of (rs := [.cell 2 26]) hf rfl ⟨_, _, _, _, 4, rfl, rfl, by kernel_rfl, hB89, rfl, rfl⟩ ⟨_, _, _, _, rfl, tree_mk (Nat.le_refl _) (maxLen_ge rfl) (own_cap hO72).1 (own_cap hO72).2 (RowIn.of_blk hB85 ge_b35 rfl) (kids_one (hT60.mono (fun b hb => by omega))) (RowIn.of_own hO72), hP, hE, (nlt hL (pTake_len s))⟩
  clear hf a; intro hk5 a hf
  refine sA hf rfl rfl fun a hf => sN <| hK25 _ _ <| cF hf rfl <| wS fun K91 hK91 => wR <| st_b hf rfl rfl (fun c hc => ex_eqI hf rfl rfl hc) ?_ ?_
  clear hf a; intro hk6 a hf
  refine sA hf rfl rfl fun a hf => sN <| hK91 _ _ <| cT hf rfl <| wR <| sA hf rfl rfl fun a hf => sN <| hK23 _ _ <| wS fun K92 hK92 => wS fun K93 hK93 => wR <| sV hf rfl (ex_fa (k := 2) (r := 2) hf rfl (by kernel_rfl) rfl) fun a hf => sV hf rfl (ex_loadB hf rfl (by kernel_rfl) hB18 rfl) fun a hf => sN <| hK93 _ _ <| wp_block <| wS fun K94 hK94 => wR <| sV hf rfl (ex_eqS (c := false) hf rfl rfl (beqF h1)) fun a hf => sA hf rfl rfl fun a hf => sN <| hK94 _ _ <| cF hf rfl <| wS fun K95 hK95 => wR <| sV hf rfl (ex_eqS (c := false) hf rfl rfl (beqF h2)) fun a hf => sA hf rfl rfl fun a hf => sN <| hK95 _ _ <| cF hf rfl <| wS fun K96 hK96 => wR <| sV hf rfl (ex_eqS (c := false) hf rfl rfl (beqF h3)) fun a hf => sA hf rfl rfl fun a hf => sN <| hK96 _ _ <| cF hf rfl <| wS fun K97 hK97 => wR <| sV hf rfl (ex_eqS (c := false) hf rfl rfl (beqF h4)) fun a hf => sA hf rfl rfl fun a hf => sN <| hK97 _ _ <| cF hf rfl <| wS fun K98 hK98 => wR <| sV hf rfl (ex_eqS (c := true) hf rfl rfl (beqT h5)) fun a hf => sA hf rfl rfl fun a hf => sN <| hK98 _ _ <| cT hf rfl <| wS fun K99 hK99 => wR ?_
  obtain ⟨w100, b101, he, hB102, hx103, eb104, lb105⟩ := ef_make (P := Try.prog) (m := 2) (x := (.const (.int .i64 2))) (y := (.const (.int .i64 2))) (z := .string ⟨([] : List UInt8).toArray⟩) (sz := 1) (by_ := 16) (cs := [.string ⟨([] : List UInt8).toArray⟩, .string ⟨([] : List UInt8).toArray⟩]) hf rfl rfl Try.underlying23 (by kernel_rfl) (by kernel_rfl) (by kernel_rfl) (by kernel_rfl) w21 23
  refine sV hf rfl he fun a hf => ?_
  have ne_b3_b101 : b3 ≠ b101 := ne_new hB4.lt eb104
  have ne_b12_b101 : b12 ≠ b101 := ne_new hB18.lt eb104
  have ne_p_b101 : p ≠ b101 := ne_new hP.lt eb104
  have ge_b101 := ge_new hE eb104
  have hH_b101 : H ≤ b101 := by have := hP.le; have := hP.lt; omega
  replace hB4 := hB4.c0 hx103
  replace hB18 := hB18.c0 hx103
  replace hP := hP.chg hx103 all0
  replace hE := hE.t0 hx103
  clear eb104 lb105
  refine sV hf rfl (ex_bd (ps := [(0, (.const (.int .i64 22))), (2, (.tmp 36))]) (z := zT) (os := [0, 2]) hf rfl (by kernel_rfl) (by kernel_rfl) (by kernel_rfl) rfl rfl) fun a hf => ?_
  obtain ⟨w106, b107, he, hB108, hx109, eb110, lb111⟩ := eT a w100 0
  refine sV hf rfl he fun a hf => ?_
  have ne_b3_b107 : b3 ≠ b107 := ne_new hB4.lt eb110
  have ne_b12_b107 : b12 ≠ b107 := ne_new hB18.lt eb110
  have ne_b101_b107 : b101 ≠ b107 := ne_new hB102.lt eb110
  have ne_p_b107 : p ≠ b107 := ne_new hP.lt eb110
  have ge_b107 := ge_new hE eb110
  have hH_b107 : H ≤ b107 := by have := hP.le; have := hP.lt; omega
  replace hB4 := hB4.c0 hx109
  replace hB18 := hB18.c0 hx109
  replace hB102 := hB102.c0 hx109
  replace hP := hP.chg hx109 all0
  replace hE := hE.t0 hx109
  clear eb110 lb111
  obtain ⟨w112, he, hB113, hx114⟩ := eN (.tmp 6) (.tmp 37) hf rfl rfl rfl rfl hB108 rfl 0
  refine st_s hf rfl rfl he fun a hf => ?_
  replace hB4 := hB4.chg hx114 (nmc ne_b3_b107 nm0)
  replace hB18 := hB18.chg hx114 (nmc ne_b12_b107 nm0)
  replace hB102 := hB102.chg hx114 (nmc ne_b101_b107 nm0)
  replace hP := hP.chg hx114 (allc ⟨hH_b107, ne_p_b107⟩ all0)
  replace hE := hE.trans hx114 (allc (.inr ge_b107) all0)
  clear hB108
  refine sN <| hK99 _ _ <| wS fun K115 hK115 => ?_
  have s_hB113 := hB113
  refine dl_start (fun x => x.cell? ⟨b107, 2, none⟩ = w112.cell? ⟨b107, 2, none⟩) 7 7 rfl (by kernel_rfl) (by kernel_rfl) ?_
  intro w116 hx117 hsel
  replace hB4 := hB4.c0 hx117
  replace hB18 := hB18.c0 hx117
  replace hB102 := hB102.c0 hx117
  replace hB113 := hB113.c0 hx117
  replace hP := hP.chg hx117 all0
  replace hE := hE.t0 hx117
  have hS0 := hB113.same s_hB113 2
  refine dV 0 rfl rfl hsel (by kernel_rfl) hf rfl (.inl hS0) (fun x => ex_fa (k := 2) (r := 2) hf rfl (by kernel_rfl) rfl) fun a hf => dL 1 rfl rfl hsel (by kernel_rfl) hf rfl hS0 (fun x hS => ex_load hf rfl (by kernel_rfl) (hS.trans ((s_hB113.cell 2).trans rfl))) fun a hf => dM 2 rfl rfl hsel (by kernel_rfl) hf rfl hS0 rfl fun a hf => dl_c 3 (by kernel_rfl) rfl hf rfl rfl rfl (by kernel_rfl) (pTakeL hP hs) ?_
  rintro _ w119 ⟨rfl, hP, hx118⟩
  refine ⟨_, rfl, fun a hf => ?_⟩
  replace hB4 := hB4.chg hx118 (nmc (Ne.symm ne_p_b3) nm0)
  replace hB18 := hB18.chg hx118 (nmc (Ne.symm ne_p_b12) nm0)
  replace hB102 := hB102.chg hx118 (nmc (Ne.symm ne_p_b101) nm0)
  replace hB113 := hB113.chg hx118 (nmc (Ne.symm ne_p_b107) nm0)
  replace hE := hE.trans hx118 (allc (.inl (by simp)) all0)
  replace hL := Nat.le_refl (pTake s).toks.length
  clear hS0
  have hS0 := hB113.same s_hB113 2
  refine ⟨.inl hS0, ?_⟩
  refine dV 4 rfl rfl hsel (by kernel_rfl) hf rfl (.inl hS0) (fun x => ex_fd (k := 1) hf rfl (by kernel_rfl) rfl) fun a hf => dV 5 rfl rfl hsel (by kernel_rfl) hf rfl (.inl hS0) (fun x => ex_index (sz := 1) (k := 0) (r := 0) hf Try.underlying23 (by kernel_rfl) rfl rfl rfl (by first | decide | simp) rfl) fun a hf => ?_
  obtain ⟨w120, he, hB121, hx122⟩ := ef_store (P := Try.prog) (t := 9) (x := (.tmp 43)) (y := (.tmp 42)) hf rfl rfl (by kernel_rfl) rfl hB102 (Nat.le_of_ble_eq_true rfl) 0
  refine dl_s 6 (by kernel_rfl) rfl hf rfl rfl he fun a hf => ?_
  replace hB4 := hB4.chg hx122 (nmc ne_b3_b101 nm0)
  replace hB18 := hB18.chg hx122 (nmc ne_b12_b101 nm0)
  replace hB113 := hB113.chg hx122 (nmc (Ne.symm ne_b101_b107) nm0)
  replace hP := hP.chg hx122 (allc ⟨hH_b101, ne_p_b101⟩ all0)
  replace hE := hE.trans hx122 (allc (.inr ge_b101) all0)
  clear hB102
  clear hS0
  have hS0 := hB113.same s_hB113 2
  refine ⟨.inl hS0, ?_⟩
  refine dl_done (by kernel_rfl) ?_
  clear hS0 hsel
  refine hK115 _ _ <| wS fun K123 hK123 => ?_
  have s_hB113 := hB113
  refine dl_start (fun x => x.cell? ⟨b107, 3, none⟩ = w120.cell? ⟨b107, 3, none⟩) 7 8 rfl (by kernel_rfl) (by kernel_rfl) ?_
  intro w124 hx125 hsel
  replace hB4 := hB4.c0 hx125
  replace hB18 := hB18.c0 hx125
  replace hB121 := hB121.c0 hx125
  replace hB113 := hB113.c0 hx125
  replace hP := hP.chg hx125 all0
  replace hE := hE.t0 hx125
  have hS0 := hB113.same s_hB113 3
  refine dV 0 rfl rfl hsel (by kernel_rfl) hf rfl (.inl hS0) (fun x => ex_fa (k := 3) (r := 3) hf rfl (by kernel_rfl) rfl) fun a hf => dL 1 rfl rfl hsel (by kernel_rfl) hf rfl hS0 (fun x hS => ex_load hf rfl (by kernel_rfl) (hS.trans ((s_hB113.cell 3).trans rfl))) fun a hf => dM 2 rfl rfl hsel (by kernel_rfl) hf rfl hS0 rfl fun a hf => ?_
  have plt126 := hP.lt
  refine dl_c 3 (by kernel_rfl) rfl hf rfl rfl rfl (by kernel_rfl) (ih _ _ _ _ hP (by omega)) ?_
  rintro _ w127 ⟨c126_0, c126_1, c126_2, c126_3, rfl, hT126, hP, hx126, hl126⟩
  refine ⟨_, rfl, fun a hf => ?_⟩
  obtain ⟨lo128, elo128⟩ : ∃ x, x = w124.heap.size := ⟨_, rfl⟩
  obtain ⟨hi128, ehi128⟩ : ∃ x, x = w127.heap.size := ⟨_, rfl⟩
  replace hT126 := hT126.within elo128 ehi128
  have hle128 : hi128 ≤ w127.heap.size := Nat.le_of_eq ehi128
  have ge_lo128 : w.heap.size ≤ lo128 := elo128 ▸ hE.size
  have tb_lo128_b3 : b3 < lo128 := elo128 ▸ hB4.lt
  have tb_lo128_b12 : b12 < lo128 := elo128 ▸ hB18.lt
  have tb_lo128_b101 : b101 < lo128 := elo128 ▸ hB121.lt
  have tb_lo128_b107 : b107 < lo128 := elo128 ▸ hB113.lt
  have tb_lo128_p : p < lo128 := elo128 ▸ plt126
  clear elo128 ehi128
  clear plt126
  have on_hT126 := hT126.one
  replace hB4 := hB4.chg hx126 (nmc (Ne.symm ne_p_b3) nm0)
  replace hB18 := hB18.chg hx126 (nmc (Ne.symm ne_p_b12) nm0)
  replace hB121 := hB121.chg hx126 (nmc (Ne.symm ne_p_b101) nm0)
  replace hB113 := hB113.chg hx126 (nmc (Ne.symm ne_p_b107) nm0)
  replace hE := hE.trans hx126 (allc (.inl (by simp)) all0)
  replace hL := nlt hl126 hL
  clear hS0
  have hS0 := hB113.same s_hB113 3
  refine ⟨.inl hS0, ?_⟩
  obtain ⟨w129, b130, he, hB131, hx132, eb133, lb134⟩ := ef_bslice (P := Try.prog) (ps := [(0, (.tmp 47))]) (m := 1) (sz := 4) (z := zT) hf rfl Try.underlying24 (by kernel_rfl) (by kernel_rfl) rfl rfl (by kernel_rfl) rfl w127 24
  refine dl_e 4 (by kernel_rfl) rfl hf rfl rfl he fun a hf => ?_
  have ne_b3_b130 : b3 ≠ b130 := ne_new hB4.lt eb133
  have ne_b12_b130 : b12 ≠ b130 := ne_new hB18.lt eb133
  have ne_b101_b130 : b101 ≠ b130 := ne_new hB121.lt eb133
  have ne_b107_b130 : b107 ≠ b130 := ne_new hB113.lt eb133
  have ne_p_b130 : p ≠ b130 := ne_new hP.lt eb133
  have ta_hi128_b130 : hi128 ≤ b130 := eb133 ▸ hle128
  have ge_b130 := ge_new hE eb133
  have hH_b130 : H ≤ b130 := by have := hP.le; have := hP.lt; omega
  replace hB4 := hB4.c0 hx132
  replace hB18 := hB18.c0 hx132
  replace hB121 := hB121.c0 hx132
  replace hB113 := hB113.c0 hx132
  replace hP := hP.chg hx132 all0
  replace hT126 := hT126.chg hx132 (fun b hb _ => nm0)
  replace hle128 := nlt hle128 hx132.size
  replace hE := hE.t0 hx132
  clear eb133 lb134
  clear hS0
  have hS0 := hB113.same s_hB113 3
  refine ⟨.inl hS0, ?_⟩
  obtain ⟨g136, cap137, w135, he, hO138, hx139, hat140, hlt141⟩ := ef_append0 (P := Try.prog) (x := (.tmp 45)) (y := (.tmp 48)) (z := .agg zA) (sz := 4) (by_ := 72) hf rfl rfl Try.underlying24 (by kernel_rfl) rfl rfl (World.ownsRow_nil w129 w.heap.size 26 4) hB131 rfl on_hT126 rfl (by simp only [maxLen]; omega) (by omega) (hE.size) 24
  refine dl_e 5 (by kernel_rfl) rfl hf rfl rfl he fun a hf => ?_
  have ne_b3_g136 : b3 ≠ g136 := by have := hB4.lt; omega
  have ne_b12_g136 : b12 ≠ g136 := by have := hB18.lt; omega
  have ne_b101_g136 : b101 ≠ g136 := by have := hB121.lt; omega
  have ne_b107_g136 : b107 ≠ g136 := by have := hB113.lt; omega
  have ne_b130_g136 : b130 ≠ g136 := by have := hB131.lt; omega
  have ne_p_g136 : p ≠ g136 := by have := hP.lt; omega
  have ta_hi128_g136 : hi128 ≤ g136 ∨ g136 < lo128 := by have := hle128; omega
  have ge_g136 : w.heap.size ≤ g136 := own_gle hO138
  have hH_g136 : H ≤ g136 := by have := hP.le; have := hP.lt; omega
  replace hB4 := hB4.c0 hx139
  replace hB18 := hB18.c0 hx139
  replace hB121 := hB121.c0 hx139
  replace hB113 := hB113.c0 hx139
  replace hB131 := hB131.c0 hx139
  replace hP := hP.chg hx139 all0
  replace hT126 := hT126.chg hx139 (fun b hb _ => nm0)
  replace hle128 := nlt hle128 hx139.size
  replace hE := hE.t0 hx139
  clear hat140 hlt141
  clear hS0
  have hS0 := hB113.same s_hB113 3
  refine ⟨.inl hS0, ?_⟩
  refine dV 6 rfl rfl hsel (by kernel_rfl) hf rfl (.inl hS0) (fun x => ex_fa (k := 3) (r := 3) hf rfl (by kernel_rfl) rfl) fun a hf => ?_
  obtain ⟨w142, he, hB143, hx144⟩ := ef_store (P := Try.prog) (t := 24) (x := (.tmp 50)) (y := (.tmp 49)) hf rfl rfl (by kernel_rfl) rfl hB113 (Nat.le_of_ble_eq_true rfl) 0
  refine dl_s 7 (by kernel_rfl) rfl hf rfl rfl he fun a hf => ?_
  replace hB4 := hB4.chg hx144 (nmc ne_b3_b107 nm0)
  replace hB18 := hB18.chg hx144 (nmc ne_b12_b107 nm0)
  replace hB121 := hB121.chg hx144 (nmc ne_b101_b107 nm0)
  replace hB131 := hB131.chg hx144 (nmc (Ne.symm ne_b107_b130) nm0)
  replace hP := hP.chg hx144 (allc ⟨hH_b107, ne_p_b107⟩ all0)
  replace hT126 := hT126.chg hx144 (fun b hb _ => (nmc (by omega) nm0))
  replace hle128 := nlt hle128 hx144.size
  replace hO138 := own_gchg hO138 hx144 (nmc (Ne.symm ne_b107_g136) nm0)
  replace hE := hE.trans hx144 (allc (.inr ge_b107) all0)
  clear hB113
  refine ⟨.inr (by kernel_rfl), ?_⟩
  refine dl_done (by kernel_rfl) ?_
  clear hS0 hsel
  refine hK123 _ _ <| wS fun K145 hK145 => ?_
  have s_hB143 := hB143
  refine dl_start (fun x => x.cell? ⟨b107, 2, none⟩ = w142.cell? ⟨b107, 2, none⟩) 6 6 rfl (by kernel_rfl) (by kernel_rfl) ?_
  intro w146 hx147 hsel
  replace hB4 := hB4.c0 hx147
  replace hB18 := hB18.c0 hx147
  replace hB121 := hB121.c0 hx147
  replace hB143 := hB143.c0 hx147
  replace hB131 := hB131.c0 hx147
  replace hP := hP.chg hx147 all0
  replace hT126 := hT126.chg hx147 (fun b hb _ => nm0)
  replace hle128 := nlt hle128 hx147.size
  replace hO138 := own_gchg hO138 hx147 nm0
  replace hE := hE.t0 hx147
  have hS0 := hB143.same s_hB143 2
  refine dV 0 rfl rfl hsel (by kernel_rfl) hf rfl (.inl hS0) (fun x => ex_fa (k := 2) (r := 2) hf rfl (by kernel_rfl) rfl) fun a hf => dL 1 rfl rfl hsel (by kernel_rfl) hf rfl hS0 (fun x hS => ex_load hf rfl (by kernel_rfl) (hS.trans ((s_hB143.cell 2).trans rfl))) fun a hf => dM 2 rfl rfl hsel (by kernel_rfl) hf rfl hS0 rfl fun a hf => dl_c 3 (by kernel_rfl) rfl hf rfl rfl rfl (by kernel_rfl) (pWordL (x := [41]) hP (by decide)) ?_
  rintro _ w149 ⟨rfl, hP, hx148⟩
  refine ⟨_, rfl, fun a hf => ?_⟩
  replace hB4 := hB4.chg hx148 (nmc (Ne.symm ne_p_b3) nm0)
  replace hB18 := hB18.chg hx148 (nmc (Ne.symm ne_p_b12) nm0)
  replace hB121 := hB121.chg hx148 (nmc (Ne.symm ne_p_b101) nm0)
  replace hB143 := hB143.chg hx148 (nmc (Ne.symm ne_p_b107) nm0)
  replace hB131 := hB131.chg hx148 (nmc (Ne.symm ne_p_b130) nm0)
  replace hT126 := hT126.chg hx148 (fun b hb _ => (nmc (by omega) nm0))
  replace hle128 := nlt hle128 hx148.size
  replace hO138 := own_gchg hO138 hx148 (nmc (Ne.symm ne_p_g136) nm0)
  replace hE := hE.trans hx148 (allc (.inl (by simp)) all0)
  replace hL := nlt (pWord_len [41] _) hL
  clear hS0
  have hS0 := hB143.same s_hB143 2
  refine ⟨.inl hS0, ?_⟩
  refine dV 4 rfl rfl hsel (by kernel_rfl) hf rfl (.inl hS0) (fun x => ex_index (sz := 1) (k := 1) (r := 1) hf Try.underlying23 (by kernel_rfl) rfl rfl rfl (by first | decide | simp) rfl) fun a hf => ?_
  obtain ⟨w150, he, hB151, hx152⟩ := ef_store (P := Try.prog) (t := 9) (x := (.tmp 55)) (y := (.tmp 54)) hf rfl rfl (by kernel_rfl) rfl hB121 (Nat.le_of_ble_eq_true rfl) 0
  refine dl_s 5 (by kernel_rfl) rfl hf rfl rfl he fun a hf => ?_
  replace hB4 := hB4.chg hx152 (nmc ne_b3_b101 nm0)
  replace hB18 := hB18.chg hx152 (nmc ne_b12_b101 nm0)
  replace hB143 := hB143.chg hx152 (nmc (Ne.symm ne_b101_b107) nm0)
  replace hB131 := hB131.chg hx152 (nmc (Ne.symm ne_b101_b130) nm0)
  replace hP := hP.chg hx152 (allc ⟨hH_b101, ne_p_b101⟩ all0)
  replace hT126 := hT126.chg hx152 (fun b hb _ => (nmc (by omega) nm0))
  replace hle128 := nlt hle128 hx152.size
  replace hO138 := own_gchg hO138 hx152 (nmc (Ne.symm ne_b101_g136) nm0)
  replace hE := hE.trans hx152 (allc (.inr ge_b101) all0)
  clear hB121
  clear hS0
  have hS0 := hB143.same s_hB143 2
  refine ⟨.inl hS0, ?_⟩
  refine dl_done (by kernel_rfl) ?_
  clear hS0 hsel
  refine hK145 _ _ <| wS fun K153 hK153 => wR <| sV hf rfl (ex_loadBN (m := 4) hf rfl (by kernel_rfl) hB143 rfl) fun a hf => ?_
  obtain ⟨w154, he, hB155, hx156⟩ := eN (.tmp 2) (.tmp 56) hf rfl rfl rfl rfl hB4 rfl 0
  refine st_s hf rfl rfl he fun a hf => ?_
  replace hB18 := hB18.chg hx156 (nmc (Ne.symm ne_b3_b12) nm0)
  replace hB151 := hB151.chg hx156 (nmc (Ne.symm ne_b3_b101) nm0)
  replace hB143 := hB143.chg hx156 (nmc (Ne.symm ne_b3_b107) nm0)
  replace hB131 := hB131.chg hx156 (nmc (Ne.symm ne_b3_b130) nm0)
  replace hP := hP.chg hx156 (allc ⟨hH_b3, ne_p_b3⟩ all0)
  replace hT126 := hT126.chg hx156 (fun b hb _ => (nmc (by omega) nm0))
  replace hle128 := nlt hle128 hx156.size
  replace hO138 := own_gchg hO138 hx156 (nmc (Ne.symm ne_b3_g136) nm0)
  replace hE := hE.trans hx156 (allc (.inr ge_b3) all0)
  clear hB4
  refine sN <| hK153 _ _ <| wp_ret ?_
  rw [hq]
  try simp only [Exit.then, Exit.inBlock]
  exact ret_of (rs := [.cell 2 26]) hf rfl ⟨_, _, _, _, 4, rfl, rfl, by kernel_rfl, hB155, rfl, rfl⟩ ⟨_, _, _, _, rfl, tree_mk (Nat.le_refl _) (maxLen_ge rfl) (own_cap hO138).1 (own_cap hO138).2 (RowIn.of_blk hB151 ge_b101 rfl) (kids_one (hT126.mono (fun b hb => by omega))) (RowIn.of_own hO138), hP, hE, (nlt hL (pTake_len s))⟩
  clear hf a; intro hk6 a hf
  refine sA hf rfl rfl fun a hf => sN <| hK91 _ _ <| cF hf rfl <| wS fun K157 hK157 => wS fun K158 hK158 => wR <| sV hf rfl (ex_eqI (c := false) hf rfl rfl (iEqF (fun h => hk (.inl h)))) fun a hf => sA hf rfl rfl fun a hf => sN <| hK158 _ _ <| cF hf rfl <| wR <| sV hf rfl (ex_eqI (c := false) hf rfl rfl (iEqF (fun h => hk (.inr h)))) fun a hf => sA hf rfl rfl fun a hf => sN <| hK157 _ _ <| cF hf rfl <| wp_skip <| hK23 _ _ <| wS fun K159 hK159 => wS fun K160 hK160 => wR <| sV hf rfl (ex_fa (k := 2) (r := 2) hf rfl (by kernel_rfl) rfl) fun a hf => sV hf rfl (ex_loadB hf rfl (by kernel_rfl) hB18 rfl) fun a hf => sN <| hK160 _ _ <| wp_block <| wS fun K161 hK161 => wR <| sV hf rfl (ex_eqS (c := false) hf rfl rfl (beqF h1)) fun a hf => sA hf rfl rfl fun a hf => sN <| hK161 _ _ <| cF hf rfl <| wS fun K162 hK162 => wR <| sV hf rfl (ex_eqS (c := false) hf rfl rfl (beqF h2)) fun a hf => sA hf rfl rfl fun a hf => sN <| hK162 _ _ <| cF hf rfl <| wS fun K163 hK163 => wR <| sV hf rfl (ex_eqS (c := false) hf rfl rfl (beqF h3)) fun a hf => sA hf rfl rfl fun a hf => sN <| hK163 _ _ <| cF hf rfl <| wS fun K164 hK164 => wR <| sV hf rfl (ex_eqS (c := false) hf rfl rfl (beqF h4)) fun a hf => sA hf rfl rfl fun a hf => sN <| hK164 _ _ <| cF hf rfl <| wS fun K165 hK165 => wR <| sV hf rfl (ex_eqS (c := true) hf rfl rfl (beqT h5)) fun a hf => sA hf rfl rfl fun a hf => sN <| hK165 _ _ <| cT hf rfl <| wS fun K166 hK166 => wR ?_
  obtain ⟨w167, b168, he, hB169, hx170, eb171, lb172⟩ := ef_make (P := Try.prog) (m := 2) (x := (.const (.int .i64 2))) (y := (.const (.int .i64 2))) (z := .string ⟨([] : List UInt8).toArray⟩) (sz := 1) (by_ := 16) (cs := [.string ⟨([] : List UInt8).toArray⟩, .string ⟨([] : List UInt8).toArray⟩]) hf rfl rfl Try.underlying23 (by kernel_rfl) (by kernel_rfl) (by kernel_rfl) (by kernel_rfl) w21 23
  refine sV hf rfl he fun a hf => ?_
  have ne_b3_b168 : b3 ≠ b168 := ne_new hB4.lt eb171
  have ne_b12_b168 : b12 ≠ b168 := ne_new hB18.lt eb171
  have ne_p_b168 : p ≠ b168 := ne_new hP.lt eb171
  have ge_b168 := ge_new hE eb171
  have hH_b168 : H ≤ b168 := by have := hP.le; have := hP.lt; omega
  replace hB4 := hB4.c0 hx170
  replace hB18 := hB18.c0 hx170
  replace hP := hP.chg hx170 all0
  replace hE := hE.t0 hx170
  clear eb171 lb172
  refine sV hf rfl (ex_bd (ps := [(0, (.const (.int .i64 22))), (2, (.tmp 36))]) (z := zT) (os := [0, 2]) hf rfl (by kernel_rfl) (by kernel_rfl) (by kernel_rfl) rfl rfl) fun a hf => ?_
  obtain ⟨w173, b174, he, hB175, hx176, eb177, lb178⟩ := eT a w167 0
  refine sV hf rfl he fun a hf => ?_
  have ne_b3_b174 : b3 ≠ b174 := ne_new hB4.lt eb177
  have ne_b12_b174 : b12 ≠ b174 := ne_new hB18.lt eb177
  have ne_b168_b174 : b168 ≠ b174 := ne_new hB169.lt eb177
  have ne_p_b174 : p ≠ b174 := ne_new hP.lt eb177
  have ge_b174 := ge_new hE eb177
  have hH_b174 : H ≤ b174 := by have := hP.le; have := hP.lt; omega
  replace hB4 := hB4.c0 hx176
  replace hB18 := hB18.c0 hx176
  replace hB169 := hB169.c0 hx176
  replace hP := hP.chg hx176 all0
  replace hE := hE.t0 hx176
  clear eb177 lb178
  obtain ⟨w179, he, hB180, hx181⟩ := eN (.tmp 6) (.tmp 37) hf rfl rfl rfl rfl hB175 rfl 0
  refine st_s hf rfl rfl he fun a hf => ?_
  replace hB4 := hB4.chg hx181 (nmc ne_b3_b174 nm0)
  replace hB18 := hB18.chg hx181 (nmc ne_b12_b174 nm0)
  replace hB169 := hB169.chg hx181 (nmc ne_b168_b174 nm0)
  replace hP := hP.chg hx181 (allc ⟨hH_b174, ne_p_b174⟩ all0)
  replace hE := hE.trans hx181 (allc (.inr ge_b174) all0)
  clear hB175
  refine sN <| hK166 _ _ <| wS fun K182 hK182 => ?_
  have s_hB180 := hB180
  refine dl_start (fun x => x.cell? ⟨b174, 2, none⟩ = w179.cell? ⟨b174, 2, none⟩) 7 7 rfl (by kernel_rfl) (by kernel_rfl) ?_
  intro w183 hx184 hsel
  replace hB4 := hB4.c0 hx184
  replace hB18 := hB18.c0 hx184
  replace hB169 := hB169.c0 hx184
  replace hB180 := hB180.c0 hx184
  replace hP := hP.chg hx184 all0
  replace hE := hE.t0 hx184
  have hS0 := hB180.same s_hB180 2
  refine dV 0 rfl rfl hsel (by kernel_rfl) hf rfl (.inl hS0) (fun x => ex_fa (k := 2) (r := 2) hf rfl (by kernel_rfl) rfl) fun a hf => dL 1 rfl rfl hsel (by kernel_rfl) hf rfl hS0 (fun x hS => ex_load hf rfl (by kernel_rfl) (hS.trans ((s_hB180.cell 2).trans rfl))) fun a hf => dM 2 rfl rfl hsel (by kernel_rfl) hf rfl hS0 rfl fun a hf => dl_c 3 (by kernel_rfl) rfl hf rfl rfl rfl (by kernel_rfl) (pTakeL hP hs) ?_
  rintro _ w186 ⟨rfl, hP, hx185⟩
  refine ⟨_, rfl, fun a hf => ?_⟩
  replace hB4 := hB4.chg hx185 (nmc (Ne.symm ne_p_b3) nm0)
  replace hB18 := hB18.chg hx185 (nmc (Ne.symm ne_p_b12) nm0)
  replace hB169 := hB169.chg hx185 (nmc (Ne.symm ne_p_b168) nm0)
  replace hB180 := hB180.chg hx185 (nmc (Ne.symm ne_p_b174) nm0)
  replace hE := hE.trans hx185 (allc (.inl (by simp)) all0)
  replace hL := Nat.le_refl (pTake s).toks.length
  clear hS0
  have hS0 := hB180.same s_hB180 2
  refine ⟨.inl hS0, ?_⟩
  refine dV 4 rfl rfl hsel (by kernel_rfl) hf rfl (.inl hS0) (fun x => ex_fd (k := 1) hf rfl (by kernel_rfl) rfl) fun a hf => dV 5 rfl rfl hsel (by kernel_rfl) hf rfl (.inl hS0) (fun x => ex_index (sz := 1) (k := 0) (r := 0) hf Try.underlying23 (by kernel_rfl) rfl rfl rfl (by first | decide | simp) rfl) fun a hf => ?_
  obtain ⟨w187, he, hB188, hx189⟩ := ef_store (P := Try.prog) (t := 9) (x := (.tmp 43)) (y := (.tmp 42)) hf rfl rfl (by kernel_rfl) rfl hB169 (Nat.le_of_ble_eq_true rfl) 0
  refine dl_s 6 (by kernel_rfl) rfl hf rfl rfl he fun a hf => ?_
  replace hB4 := hB4.chg hx189 (nmc ne_b3_b168 nm0)
  replace hB18 := hB18.chg hx189 (nmc ne_b12_b168 nm0)
  replace hB180 := hB180.chg hx189 (nmc (Ne.symm ne_b168_b174) nm0)
  replace hP := hP.chg hx189 (allc ⟨hH_b168, ne_p_b168⟩ all0)
  replace hE := hE.trans hx189 (allc (.inr ge_b168) all0)
  clear hB169
  clear hS0
  have hS0 := hB180.same s_hB180 2
  refine ⟨.inl hS0, ?_⟩
  refine dl_done (by kernel_rfl) ?_
  clear hS0 hsel
  refine hK182 _ _ <| wS fun K190 hK190 => ?_
  have s_hB180 := hB180
  refine dl_start (fun x => x.cell? ⟨b174, 3, none⟩ = w187.cell? ⟨b174, 3, none⟩) 7 8 rfl (by kernel_rfl) (by kernel_rfl) ?_
  intro w191 hx192 hsel
  replace hB4 := hB4.c0 hx192
  replace hB18 := hB18.c0 hx192
  replace hB188 := hB188.c0 hx192
  replace hB180 := hB180.c0 hx192
  replace hP := hP.chg hx192 all0
  replace hE := hE.t0 hx192
  have hS0 := hB180.same s_hB180 3
  refine dV 0 rfl rfl hsel (by kernel_rfl) hf rfl (.inl hS0) (fun x => ex_fa (k := 3) (r := 3) hf rfl (by kernel_rfl) rfl) fun a hf => dL 1 rfl rfl hsel (by kernel_rfl) hf rfl hS0 (fun x hS => ex_load hf rfl (by kernel_rfl) (hS.trans ((s_hB180.cell 3).trans rfl))) fun a hf => dM 2 rfl rfl hsel (by kernel_rfl) hf rfl hS0 rfl fun a hf => ?_
  have plt193 := hP.lt
  refine dl_c 3 (by kernel_rfl) rfl hf rfl rfl rfl (by kernel_rfl) (ih _ _ _ _ hP (by omega)) ?_
  rintro _ w194 ⟨c193_0, c193_1, c193_2, c193_3, rfl, hT193, hP, hx193, hl193⟩
  refine ⟨_, rfl, fun a hf => ?_⟩
  obtain ⟨lo195, elo195⟩ : ∃ x, x = w191.heap.size := ⟨_, rfl⟩
  obtain ⟨hi195, ehi195⟩ : ∃ x, x = w194.heap.size := ⟨_, rfl⟩
  replace hT193 := hT193.within elo195 ehi195
  have hle195 : hi195 ≤ w194.heap.size := Nat.le_of_eq ehi195
  have ge_lo195 : w.heap.size ≤ lo195 := elo195 ▸ hE.size
  have tb_lo195_b3 : b3 < lo195 := elo195 ▸ hB4.lt
  have tb_lo195_b12 : b12 < lo195 := elo195 ▸ hB18.lt
  have tb_lo195_b168 : b168 < lo195 := elo195 ▸ hB188.lt
  have tb_lo195_b174 : b174 < lo195 := elo195 ▸ hB180.lt
  have tb_lo195_p : p < lo195 := elo195 ▸ plt193
  clear elo195 ehi195
  clear plt193
  have on_hT193 := hT193.one
  replace hB4 := hB4.chg hx193 (nmc (Ne.symm ne_p_b3) nm0)
  replace hB18 := hB18.chg hx193 (nmc (Ne.symm ne_p_b12) nm0)
  replace hB188 := hB188.chg hx193 (nmc (Ne.symm ne_p_b168) nm0)
  replace hB180 := hB180.chg hx193 (nmc (Ne.symm ne_p_b174) nm0)
  replace hE := hE.trans hx193 (allc (.inl (by simp)) all0)
  replace hL := nlt hl193 hL
  clear hS0
  have hS0 := hB180.same s_hB180 3
  refine ⟨.inl hS0, ?_⟩
  obtain ⟨w196, b197, he, hB198, hx199, eb200, lb201⟩ := ef_bslice (P := Try.prog) (ps := [(0, (.tmp 47))]) (m := 1) (sz := 4) (z := zT) hf rfl Try.underlying24 (by kernel_rfl) (by kernel_rfl) rfl rfl (by kernel_rfl) rfl w194 24
  refine dl_e 4 (by kernel_rfl) rfl hf rfl rfl he fun a hf => ?_
  have ne_b3_b197 : b3 ≠ b197 := ne_new hB4.lt eb200
  have ne_b12_b197 : b12 ≠ b197 := ne_new hB18.lt eb200
  have ne_b168_b197 : b168 ≠ b197 := ne_new hB188.lt eb200
  have ne_b174_b197 : b174 ≠ b197 := ne_new hB180.lt eb200
  have ne_p_b197 : p ≠ b197 := ne_new hP.lt eb200
  have ta_hi195_b197 : hi195 ≤ b197 := eb200 ▸ hle195
  have ge_b197 := ge_new hE eb200
  have hH_b197 : H ≤ b197 := by have := hP.le; have := hP.lt; omega
  replace hB4 := hB4.c0 hx199
  replace hB18 := hB18.c0 hx199
  replace hB188 := hB188.c0 hx199
  replace hB180 := hB180.c0 hx199
  replace hP := hP.chg hx199 all0
  replace hT193 := hT193.chg hx199 (fun b hb _ => nm0)
  replace hle195 := nlt hle195 hx199.size
  replace hE := hE.t0 hx199
  clear eb200 lb201
  clear hS0
  have hS0 := hB180.same s_hB180 3
  refine ⟨.inl hS0, ?_⟩
  obtain ⟨g203, cap204, w202, he, hO205, hx206, hat207, hlt208⟩ := ef_append0 (P := Try.prog) (x := (.tmp 45)) (y := (.tmp 48)) (z := .agg zA) (sz := 4) (by_ := 72) hf rfl rfl Try.underlying24 (by kernel_rfl) rfl rfl (World.ownsRow_nil w196 w.heap.size 26 4) hB198 rfl on_hT193 rfl (by simp only [maxLen]; omega) (by omega) (hE.size) 24
  refine dl_e 5 (by kernel_rfl) rfl hf rfl rfl he fun a hf => ?_
  have ne_b3_g203 : b3 ≠ g203 := by have := hB4.lt; omega
  have ne_b12_g203 : b12 ≠ g203 := by have := hB18.lt; omega
  have ne_b168_g203 : b168 ≠ g203 := by have := hB188.lt; omega
  have ne_b174_g203 : b174 ≠ g203 := by have := hB180.lt; omega
  have ne_b197_g203 : b197 ≠ g203 := by have := hB198.lt; omega
  have ne_p_g203 : p ≠ g203 := by have := hP.lt; omega
  have ta_hi195_g203 : hi195 ≤ g203 ∨ g203 < lo195 := by have := hle195; omega
  have ge_g203 : w.heap.size ≤ g203 := own_gle hO205
  have hH_g203 : H ≤ g203 := by have := hP.le; have := hP.lt; omega
  replace hB4 := hB4.c0 hx206
  replace hB18 := hB18.c0 hx206
  replace hB188 := hB188.c0 hx206
  replace hB180 := hB180.c0 hx206
  replace hB198 := hB198.c0 hx206
  replace hP := hP.chg hx206 all0
  replace hT193 := hT193.chg hx206 (fun b hb _ => nm0)
  replace hle195 := nlt hle195 hx206.size
  replace hE := hE.t0 hx206
  clear hat207 hlt208
  clear hS0
  have hS0 := hB180.same s_hB180 3
  refine ⟨.inl hS0, ?_⟩
  refine dV 6 rfl rfl hsel (by kernel_rfl) hf rfl (.inl hS0) (fun x => ex_fa (k := 3) (r := 3) hf rfl (by kernel_rfl) rfl) fun a hf => ?_
  obtain ⟨w209, he, hB210, hx211⟩ := ef_store (P := Try.prog) (t := 24) (x := (.tmp 50)) (y := (.tmp 49)) hf rfl rfl (by kernel_rfl) rfl hB180 (Nat.le_of_ble_eq_true rfl) 0
  refine dl_s 7 (by kernel_rfl) rfl hf rfl rfl he fun a hf => ?_
  replace hB4 := hB4.chg hx211 (nmc ne_b3_b174 nm0)
  replace hB18 := hB18.chg hx211 (nmc ne_b12_b174 nm0)
  replace hB188 := hB188.chg hx211 (nmc ne_b168_b174 nm0)
  replace hB198 := hB198.chg hx211 (nmc (Ne.symm ne_b174_b197) nm0)
  replace hP := hP.chg hx211 (allc ⟨hH_b174, ne_p_b174⟩ all0)
  replace hT193 := hT193.chg hx211 (fun b hb _ => (nmc (by omega) nm0))
  replace hle195 := nlt hle195 hx211.size
  replace hO205 := own_gchg hO205 hx211 (nmc (Ne.symm ne_b174_g203) nm0)
  replace hE := hE.trans hx211 (allc (.inr ge_b174) all0)
  clear hB180
  refine ⟨.inr (by kernel_rfl), ?_⟩
  refine dl_done (by kernel_rfl) ?_
  clear hS0 hsel
  refine hK190 _ _ <| wS fun K212 hK212 => ?_
  have s_hB210 := hB210
  refine dl_start (fun x => x.cell? ⟨b174, 2, none⟩ = w209.cell? ⟨b174, 2, none⟩) 6 6 rfl (by kernel_rfl) (by kernel_rfl) ?_
  intro w213 hx214 hsel
  replace hB4 := hB4.c0 hx214
  replace hB18 := hB18.c0 hx214
  replace hB188 := hB188.c0 hx214
  replace hB210 := hB210.c0 hx214
  replace hB198 := hB198.c0 hx214
  replace hP := hP.chg hx214 all0
  replace hT193 := hT193.chg hx214 (fun b hb _ => nm0)
  replace hle195 := nlt hle195 hx214.size
  replace hO205 := own_gchg hO205 hx214 nm0
  replace hE := hE.t0 hx214
  have hS0 := hB210.same s_hB210 2
  refine dV 0 rfl rfl hsel (by kernel_rfl) hf rfl (.inl hS0) (fun x => ex_fa (k := 2) (r := 2) hf rfl (by kernel_rfl) rfl) fun a hf => dL 1 rfl rfl hsel (by kernel_rfl) hf rfl hS0 (fun x hS => ex_load hf rfl (by kernel_rfl) (hS.trans ((s_hB210.cell 2).trans rfl))) fun a hf => dM 2 rfl rfl hsel (by kernel_rfl) hf rfl hS0 rfl fun a hf => dl_c 3 (by kernel_rfl) rfl hf rfl rfl rfl (by kernel_rfl) (pWordL (x := [41]) hP (by decide)) ?_
  rintro _ w216 ⟨rfl, hP, hx215⟩
  refine ⟨_, rfl, fun a hf => ?_⟩
  replace hB4 := hB4.chg hx215 (nmc (Ne.symm ne_p_b3) nm0)
  replace hB18 := hB18.chg hx215 (nmc (Ne.symm ne_p_b12) nm0)
  replace hB188 := hB188.chg hx215 (nmc (Ne.symm ne_p_b168) nm0)
  replace hB210 := hB210.chg hx215 (nmc (Ne.symm ne_p_b174) nm0)
  replace hB198 := hB198.chg hx215 (nmc (Ne.symm ne_p_b197) nm0)
  replace hT193 := hT193.chg hx215 (fun b hb _ => (nmc (by omega) nm0))
  replace hle195 := nlt hle195 hx215.size
  replace hO205 := own_gchg hO205 hx215 (nmc (Ne.symm ne_p_g203) nm0)
  replace hE := hE.trans hx215 (allc (.inl (by simp)) all0)
  replace hL := nlt (pWord_len [41] _) hL
  clear hS0
  have hS0 := hB210.same s_hB210 2
  refine ⟨.inl hS0, ?_⟩
  refine dV 4 rfl rfl hsel (by kernel_rfl) hf rfl (.inl hS0) (fun x => ex_index (sz := 1) (k := 1) (r := 1) hf Try.underlying23 (by kernel_rfl) rfl rfl rfl (by first | decide | simp) rfl) fun a hf => ?_
  obtain ⟨w217, he, hB218, hx219⟩ := ef_store (P := Try.prog) (t := 9) (x := (.tmp 55)) (y := (.tmp 54)) hf rfl rfl (by kernel_rfl) rfl hB188 (Nat.le_of_ble_eq_true rfl) 0
  refine dl_s 5 (by kernel_rfl) rfl hf rfl rfl he fun a hf => ?_
  replace hB4 := hB4.chg hx219 (nmc ne_b3_b168 nm0)
  replace hB18 := hB18.chg hx219 (nmc ne_b12_b168 nm0)
  replace hB210 := hB210.chg hx219 (nmc (Ne.symm ne_b168_b174) nm0)
  replace hB198 := hB198.chg hx219 (nmc (Ne.symm ne_b168_b197) nm0)
  replace hP := hP.chg hx219 (allc ⟨hH_b168, ne_p_b168⟩ all0)
  replace hT193 := hT193.chg hx219 (fun b hb _ => (nmc (by omega) nm0))
  replace hle195 := nlt hle195 hx219.size
  replace hO205 := own_gchg hO205 hx219 (nmc (Ne.symm ne_b168_g203) nm0)
  replace hE := hE.trans hx219 (allc (.inr ge_b168) all0)
  clear hB188
  clear hS0
  have hS0 := hB210.same s_hB210 2
  refine ⟨.inl hS0, ?_⟩
  refine dl_done (by kernel_rfl) ?_
  clear hS0 hsel
  refine hK212 _ _ <| wS fun K220 hK220 => wR <| sV hf rfl (ex_loadBN (m := 4) hf rfl (by kernel_rfl) hB210 rfl) fun a hf => ?_
  obtain ⟨w221, he, hB222, hx223⟩ := eN (.tmp 2) (.tmp 56) hf rfl rfl rfl rfl hB4 rfl 0
  refine st_s hf rfl rfl he fun a hf => ?_
  replace hB18 := hB18.chg hx223 (nmc (Ne.symm ne_b3_b12) nm0)
  replace hB218 := hB218.chg hx223 (nmc (Ne.symm ne_b3_b168) nm0)
  replace hB210 := hB210.chg hx223 (nmc (Ne.symm ne_b3_b174) nm0)
  replace hB198 := hB198.chg hx223 (nmc (Ne.symm ne_b3_b197) nm0)
  replace hP := hP.chg hx223 (allc ⟨hH_b3, ne_p_b3⟩ all0)
  replace hT193 := hT193.chg hx223 (fun b hb _ => (nmc (by omega) nm0))
  replace hle195 := nlt hle195 hx223.size
  replace hO205 := own_gchg hO205 hx223 (nmc (Ne.symm ne_b3_g203) nm0)
  replace hE := hE.trans hx223 (allc (.inr ge_b3) all0)
  clear hB4
  refine sN <| hK220 _ _ <| wp_ret ?_
  rw [hq]
  try simp only [Exit.then, Exit.inBlock]
  exact ret_of (rs := [.cell 2 26]) hf rfl ⟨_, _, _, _, 4, rfl, rfl, by kernel_rfl, hB222, rfl, rfl⟩ ⟨_, _, _, _, rfl, tree_mk (Nat.le_refl _) (maxLen_ge rfl) (own_cap hO205).1 (own_cap hO205).2 (RowIn.of_blk hB218 ge_b168 rfl) (kids_one (hT193.mono (fun b hb => by omega))) (RowIn.of_own hO205), hP, hE, (nlt hL (pTake_len s))⟩
theorem unit_else {H p n : Nat} {s : PS} {w : World} (ih : ExprOk n) (hP : PAt H w p s) (hn : s.toks.length < n + 1) (hk : ¬ ((pNext s).kind = 1 ∨ (pNext s).kind = 3)) (h1 : ¬ (pNext s).text = wTrue) (h2 : ¬ (pNext s).text = wFalse) (h3 : ¬ (pNext s).text = [63]) (h4 : ¬ (pNext s).text = [91]) (h5 : ¬ (pNext s).text = [40]) : Calls Try.prog 104 [.pointer (some ⟨p, 0, none⟩)].toArray w (TreePost w H p s (unitF (exprT n) s)) := by
  refine enter_fr 69 Try.func104 rfl rfl rfl ?_
  intro a hf
  have hE := Chg.refl [p] w
  have hL := Nat.le_refl s.toks.length
  refine wS fun K1 hK1 => wR ?_
  obtain ⟨w2, b3, he, hB4, hx5, eb6, lb7⟩ := eT a w 0
  refine sV hf rfl he fun a hf => ?_
  have ne_p_b3 : p ≠ b3 := ne_new hP.lt eb6
  have ge_b3 := ge_new hE eb6
  have hH_b3 : H ≤ b3 := by have := hP.le; have := hP.lt; omega
  replace hP := hP.chg hx5 all0
  replace hE := hE.t0 hx5
  clear eb6 lb7
  refine sN <| hK1 _ _ <| wS fun K8 hK8 => wR <| sM hf rfl rfl fun a hf => st_c hf rfl rfl rfl (by kernel_rfl) (pNextL hP) ?_
  rintro _ w10 ⟨rfl, hP, hx9⟩
  refine ⟨_, rfl, fun a hf => ?_⟩
  replace hB4 := hB4.c0 hx9
  replace hE := hE.t0 hx9
  obtain ⟨w11, b12, he, hB13, hx14, eb15, lb16⟩ := ef_alloc (P := Try.prog) (t := 49) [.int .i64 0, .string ⟨([] : List UInt8).toArray⟩, .string ⟨([] : List UInt8).toArray⟩] (by kernel_rfl) a w10 0
  refine sV hf rfl he fun a hf => ?_
  have ne_b3_b12 : b3 ≠ b12 := ne_new hB4.lt eb15
  have ne_p_b12 : p ≠ b12 := ne_new hP.lt eb15
  have ge_b12 := ge_new hE eb15
  have hH_b12 : H ≤ b12 := by have := hP.le; have := hP.lt; omega
  replace hB4 := hB4.c0 hx14
  replace hP := hP.chg hx14 all0
  replace hE := hE.t0 hx14
  clear eb15 lb16
  obtain ⟨w17, he, hB18, hx19⟩ := ef_storeN (P := Try.prog) (t := 49) (x := (.tmp 3)) (y := (.tmp 8)) (m := 3) hf rfl rfl (by kernel_rfl) rfl rfl hB13 rfl 0
  refine st_s hf rfl rfl he fun a hf => ?_
  replace hB4 := hB4.chg hx19 (nmc ne_b3_b12 nm0)
  replace hP := hP.chg hx19 (allc ⟨hH_b12, ne_p_b12⟩ all0)
  replace hE := hE.trans hx19 (allc (.inr ge_b12) all0)
  clear hB13
  refine sN <| hK8 _ _ <| wS fun K20 hK20 => ?_
  have s_hB18 := hB18
  refine dl_start (fun x => x.cell? ⟨b12, 2, none⟩ = w17.cell? ⟨b12, 2, none⟩) 4 4 rfl (by kernel_rfl) (by kernel_rfl) ?_
  intro w21 hx22 hsel
  replace hB4 := hB4.c0 hx22
  replace hB18 := hB18.c0 hx22
  replace hP := hP.chg hx22 all0
  replace hE := hE.t0 hx22
  have hS0 := hB18.same s_hB18 2
  refine dV 0 rfl rfl hsel (by kernel_rfl) hf rfl (.inl hS0) (fun x => ex_fa (k := 2) (r := 2) hf rfl (by kernel_rfl) rfl) fun a hf => dL 1 rfl rfl hsel (by kernel_rfl) hf rfl hS0 (fun x hS => ex_load hf rfl (by kernel_rfl) (hS.trans ((s_hB18.cell 2).trans rfl))) fun a hf => dV 2 rfl rfl hsel (by kernel_rfl) hf rfl (.inl hS0) (fun x => ex_assign hf rfl) fun a hf => dV 3 rfl rfl hsel (by kernel_rfl) hf rfl (.inl hS0) (fun x => ex_assign hf rfl) fun a hf => dl_done (by kernel_rfl) ?_
  clear hS0 hsel
  refine hK20 _ _ <| wS fun K23 hK23 => wS fun K24 hK24 => wR <| sV hf rfl (ex_fa (k := 0) (r := 0) hf rfl (by kernel_rfl) rfl) fun a hf => sV hf rfl (ex_loadB hf rfl (by kernel_rfl) hB18 rfl) fun a hf => sN <| hK24 _ _ <| wp_block <| wS fun K25 hK25 => wR <| st_b hf rfl rfl (fun c hc => ex_eqI hf rfl rfl hc) ?_ ?_
  clear hf a; intro hk5 a hf
  refine sA hf rfl rfl fun a hf => sN <| hK25 _ _ <| cT hf rfl <| wR <| sA hf rfl rfl fun a hf => sN <| hK23 _ _ <| wS fun K26 hK26 => wS fun K27 hK27 => wR <| sV hf rfl (ex_fa (k := 2) (r := 2) hf rfl (by kernel_rfl) rfl) fun a hf => sV hf rfl (ex_loadB hf rfl (by kernel_rfl) hB18 rfl) fun a hf => sN <| hK27 _ _ <| wp_block <| wS fun K28 hK28 => wR <| sV hf rfl (ex_eqS (c := false) hf rfl rfl (beqF h1)) fun a hf => sA hf rfl rfl fun a hf => sN <| hK28 _ _ <| cF hf rfl <| wS fun K29 hK29 => wR <| sV hf rfl (ex_eqS (c := false) hf rfl rfl (beqF h2)) fun a hf => sA hf rfl rfl fun a hf => sN <| hK29 _ _ <| cF hf rfl <| wS fun K30 hK30 => wR <| sV hf rfl (ex_eqS (c := false) hf rfl rfl (beqF h3)) fun a hf => sA hf rfl rfl fun a hf => sN <| hK30 _ _ <| cF hf rfl <| wS fun K31 hK31 => wR <| sV hf rfl (ex_eqS (c := false) hf rfl rfl (beqF h4)) fun a hf => sA hf rfl rfl fun a hf => sN <| hK31 _ _ <| cF hf rfl <| wS fun K32 hK32 => wR <| sV hf rfl (ex_eqS (c := false) hf rfl rfl (beqF h5)) fun a hf => sA hf rfl rfl fun a hf => sN <| hK32 _ _ <| cF hf rfl <| wp_skip <| hK26 _ _ <| wS fun K33 hK33 => wS fun K34 hK34 => wR <| sM hf rfl rfl fun a hf => sV hf rfl (ex_eqI (c := false) hf rfl rfl (by decide)) fun a hf => sN <| hK34 _ _ <| cF hf rfl <| wp_skip <| hK33 _ _ <| wS fun K35 hK35 => wR <| sM hf rfl rfl fun a hf => sM hf rfl rfl fun a hf => sM hf rfl rfl fun a hf => ?_
  obtain ⟨t, r, hs, hnx⟩ := pNext_cons (s := s) (.inr (by simp at hk5; omega))
  refine st_c hf rfl rfl rfl (by kernel_rfl) (pTakeL hP hs) ?_
  rintro _ w37 ⟨rfl, hP, hx36⟩
  refine ⟨_, rfl, fun a hf => ?_⟩
  replace hB4 := hB4.chg hx36 (nmc (Ne.symm ne_p_b3) nm0)
  replace hB18 := hB18.chg hx36 (nmc (Ne.symm ne_p_b12) nm0)
  replace hE := hE.trans hx36 (allc (.inl (by simp)) all0)
  replace hL := nlt (Nat.le_of_lt (pTake_lt hs)) hL
  refine sV hf rfl (ex_fd (k := 1) hf rfl (by kernel_rfl) rfl) fun a hf => ?_
  obtain ⟨w38, b39, he, hB40, hx41, eb42, lb43⟩ := ef_bslice (P := Try.prog) (ps := [(0, (.tmp 66))]) (m := 1) (sz := 1) (z := [.string ⟨([] : List UInt8).toArray⟩]) hf rfl Try.underlying23 (by kernel_rfl) (by kernel_rfl) rfl rfl (by kernel_rfl) rfl w37 23
  refine sV hf rfl he fun a hf => ?_
  have ne_b3_b39 : b3 ≠ b39 := ne_new hB4.lt eb42
  have ne_b12_b39 : b12 ≠ b39 := ne_new hB18.lt eb42
  have ne_p_b39 : p ≠ b39 := ne_new hP.lt eb42
  have ge_b39 := ge_new hE eb42
  have hH_b39 : H ≤ b39 := by have := hP.le; have := hP.lt; omega
  replace hB4 := hB4.c0 hx41
  replace hB18 := hB18.c0 hx41
  replace hP := hP.chg hx41 all0
  replace hE := hE.t0 hx41
  clear eb42 lb43
  refine sV hf rfl (ex_bd (ps := [(0, (.tmp 62)), (1, (.tmp 63)), (2, (.tmp 67))]) (z := zT) (os := [0, 1, 2]) hf rfl (by kernel_rfl) (by kernel_rfl) (by kernel_rfl) rfl rfl) fun a hf => ?_
  obtain ⟨w44, he, hB45, hx46⟩ := eN (.tmp 2) (.tmp 68) hf rfl rfl rfl rfl hB4 rfl 0
  refine st_s hf rfl rfl he fun a hf => ?_
  replace hB18 := hB18.chg hx46 (nmc (Ne.symm ne_b3_b12) nm0)
  replace hB40 := hB40.chg hx46 (nmc (Ne.symm ne_b3_b39) nm0)
  replace hP := hP.chg hx46 (allc ⟨hH_b3, ne_p_b3⟩ all0)
  replace hE := hE.trans hx46 (allc (.inr ge_b3) all0)
  clear hB4
  refine sN <| hK35 _ _ <| wp_ret ?_
  rw [unitF_num hk h1 h2 h3 h4 h5 hk5]
  subst hnx
  try simp only [Exit.then, Exit.inBlock]
  exact ret_of (rs := [.cell 2 26]) hf rfl ⟨_, _, _, _, 4, rfl, rfl, by kernel_rfl, hB45, rfl, rfl⟩ ⟨_, _, _, _, rfl, tree_mk (Nat.le_refl _) (maxLen_ge rfl) (Nat.le_refl _) (maxLen_ge rfl) (RowIn.of_blk hB40 ge_b39 rfl) kids_none RowIn.none_, hP, hE, hL⟩
  clear hf a; intro hk5 a hf
  refine sA hf rfl rfl fun a hf => sN <| hK25 _ _ <| cF hf rfl <| wS fun K47 hK47 => wR <| st_b hf rfl rfl (fun c hc => ex_eqI hf rfl rfl hc) ?_ ?_
  clear hf a; intro hk6 a hf
  refine sA hf rfl rfl fun a hf => sN <| hK47 _ _ <| cT hf rfl <| wR <| sA hf rfl rfl fun a hf => sN <| hK23 _ _ <| wS fun K48 hK48 => wS fun K49 hK49 => wR <| sV hf rfl (ex_fa (k := 2) (r := 2) hf rfl (by kernel_rfl) rfl) fun a hf => sV hf rfl (ex_loadB hf rfl (by kernel_rfl) hB18 rfl) fun a hf => sN <| hK49 _ _ <| wp_block <| wS fun K50 hK50 => wR <| sV hf rfl (ex_eqS (c := false) hf rfl rfl (beqF h1)) fun a hf => sA hf rfl rfl fun a hf => sN <| hK50 _ _ <| cF hf rfl <| wS fun K51 hK51 => wR <| sV hf rfl (ex_eqS (c := false) hf rfl rfl (beqF h2)) fun a hf => sA hf rfl rfl fun a hf => sN <| hK51 _ _ <| cF hf rfl <| wS fun K52 hK52 => wR <| sV hf rfl (ex_eqS (c := false) hf rfl rfl (beqF h3)) fun a hf => sA hf rfl rfl fun a hf => sN <| hK52 _ _ <| cF hf rfl <| wS fun K53 hK53 => wR <| sV hf rfl (ex_eqS (c := false) hf rfl rfl (beqF h4)) fun a hf => sA hf rfl rfl fun a hf => sN <| hK53 _ _ <| cF hf rfl <| wS fun K54 hK54 => wR <| sV hf rfl (ex_eqS (c := false) hf rfl rfl (beqF h5)) fun a hf => sA hf rfl rfl fun a hf => sN <| hK54 _ _ <| cF hf rfl <| wp_skip <| hK48 _ _ <| wS fun K55 hK55 => wS fun K56 hK56 => wR <| sM hf rfl rfl fun a hf => sV hf rfl (ex_eqI (c := false) hf rfl rfl (by decide)) fun a hf => sN <| hK56 _ _ <| cF hf rfl <| wp_skip <| hK55 _ _ <| wS fun K57 hK57 => wR <| sM hf rfl rfl fun a hf => sM hf rfl rfl fun a hf => sM hf rfl rfl fun a hf => ?_
  obtain ⟨t, r, hs, hnx⟩ := pNext_cons (s := s) (.inr (by simp at hk6; omega))
  refine st_c hf rfl rfl rfl (by kernel_rfl) (pTakeL hP hs) ?_
  rintro _ w59 ⟨rfl, hP, hx58⟩
  refine ⟨_, rfl, fun a hf => ?_⟩
  replace hB4 := hB4.chg hx58 (nmc (Ne.symm ne_p_b3) nm0)
  replace hB18 := hB18.chg hx58 (nmc (Ne.symm ne_p_b12) nm0)
  replace hE := hE.trans hx58 (allc (.inl (by simp)) all0)
  replace hL := nlt (Nat.le_of_lt (pTake_lt hs)) hL
  refine sV hf rfl (ex_fd (k := 1) hf rfl (by kernel_rfl) rfl) fun a hf => ?_
  obtain ⟨w60, b61, he, hB62, hx63, eb64, lb65⟩ := ef_bslice (P := Try.prog) (ps := [(0, (.tmp 66))]) (m := 1) (sz := 1) (z := [.string ⟨([] : List UInt8).toArray⟩]) hf rfl Try.underlying23 (by kernel_rfl) (by kernel_rfl) rfl rfl (by kernel_rfl) rfl w59 23
  refine sV hf rfl he fun a hf => ?_
  have ne_b3_b61 : b3 ≠ b61 := ne_new hB4.lt eb64
  have ne_b12_b61 : b12 ≠ b61 := ne_new hB18.lt eb64
  have ne_p_b61 : p ≠ b61 := ne_new hP.lt eb64
  have ge_b61 := ge_new hE eb64
  have hH_b61 : H ≤ b61 := by have := hP.le; have := hP.lt; omega
  replace hB4 := hB4.c0 hx63
  replace hB18 := hB18.c0 hx63
  replace hP := hP.chg hx63 all0
  replace hE := hE.t0 hx63
  clear eb64 lb65
  refine sV hf rfl (ex_bd (ps := [(0, (.tmp 62)), (1, (.tmp 63)), (2, (.tmp 67))]) (z := zT) (os := [0, 1, 2]) hf rfl (by kernel_rfl) (by kernel_rfl) (by kernel_rfl) rfl rfl) fun a hf => ?_
  obtain ⟨w66, he, hB67, hx68⟩ := eN (.tmp 2) (.tmp 68) hf rfl rfl rfl rfl hB4 rfl 0
  refine st_s hf rfl rfl he fun a hf => ?_
  replace hB18 := hB18.chg hx68 (nmc (Ne.symm ne_b3_b12) nm0)
  replace hB62 := hB62.chg hx68 (nmc (Ne.symm ne_b3_b61) nm0)
  replace hP := hP.chg hx68 (allc ⟨hH_b3, ne_p_b3⟩ all0)
  replace hE := hE.trans hx68 (allc (.inr ge_b3) all0)
  clear hB4
  refine sN <| hK57 _ _ <| wp_ret ?_
  rw [unitF_str hk h1 h2 h3 h4 h5 hk5 hk6]
  subst hnx
  try simp only [Exit.then, Exit.inBlock]
  exact ret_of (rs := [.cell 2 26]) hf rfl ⟨_, _, _, _, 4, rfl, rfl, by kernel_rfl, hB67, rfl, rfl⟩ ⟨_, _, _, _, rfl, tree_mk (Nat.le_refl _) (maxLen_ge rfl) (Nat.le_refl _) (maxLen_ge rfl) (RowIn.of_blk hB62 ge_b61 rfl) kids_none RowIn.none_, hP, hE, hL⟩
  clear hf a; intro hk6 a hf
  refine sA hf rfl rfl fun a hf => sN <| hK47 _ _ <| cF hf rfl <| wS fun K69 hK69 => wS fun K70 hK70 => wR <| sV hf rfl (ex_eqI (c := false) hf rfl rfl (iEqF (fun h => hk (.inl h)))) fun a hf => sA hf rfl rfl fun a hf => sN <| hK70 _ _ <| cF hf rfl <| wR <| sV hf rfl (ex_eqI (c := false) hf rfl rfl (iEqF (fun h => hk (.inr h)))) fun a hf => sA hf rfl rfl fun a hf => sN <| hK69 _ _ <| cF hf rfl <| wp_skip <| hK23 _ _ <| wS fun K71 hK71 => wS fun K72 hK72 => wR <| sV hf rfl (ex_fa (k := 2) (r := 2) hf rfl (by kernel_rfl) rfl) fun a hf => sV hf rfl (ex_loadB hf rfl (by kernel_rfl) hB18 rfl) fun a hf => sN <| hK72 _ _ <| wp_block <| wS fun K73 hK73 => wR <| sV hf rfl (ex_eqS (c := false) hf rfl rfl (beqF h1)) fun a hf => sA hf rfl rfl fun a hf => sN <| hK73 _ _ <| cF hf rfl <| wS fun K74 hK74 => wR <| sV hf rfl (ex_eqS (c := false) hf rfl rfl (beqF h2)) fun a hf => sA hf rfl rfl fun a hf => sN <| hK74 _ _ <| cF hf rfl <| wS fun K75 hK75 => wR <| sV hf rfl (ex_eqS (c := false) hf rfl rfl (beqF h3)) fun a hf => sA hf rfl rfl fun a hf => sN <| hK75 _ _ <| cF hf rfl <| wS fun K76 hK76 => wR <| sV hf rfl (ex_eqS (c := false) hf rfl rfl (beqF h4)) fun a hf => sA hf rfl rfl fun a hf => sN <| hK76 _ _ <| cF hf rfl <| wS fun K77 hK77 => wR <| sV hf rfl (ex_eqS (c := false) hf rfl rfl (beqF h5)) fun a hf => sA hf rfl rfl fun a hf => sN <| hK77 _ _ <| cF hf rfl <| wp_skip <| hK71 _ _ <| wS fun K78 hK78 => wS fun K79 hK79 => wR <| sM hf rfl rfl fun a hf => sV hf rfl (ex_eqI (c := true) hf rfl rfl (by decide)) fun a hf => sN <| hK79 _ _ <| cT hf rfl <| wS fun K80 hK80 => wR <| sM hf rfl rfl fun a hf => st_c hf rfl rfl rfl (by kernel_rfl) (pFailL (e := 2) hP (by decide)) ?_
  rintro _ w82 ⟨rfl, hP, hx81⟩
  refine ⟨_, rfl, fun a hf => ?_⟩
  replace hB4 := hB4.chg hx81 (nmc (Ne.symm ne_p_b3) nm0)
  replace hB18 := hB18.chg hx81 (nmc (Ne.symm ne_p_b12) nm0)
  replace hE := hE.trans hx81 (allc (.inl (by simp)) all0)
  refine sN <| hK80 _ _ <| wS fun K83 hK83 => wR <| sV hf rfl (ex_bd (ps := []) (z := zT) (os := []) hf rfl (by kernel_rfl) (by kernel_rfl) (by kernel_rfl) rfl rfl) fun a hf => ?_
  obtain ⟨w84, he, hB85, hx86⟩ := eN (.tmp 2) (.tmp 61) hf rfl rfl rfl rfl hB4 rfl 0
  refine st_s hf rfl rfl he fun a hf => ?_
  replace hB18 := hB18.chg hx86 (nmc (Ne.symm ne_b3_b12) nm0)
  replace hP := hP.chg hx86 (allc ⟨hH_b3, ne_p_b3⟩ all0)
  replace hE := hE.trans hx86 (allc (.inr ge_b3) all0)
  clear hB4
  refine sN <| hK83 _ _ <| wp_ret ?_
  rw [unitF_none hk h1 h2 h3 h4 h5 hk5 hk6]
  replace hL := pFail_len 2 s
  try simp only [Exit.then, Exit.inBlock]
  exact ret_of (rs := [.cell 2 26]) hf rfl ⟨_, _, _, _, 4, rfl, rfl, by kernel_rfl, hB85, rfl, rfl⟩ ⟨_, _, _, _, rfl, tree_mk (Nat.le_refl _) (maxLen_ge rfl) (Nat.le_refl _) (maxLen_ge rfl) RowIn.none_ kids_none RowIn.none_, hP, hE, hL⟩
theorem unitL {H p n : Nat} {s : PS} {w : World} (ih : ExprOk n) (hP : PAt H w p s) (hn : s.toks.length < n + 1) : Calls Try.prog 104 [.pointer (some ⟨p, 0, none⟩)].toArray w (TreePost w H p s (unitF (exprT n) s)) := by
  by_cases k1 : (pNext s).kind = 1
  · exact unit_use1 ih hP hn k1
  by_cases k3 : (pNext s).kind = 3
  · exact unit_use3 ih hP hn k3
  have hk : ¬ ((pNext s).kind = 1 ∨ (pNext s).kind = 3) := fun h => h.elim k1 k3
  by_cases h1 : (pNext s).text = wTrue
  · exact unit_true ih hP hn hk h1
  by_cases h2 : (pNext s).text = wFalse
  · exact unit_false ih hP hn hk h1 h2
  by_cases h3 : (pNext s).text = [63]
  · exact unit_hole ih hP hn hk h1 h2 h3
  by_cases h4 : (pNext s).text = [91]
  · exact unit_list ih hP hn hk h1 h2 h3 h4
  by_cases h5 : (pNext s).text = [40]
  · exact unit_paren ih hP hn hk h1 h2 h3 h4 h5
  · exact unit_else ih hP hn hk h1 h2 h3 h4 h5
end Go.Proofs.Ythpjpngfghcmcaa
namespace Go.Proofs.Ythpjpngfghcmcaa
open Go.RowKit Lx Sx
set_option maxRecDepth 100000
set_option maxHeartbeats 4000000
theorem operB_ne {x : List UInt8} (h : operB x = true) : x ≠ [] := by rintro rfl; exact absurd h (by decide)
theorem binF_step {U : PS → Tree × PS} {F : Nat} {t : Tree} {s : PS} (h : operB (pNext s).text = true) : binF U (F + 1) t s = binF U F (.node 21 (pNext s).text [(pNext s).lead] [t, (U (pTake s)).1]) (U (pTake s)).2 := by rw [binF, if_pos h]
theorem binF_stop {U : PS → Tree × PS} {F : Nat} {t : Tree} {s : PS} (h : operB (pNext s).text = false) : binF U F t s = (t, s) := by
  cases F with
  | zero => rfl
  | succ F => rw [binF, if_neg (by rw [h]; decide)]
theorem binL {H p n : Nat} {s : PS} {w : World} (ih : ExprOk n) (hP : PAt H w p s) (hn : s.toks.length < n + 1) (h0 : ¬ (pNext s).text = wLet) (h1 : ¬ (pNext s).text = wIf) : Calls Try.prog 84 [.pointer (some ⟨p, 0, none⟩)].toArray w (TreePost w H p s (exprT (n + 1) s)) := by
  have hq : exprT (n + 1) s = binF (unitF (exprT n)) ((unitF (exprT n) s).2.toks.length + 1) (unitF (exprT n) s).1 (unitF (exprT n) s).2 := by rw [exprT, exprF, if_neg h0, if_neg h1]
  refine enter_fr 115 Try.func84 rfl rfl rfl ?_
  intro a hf
  have hE := Chg.refl [p] w
  have hL := Nat.le_refl s.toks.length
  have lt_p := hP.lt
  refine wS fun K1 hK1 => wR ?_
  obtain ⟨w2, b3, he, hB4, hx5, eb6, lb7⟩ := eT a w 0
  refine sV hf rfl he fun a hf => ?_
  have ne_p_b3 : p ≠ b3 := ne_new hP.lt eb6
  have ge_b3 := ge_new hE eb6
  have hH_b3 : H ≤ b3 := by have := hP.le; have := hP.lt; omega
  replace hP := hP.chg hx5 all0
  replace hE := hE.t0 hx5
  clear eb6 lb7
  refine sN <| hK1 _ _ <| wS fun K8 hK8 => wS fun K9 hK9 => wR <| sM hf rfl rfl fun a hf => st_c hf rfl rfl rfl (by kernel_rfl) (pNextL hP) ?_
  rintro _ w11 ⟨rfl, hP, hx10⟩
  refine ⟨_, rfl, fun a hf => ?_⟩
  replace hB4 := hB4.c0 hx10
  replace hE := hE.t0 hx10
  refine sV hf rfl (ex_fd (k := 2) hf rfl (by kernel_rfl) rfl) fun a hf => sN <| hK9 _ _ <| wp_block <| wS fun K12 hK12 => wR <| sV hf rfl (ex_eqS (c := false) hf rfl rfl (beqF h0)) fun a hf => sA hf rfl rfl fun a hf => sN <| hK12 _ _ <| cF hf rfl <| wS fun K13 hK13 => wR <| sV hf rfl (ex_eqS (c := false) hf rfl rfl (beqF h1)) fun a hf => sA hf rfl rfl fun a hf => sN <| hK13 _ _ <| cF hf rfl <| wp_skip <| hK8 _ _ <| wS fun K14 hK14 => wR <| sM hf rfl rfl fun a hf => ?_
  have plt15 := hP.lt
  refine st_c hf rfl rfl rfl (by kernel_rfl) (unitL ih hP hn) ?_
  rintro _ w16 ⟨c15_0, c15_1, c15_2, c15_3, rfl, hT15, hP, hx15, hl15⟩
  refine ⟨_, rfl, fun a hf => ?_⟩
  obtain ⟨lo17, elo17⟩ : ∃ x, x = w11.heap.size := ⟨_, rfl⟩
  obtain ⟨hi17, ehi17⟩ : ∃ x, x = w16.heap.size := ⟨_, rfl⟩
  replace hT15 := hT15.within elo17 ehi17
  have hle17 : hi17 ≤ w16.heap.size := Nat.le_of_eq ehi17
  have ge_lo17 : w.heap.size ≤ lo17 := elo17 ▸ hE.size
  have tb_lo17_b3 : b3 < lo17 := elo17 ▸ hB4.lt
  have tb_lo17_p : p < lo17 := elo17 ▸ plt15
  clear elo17 ehi17
  clear plt15
  have on_hT15 := hT15.one
  replace hB4 := hB4.chg hx15 (nmc (Ne.symm ne_p_b3) nm0)
  replace hE := hE.trans hx15 (allc (.inl (by simp)) all0)
  replace hL := nlt hl15 hL
  obtain ⟨w18, b19, he, hB20, hx21, eb22, lb23⟩ := eT a w16 0
  refine sV hf rfl he fun a hf => ?_
  have ne_b3_b19 : b3 ≠ b19 := ne_new hB4.lt eb22
  have ne_p_b19 : p ≠ b19 := ne_new hP.lt eb22
  have ta_hi17_b19 : hi17 ≤ b19 := eb22 ▸ hle17
  have ge_b19 := ge_new hE eb22
  have hH_b19 : H ≤ b19 := by have := hP.le; have := hP.lt; omega
  replace hB4 := hB4.c0 hx21
  replace hP := hP.chg hx21 all0
  replace hT15 := hT15.chg hx21 (fun b hb _ => nm0)
  replace hle17 := nlt hle17 hx21.size
  replace hE := hE.t0 hx21
  clear eb22 lb23
  obtain ⟨w24, he, hB25, hx26⟩ := eN (.tmp 5) (.tmp 97) hf rfl rfl rfl on_hT15 hB20 rfl 0
  refine st_s hf rfl rfl he fun a hf => ?_
  replace hB4 := hB4.chg hx26 (nmc ne_b3_b19 nm0)
  replace hP := hP.chg hx26 (allc ⟨hH_b19, ne_p_b19⟩ all0)
  replace hT15 := hT15.chg hx26 (fun b hb _ => (nmc (by omega) nm0))
  replace hle17 := nlt hle17 hx26.size
  replace hE := hE.trans hx26 (allc (.inr ge_b19) all0)
  clear hB20
  refine sN <| hK14 _ _ <| wS fun K27 hK27 => wp_block ?_
  obtain ⟨R, hRd⟩ : ∃ R, binF (unitF (exprT n)) ((unitF (exprT n) s).2.toks.length + 1) (unitF (exprT n) s).1 (unitF (exprT n) s).2 = R := ⟨_, rfl⟩
  refine wp_loop_ghost (fun g a w' => ∃ t s' c0 c1 c2 c3 F, Fr a 115 (fm [(0, .pointer (some ⟨p, 0, none⟩)), (2, .pointer (some ⟨b3, 0, none⟩)), (5, .pointer (some ⟨b19, 0, none⟩))]) ∧ PAt H w' p s' ∧ Chg [p] w w' ∧ Blk w' b3 26 [.int .i64 0, strV [], .slice none 0 0, .slice none 0 0] ∧ Blk w' b19 26 [c0, c1, c2, c3] ∧ TreeIs (fun b => w.heap.size ≤ b ∧ b ≠ b3 ∧ b ≠ b19) w' t [c0, c1, c2, c3] ∧ g = s'.toks.length ∧ s'.toks.length < F ∧ binF (unitF (exprT n)) F t s' = R ∧ s'.toks.length ≤ s.toks.length) _ ⟨_, _, c15_0, c15_1, c15_2, c15_3, _, hf.pick ⟨rfl, rfl, rfl, trivial⟩, hP, hE, hB4, hB25, (hT15.mono (fun b hb => by omega)), rfl, Nat.lt_succ_self _, hRd, hL⟩ ?_
  obtain ⟨b2, eb2⟩ : ∃ x, b3 = x := ⟨_, rfl⟩
  obtain ⟨b5, eb5⟩ : ∃ x, b19 = x := ⟨_, rfl⟩
  rw [eb2, eb5]
  have ge_b2 : w.heap.size ≤ b2 := eb2 ▸ ge_b3
  have ge_b5 : w.heap.size ≤ b5 := eb5 ▸ ge_b19
  have ne_b2_b5 : b2 ≠ b5 := by have := ne_b3_b19; omega
  clear eb2 eb5 hf a
  intro g0 a w' hI
  obtain ⟨t, s', c0, c1, c2, c3, F, hf, hP, hE, hB2, hB5, hTS, rfl, hF, hR, hLs⟩ := hI
  have on_T := hTS.one
  have ne_p_b2 : p ≠ b2 := by omega
  have hH_b2 : H ≤ b2 := by have := hP.le; omega
  have ne_p_b5 : p ≠ b5 := by omega
  have hH_b5 : H ≤ b5 := by have := hP.le; omega
  refine wS fun K28 hK28 => wS fun K29 hK29 => wR <| sM hf rfl rfl fun a hf => st_c hf rfl rfl rfl (by kernel_rfl) (pNextL hP) ?_
  rintro _ w31 ⟨rfl, hP, hx30⟩
  refine ⟨_, rfl, fun a hf => ?_⟩
  replace hB2 := hB2.c0 hx30
  replace hB5 := hB5.c0 hx30
  replace hTS := hTS.chg hx30 (fun b hb hlt => nm0)
  replace hE := hE.t0 hx30
  refine sV hf rfl (ex_fd (k := 2) hf rfl (by kernel_rfl) rfl) fun a hf => st_c hf rfl rfl rfl (by kernel_rfl) (operatorL) ?_
  rintro _ w33 ⟨rfl, hx32⟩
  refine ⟨_, rfl, fun a hf => ?_⟩
  replace hB2 := hB2.c0 hx32
  replace hB5 := hB5.c0 hx32
  replace hP := hP.chg hx32 all0
  replace hTS := hTS.chg hx32 (fun b hb hlt => nm0)
  replace hE := hE.t0 hx32
  refine sN <| hK29 _ _ <| cd_b hf rfl ?_ ?_
  intro hop
  obtain ⟨t', r', hs', hn'⟩ := pNext_cons (s := s') (.inl (operB_ne hop))
  have htl' := pTake_lt hs'
  obtain ⟨F', rfl⟩ : ∃ F', F = F' + 1 := ⟨F - 1, by omega⟩
  refine wp_skip <| hK28 _ _ <| wp_block <| wS fun K35 hK35 => wR <| sM hf rfl rfl fun a hf => st_c hf rfl rfl rfl (by kernel_rfl) (pTakeL hP hs') ?_
  rintro _ w37 ⟨rfl, hP, hx36⟩
  refine ⟨_, rfl, fun a hf => ?_⟩
  replace hB2 := hB2.chg hx36 (nmc (Ne.symm ne_p_b2) nm0)
  replace hB5 := hB5.chg hx36 (nmc (Ne.symm ne_p_b5) nm0)
  replace hTS := hTS.chg hx36 (fun b hb hlt => (nmc (by omega) nm0))
  replace hE := hE.trans hx36 (allc (.inl (by simp)) all0)
  obtain ⟨w38, b39, he, hB40, hx41, eb42, lb43⟩ := ef_alloc (P := Try.prog) (t := 49) [.int .i64 0, .string ⟨([] : List UInt8).toArray⟩, .string ⟨([] : List UInt8).toArray⟩] (by kernel_rfl) a w37 0
  refine sV hf rfl he fun a hf => ?_
  replace hTS : TreeIs (fun b => w.heap.size ≤ b ∧ b ≠ b2 ∧ b ≠ b5 ∧ b ≠ b39) w37 _ _ := hTS.keepB (fun b hb hlt => by omega) (fun _ _ _ => rfl)
  have ne_b2_b39 : b2 ≠ b39 := ne_new hB2.lt eb42
  have ne_b5_b39 : b5 ≠ b39 := ne_new hB5.lt eb42
  have ne_p_b39 : p ≠ b39 := ne_new hP.lt eb42
  have ge_b39 := ge_new hE eb42
  have hH_b39 : H ≤ b39 := by have := hP.le; have := hP.lt; omega
  replace hB2 := hB2.c0 hx41
  replace hB5 := hB5.c0 hx41
  replace hP := hP.chg hx41 all0
  replace hTS := hTS.chg hx41 (fun b hb hlt => nm0)
  replace hE := hE.t0 hx41
  clear eb42 lb43
  obtain ⟨w44, he, hB45, hx46⟩ := ef_storeN (P := Try.prog) (t := 49) (x := (.tmp 6)) (y := (.tmp 103)) (m := 3) hf rfl rfl (by kernel_rfl) rfl rfl hB40 rfl 0
  refine st_s hf rfl rfl he fun a hf => ?_
  replace hB2 := hB2.chg hx46 (nmc ne_b2_b39 nm0)
  replace hB5 := hB5.chg hx46 (nmc ne_b5_b39 nm0)
  replace hP := hP.chg hx46 (allc ⟨hH_b39, ne_p_b39⟩ all0)
  replace hTS := hTS.chg hx46 (fun b hb hlt => (nmc (by omega) nm0))
  replace hE := hE.trans hx46 (allc (.inr ge_b39) all0)
  clear hB40
  refine sN <| hK35 _ _ ?_
  have s_hB45 := hB45
  have s_hB5 := hB5
  refine dl_start (fun x => x.cell? ⟨b39, 2, none⟩ = w44.cell? ⟨b39, 2, none⟩ ∧ x.cell? ⟨b39, 1, none⟩ = w44.cell? ⟨b39, 1, none⟩ ∧ x.cell? ⟨b5, 0, none⟩ = w44.cell? ⟨b5, 0, none⟩ ∧ x.cell? ⟨b5, 1, none⟩ = w44.cell? ⟨b5, 1, none⟩ ∧ x.cell? ⟨b5, 2, none⟩ = w44.cell? ⟨b5, 2, none⟩ ∧ x.cell? ⟨b5, 3, none⟩ = w44.cell? ⟨b5, 3, none⟩) 10 11 rfl (by kernel_rfl) (by kernel_rfl) ?_
  intro w47 hx48 hsel
  replace hB2 := hB2.c0 hx48
  replace hB5 := hB5.c0 hx48
  replace hB45 := hB45.c0 hx48
  replace hP := hP.chg hx48 all0
  replace hTS := hTS.chg hx48 (fun b hb hlt => nm0)
  replace hE := hE.t0 hx48
  have hS0 : w47.cell? ⟨b39, 2, none⟩ = w44.cell? ⟨b39, 2, none⟩ ∧ w47.cell? ⟨b39, 1, none⟩ = w44.cell? ⟨b39, 1, none⟩ ∧ w47.cell? ⟨b5, 0, none⟩ = w44.cell? ⟨b5, 0, none⟩ ∧ w47.cell? ⟨b5, 1, none⟩ = w44.cell? ⟨b5, 1, none⟩ ∧ w47.cell? ⟨b5, 2, none⟩ = w44.cell? ⟨b5, 2, none⟩ ∧ w47.cell? ⟨b5, 3, none⟩ = w44.cell? ⟨b5, 3, none⟩ := ⟨(hB45.cell 2).trans (s_hB45.cell 2).symm, (hB45.cell 1).trans (s_hB45.cell 1).symm, (hB5.cell 0).trans (s_hB5.cell 0).symm, (hB5.cell 1).trans (s_hB5.cell 1).symm, (hB5.cell 2).trans (s_hB5.cell 2).symm, (hB5.cell 3).trans (s_hB5.cell 3).symm⟩
  refine dV 0 rfl rfl hsel (by kernel_rfl) hf rfl (.inl hS0) (fun x => ex_fa (k := 2) (r := 2) hf rfl (by kernel_rfl) rfl) fun a hf => dL 1 rfl rfl hsel (by kernel_rfl) hf rfl hS0 (fun x hS => ex_load hf rfl (by kernel_rfl) (hS.1.trans ((s_hB45.cell 2).trans rfl))) fun a hf => dV 2 rfl rfl hsel (by kernel_rfl) hf rfl (.inl hS0) (fun x => ex_fa (k := 1) (r := 1) hf rfl (by kernel_rfl) rfl) fun a hf => dL 3 rfl rfl hsel (by kernel_rfl) hf rfl hS0 (fun x hS => ex_load hf rfl (by kernel_rfl) (hS.2.1.trans ((s_hB45.cell 1).trans rfl))) fun a hf => dL 5 rfl rfl hsel (by kernel_rfl) hf rfl hS0 (fun x hS => ex_loadX4 hf rfl (by kernel_rfl) s_hB5 rfl hS.2.2.1 hS.2.2.2.1 hS.2.2.2.2.1 hS.2.2.2.2.2) fun a hf => dM 6 rfl rfl hsel (by kernel_rfl) hf rfl hS0 rfl fun a hf => dl_two 4 7 (by kernel_rfl) ?_ ?_
  obtain ⟨w49, b50, he, hB51, hx52, eb53, lb54⟩ := ef_bslice (P := Try.prog) (ps := [(0, (.tmp 107))]) (m := 1) (sz := 1) (z := [.string ⟨([] : List UInt8).toArray⟩]) hf rfl Try.underlying23 (by kernel_rfl) (by kernel_rfl) rfl rfl (by kernel_rfl) rfl w47 23
  refine op_e 4 rfl hf rfl rfl he fun a hf => ?_
  have ne_b2_b50 : b2 ≠ b50 := ne_new hB2.lt eb53
  have ne_b5_b50 : b5 ≠ b50 := ne_new hB5.lt eb53
  have ne_b39_b50 : b39 ≠ b50 := ne_new hB45.lt eb53
  have ne_p_b50 : p ≠ b50 := ne_new hP.lt eb53
  have ge_b50 := ge_new hE eb53
  have hH_b50 : H ≤ b50 := by have := hP.le; have := hP.lt; omega
  replace hB2 := hB2.c0 hx52
  replace hB5 := hB5.c0 hx52
  replace hB45 := hB45.c0 hx52
  replace hP := hP.chg hx52 all0
  replace hTS := hTS.chg hx52 (fun b hb hlt => nm0)
  replace hE := hE.t0 hx52
  clear eb53 lb54
  clear hS0
  have hS0 : w49.cell? ⟨b39, 2, none⟩ = w44.cell? ⟨b39, 2, none⟩ ∧ w49.cell? ⟨b39, 1, none⟩ = w44.cell? ⟨b39, 1, none⟩ ∧ w49.cell? ⟨b5, 0, none⟩ = w44.cell? ⟨b5, 0, none⟩ ∧ w49.cell? ⟨b5, 1, none⟩ = w44.cell? ⟨b5, 1, none⟩ ∧ w49.cell? ⟨b5, 2, none⟩ = w44.cell? ⟨b5, 2, none⟩ ∧ w49.cell? ⟨b5, 3, none⟩ = w44.cell? ⟨b5, 3, none⟩ := ⟨(hB45.cell 2).trans (s_hB45.cell 2).symm, (hB45.cell 1).trans (s_hB45.cell 1).symm, (hB5.cell 0).trans (s_hB5.cell 0).symm, (hB5.cell 1).trans (s_hB5.cell 1).symm, (hB5.cell 2).trans (s_hB5.cell 2).symm, (hB5.cell 3).trans (s_hB5.cell 3).symm⟩
  refine ⟨.inl hS0, ?_⟩
  have plt55 := hP.lt
  refine dl_c 7 (by kernel_rfl) rfl hf rfl rfl rfl (by kernel_rfl) (unitL (s := pTake s') ih hP (by omega)) ?_
  rintro _ w56 ⟨c55_0, c55_1, c55_2, c55_3, rfl, hT55, hP, hx55, hl55⟩
  refine ⟨_, rfl, fun a hf => ?_⟩
  obtain ⟨lo57, elo57⟩ : ∃ x, x = w49.heap.size := ⟨_, rfl⟩
  obtain ⟨hi57, ehi57⟩ : ∃ x, x = w56.heap.size := ⟨_, rfl⟩
  replace hT55 := hT55.within elo57 ehi57
  have hle57 : hi57 ≤ w56.heap.size := Nat.le_of_eq ehi57
  have ge_lo57 : w.heap.size ≤ lo57 := elo57 ▸ hE.size
  have tb_lo57_b2 : b2 < lo57 := elo57 ▸ hB2.lt
  have tb_lo57_b5 : b5 < lo57 := elo57 ▸ hB5.lt
  have tb_lo57_b39 : b39 < lo57 := elo57 ▸ hB45.lt
  have tb_lo57_b50 : b50 < lo57 := elo57 ▸ hB51.lt
  have tb_lo57_p : p < lo57 := elo57 ▸ plt55
  clear elo57 ehi57
  clear plt55
  have on_hT55 := hT55.one
  replace hB2 := hB2.chg hx55 (nmc (Ne.symm ne_p_b2) nm0)
  replace hB5 := hB5.chg hx55 (nmc (Ne.symm ne_p_b5) nm0)
  replace hB45 := hB45.chg hx55 (nmc (Ne.symm ne_p_b39) nm0)
  replace hB51 := hB51.chg hx55 (nmc (Ne.symm ne_p_b50) nm0)
  replace hTS := hTS.chg hx55 (fun b hb hlt => (nmc (by omega) nm0))
  replace hE := hE.trans hx55 (allc (.inl (by simp)) all0)
  clear hS0
  have hS0 : w56.cell? ⟨b39, 2, none⟩ = w44.cell? ⟨b39, 2, none⟩ ∧ w56.cell? ⟨b39, 1, none⟩ = w44.cell? ⟨b39, 1, none⟩ ∧ w56.cell? ⟨b5, 0, none⟩ = w44.cell? ⟨b5, 0, none⟩ ∧ w56.cell? ⟨b5, 1, none⟩ = w44.cell? ⟨b5, 1, none⟩ ∧ w56.cell? ⟨b5, 2, none⟩ = w44.cell? ⟨b5, 2, none⟩ ∧ w56.cell? ⟨b5, 3, none⟩ = w44.cell? ⟨b5, 3, none⟩ := ⟨(hB45.cell 2).trans (s_hB45.cell 2).symm, (hB45.cell 1).trans (s_hB45.cell 1).symm, (hB5.cell 0).trans (s_hB5.cell 0).symm, (hB5.cell 1).trans (s_hB5.cell 1).symm, (hB5.cell 2).trans (s_hB5.cell 2).symm, (hB5.cell 3).trans (s_hB5.cell 3).symm⟩
  refine ⟨.inl hS0, ?_⟩
  obtain ⟨w58, b59, he, hB60, hx61, eb62, lb63⟩ := ef_bslice (P := Try.prog) (ps := [(0, (.tmp 109)), (1, (.tmp 111))]) (m := 2) (sz := 4) (z := zT) hf rfl Try.underlying24 (by kernel_rfl) (by kernel_rfl) rfl rfl (by kernel_rfl) rfl w56 24
  refine dl_e 8 (by kernel_rfl) rfl hf rfl rfl he fun a hf => ?_
  have ne_b2_b59 : b2 ≠ b59 := ne_new hB2.lt eb62
  have ne_b5_b59 : b5 ≠ b59 := ne_new hB5.lt eb62
  have ne_b39_b59 : b39 ≠ b59 := ne_new hB45.lt eb62
  have ne_b50_b59 : b50 ≠ b59 := ne_new hB51.lt eb62
  have ne_p_b59 : p ≠ b59 := ne_new hP.lt eb62
  have ta_hi57_b59 : hi57 ≤ b59 := eb62 ▸ hle57
  have ge_b59 := ge_new hE eb62
  have hH_b59 : H ≤ b59 := by have := hP.le; have := hP.lt; omega
  replace hB2 := hB2.c0 hx61
  replace hB5 := hB5.c0 hx61
  replace hB45 := hB45.c0 hx61
  replace hB51 := hB51.c0 hx61
  replace hP := hP.chg hx61 all0
  replace hTS := hTS.chg hx61 (fun b hb hlt => nm0)
  replace hT55 := hT55.chg hx61 (fun b hb _ => nm0)
  replace hle57 := nlt hle57 hx61.size
  replace hE := hE.t0 hx61
  clear eb62 lb63
  clear hS0
  have hS0 : w58.cell? ⟨b39, 2, none⟩ = w44.cell? ⟨b39, 2, none⟩ ∧ w58.cell? ⟨b39, 1, none⟩ = w44.cell? ⟨b39, 1, none⟩ ∧ w58.cell? ⟨b5, 0, none⟩ = w44.cell? ⟨b5, 0, none⟩ ∧ w58.cell? ⟨b5, 1, none⟩ = w44.cell? ⟨b5, 1, none⟩ ∧ w58.cell? ⟨b5, 2, none⟩ = w44.cell? ⟨b5, 2, none⟩ ∧ w58.cell? ⟨b5, 3, none⟩ = w44.cell? ⟨b5, 3, none⟩ := ⟨(hB45.cell 2).trans (s_hB45.cell 2).symm, (hB45.cell 1).trans (s_hB45.cell 1).symm, (hB5.cell 0).trans (s_hB5.cell 0).symm, (hB5.cell 1).trans (s_hB5.cell 1).symm, (hB5.cell 2).trans (s_hB5.cell 2).symm, (hB5.cell 3).trans (s_hB5.cell 3).symm⟩
  refine ⟨.inl hS0, ?_⟩
  refine dV 9 rfl rfl hsel (by kernel_rfl) hf rfl (.inl hS0) (fun x => ex_bd (ps := [(0, (.const (.int .i64 21))), (1, (.tmp 105)), (2, (.tmp 108)), (3, (.tmp 112))]) (z := zT) (os := [0, 1, 2, 3]) hf rfl (by kernel_rfl) (by kernel_rfl) (by kernel_rfl) rfl rfl) fun a hf => ?_
  obtain ⟨w64, he, hB65, hx66⟩ := eN (.tmp 5) (.tmp 113) hf rfl rfl rfl rfl hB5 rfl 0
  refine dl_s 10 (by kernel_rfl) rfl hf rfl rfl he fun a hf => ?_
  replace hB2 := hB2.chg hx66 (nmc ne_b2_b5 nm0)
  replace hB45 := hB45.chg hx66 (nmc (Ne.symm ne_b5_b39) nm0)
  replace hB51 := hB51.chg hx66 (nmc (Ne.symm ne_b5_b50) nm0)
  replace hB60 := hB60.chg hx66 (nmc (Ne.symm ne_b5_b59) nm0)
  replace hP := hP.chg hx66 (allc ⟨hH_b5, ne_p_b5⟩ all0)
  replace hTS := hTS.chg hx66 (fun b hb hlt => (nmc (by omega) nm0))
  replace hT55 := hT55.chg hx66 (fun b hb _ => (nmc (by omega) nm0))
  replace hle57 := nlt hle57 hx66.size
  replace hE := hE.trans hx66 (allc (.inr ge_b5) all0)
  clear hB5
  refine ⟨.inr (by kernel_rfl), ?_⟩
  refine dl_done (by kernel_rfl) ?_
  clear hS0 hsel
  have hR' := (binF_step hop).symm.trans hR
  rw [hn'] at hR'
  have hl3 : (unitF (exprT n) (pTake s')).2.toks.length < s'.toks.length := by have := hl55; omega
  exact ⟨_, hl3, _, _, _, _, _, _, F', hf.pick ⟨rfl, rfl, rfl, trivial⟩, hP, hE, hB2, hB65, tree_mk (Nat.le_refl _) (maxLen_ge rfl) (Nat.le_refl _) (maxLen_ge rfl) (RowIn.of_blk hB51 (by omega) rfl) (kids_two (hTS.keepB (fun b hb hlt => by omega) (fun _ _ _ => rfl)) (hT55.mono (fun b hb => by omega))) (RowIn.of_blk hB60 (by omega) rfl), rfl, by omega, hR', by omega⟩
  have plt67 := hP.lt
  refine op_c 7 rfl hf rfl rfl rfl (by kernel_rfl) (unitL (s := pTake s') ih hP (by omega)) ?_
  rintro _ w68 ⟨c67_0, c67_1, c67_2, c67_3, rfl, hT67, hP, hx67, hl67⟩
  refine ⟨_, rfl, fun a hf => ?_⟩
  obtain ⟨lo69, elo69⟩ : ∃ x, x = w47.heap.size := ⟨_, rfl⟩
  obtain ⟨hi69, ehi69⟩ : ∃ x, x = w68.heap.size := ⟨_, rfl⟩
  replace hT67 := hT67.within elo69 ehi69
  have hle69 : hi69 ≤ w68.heap.size := Nat.le_of_eq ehi69
  have ge_lo69 : w.heap.size ≤ lo69 := elo69 ▸ hE.size
  have tb_lo69_b2 : b2 < lo69 := elo69 ▸ hB2.lt
  have tb_lo69_b5 : b5 < lo69 := elo69 ▸ hB5.lt
  have tb_lo69_b39 : b39 < lo69 := elo69 ▸ hB45.lt
  have tb_lo69_p : p < lo69 := elo69 ▸ plt67
  clear elo69 ehi69
  clear plt67
  have on_hT67 := hT67.one
  replace hB2 := hB2.chg hx67 (nmc (Ne.symm ne_p_b2) nm0)
  replace hB5 := hB5.chg hx67 (nmc (Ne.symm ne_p_b5) nm0)
  replace hB45 := hB45.chg hx67 (nmc (Ne.symm ne_p_b39) nm0)
  replace hTS := hTS.chg hx67 (fun b hb hlt => (nmc (by omega) nm0))
  replace hE := hE.trans hx67 (allc (.inl (by simp)) all0)
  clear hS0
  have hS0 : w68.cell? ⟨b39, 2, none⟩ = w44.cell? ⟨b39, 2, none⟩ ∧ w68.cell? ⟨b39, 1, none⟩ = w44.cell? ⟨b39, 1, none⟩ ∧ w68.cell? ⟨b5, 0, none⟩ = w44.cell? ⟨b5, 0, none⟩ ∧ w68.cell? ⟨b5, 1, none⟩ = w44.cell? ⟨b5, 1, none⟩ ∧ w68.cell? ⟨b5, 2, none⟩ = w44.cell? ⟨b5, 2, none⟩ ∧ w68.cell? ⟨b5, 3, none⟩ = w44.cell? ⟨b5, 3, none⟩ := ⟨(hB45.cell 2).trans (s_hB45.cell 2).symm, (hB45.cell 1).trans (s_hB45.cell 1).symm, (hB5.cell 0).trans (s_hB5.cell 0).symm, (hB5.cell 1).trans (s_hB5.cell 1).symm, (hB5.cell 2).trans (s_hB5.cell 2).symm, (hB5.cell 3).trans (s_hB5.cell 3).symm⟩
  refine ⟨.inl hS0, ?_⟩
  refine dl_two 4 8 (by kernel_rfl) ?_ ?_
  obtain ⟨w70, b71, he, hB72, hx73, eb74, lb75⟩ := ef_bslice (P := Try.prog) (ps := [(0, (.tmp 107))]) (m := 1) (sz := 1) (z := [.string ⟨([] : List UInt8).toArray⟩]) hf rfl Try.underlying23 (by kernel_rfl) (by kernel_rfl) rfl rfl (by kernel_rfl) rfl w68 23
  refine op_e 4 rfl hf rfl rfl he fun a hf => ?_
  have ne_b2_b71 : b2 ≠ b71 := ne_new hB2.lt eb74
  have ne_b5_b71 : b5 ≠ b71 := ne_new hB5.lt eb74
  have ne_b39_b71 : b39 ≠ b71 := ne_new hB45.lt eb74
  have ne_p_b71 : p ≠ b71 := ne_new hP.lt eb74
  have ta_hi69_b71 : hi69 ≤ b71 := eb74 ▸ hle69
  have ge_b71 := ge_new hE eb74
  have hH_b71 : H ≤ b71 := by have := hP.le; have := hP.lt; omega
  replace hB2 := hB2.c0 hx73
  replace hB5 := hB5.c0 hx73
  replace hB45 := hB45.c0 hx73
  replace hP := hP.chg hx73 all0
  replace hTS := hTS.chg hx73 (fun b hb hlt => nm0)
  replace hT67 := hT67.chg hx73 (fun b hb _ => nm0)
  replace hle69 := nlt hle69 hx73.size
  replace hE := hE.t0 hx73
  clear eb74 lb75
  clear hS0
  have hS0 : w70.cell? ⟨b39, 2, none⟩ = w44.cell? ⟨b39, 2, none⟩ ∧ w70.cell? ⟨b39, 1, none⟩ = w44.cell? ⟨b39, 1, none⟩ ∧ w70.cell? ⟨b5, 0, none⟩ = w44.cell? ⟨b5, 0, none⟩ ∧ w70.cell? ⟨b5, 1, none⟩ = w44.cell? ⟨b5, 1, none⟩ ∧ w70.cell? ⟨b5, 2, none⟩ = w44.cell? ⟨b5, 2, none⟩ ∧ w70.cell? ⟨b5, 3, none⟩ = w44.cell? ⟨b5, 3, none⟩ := ⟨(hB45.cell 2).trans (s_hB45.cell 2).symm, (hB45.cell 1).trans (s_hB45.cell 1).symm, (hB5.cell 0).trans (s_hB5.cell 0).symm, (hB5.cell 1).trans (s_hB5.cell 1).symm, (hB5.cell 2).trans (s_hB5.cell 2).symm, (hB5.cell 3).trans (s_hB5.cell 3).symm⟩
  refine ⟨.inl hS0, ?_⟩
  obtain ⟨w76, b77, he, hB78, hx79, eb80, lb81⟩ := ef_bslice (P := Try.prog) (ps := [(0, (.tmp 109)), (1, (.tmp 111))]) (m := 2) (sz := 4) (z := zT) hf rfl Try.underlying24 (by kernel_rfl) (by kernel_rfl) rfl rfl (by kernel_rfl) rfl w70 24
  refine dl_e 8 (by kernel_rfl) rfl hf rfl rfl he fun a hf => ?_
  have ne_b2_b77 : b2 ≠ b77 := ne_new hB2.lt eb80
  have ne_b5_b77 : b5 ≠ b77 := ne_new hB5.lt eb80
  have ne_b39_b77 : b39 ≠ b77 := ne_new hB45.lt eb80
  have ne_b71_b77 : b71 ≠ b77 := ne_new hB72.lt eb80
  have ne_p_b77 : p ≠ b77 := ne_new hP.lt eb80
  have ta_hi69_b77 : hi69 ≤ b77 := eb80 ▸ hle69
  have ge_b77 := ge_new hE eb80
  have hH_b77 : H ≤ b77 := by have := hP.le; have := hP.lt; omega
  replace hB2 := hB2.c0 hx79
  replace hB5 := hB5.c0 hx79
  replace hB45 := hB45.c0 hx79
  replace hB72 := hB72.c0 hx79
  replace hP := hP.chg hx79 all0
  replace hTS := hTS.chg hx79 (fun b hb hlt => nm0)
  replace hT67 := hT67.chg hx79 (fun b hb _ => nm0)
  replace hle69 := nlt hle69 hx79.size
  replace hE := hE.t0 hx79
  clear eb80 lb81
  clear hS0
  have hS0 : w76.cell? ⟨b39, 2, none⟩ = w44.cell? ⟨b39, 2, none⟩ ∧ w76.cell? ⟨b39, 1, none⟩ = w44.cell? ⟨b39, 1, none⟩ ∧ w76.cell? ⟨b5, 0, none⟩ = w44.cell? ⟨b5, 0, none⟩ ∧ w76.cell? ⟨b5, 1, none⟩ = w44.cell? ⟨b5, 1, none⟩ ∧ w76.cell? ⟨b5, 2, none⟩ = w44.cell? ⟨b5, 2, none⟩ ∧ w76.cell? ⟨b5, 3, none⟩ = w44.cell? ⟨b5, 3, none⟩ := ⟨(hB45.cell 2).trans (s_hB45.cell 2).symm, (hB45.cell 1).trans (s_hB45.cell 1).symm, (hB5.cell 0).trans (s_hB5.cell 0).symm, (hB5.cell 1).trans (s_hB5.cell 1).symm, (hB5.cell 2).trans (s_hB5.cell 2).symm, (hB5.cell 3).trans (s_hB5.cell 3).symm⟩
  refine ⟨.inl hS0, ?_⟩
  refine dV 9 rfl rfl hsel (by kernel_rfl) hf rfl (.inl hS0) (fun x => ex_bd (ps := [(0, (.const (.int .i64 21))), (1, (.tmp 105)), (2, (.tmp 108)), (3, (.tmp 112))]) (z := zT) (os := [0, 1, 2, 3]) hf rfl (by kernel_rfl) (by kernel_rfl) (by kernel_rfl) rfl rfl) fun a hf => ?_
  obtain ⟨w82, he, hB83, hx84⟩ := eN (.tmp 5) (.tmp 113) hf rfl rfl rfl rfl hB5 rfl 0
  refine dl_s 10 (by kernel_rfl) rfl hf rfl rfl he fun a hf => ?_
  replace hB2 := hB2.chg hx84 (nmc ne_b2_b5 nm0)
  replace hB45 := hB45.chg hx84 (nmc (Ne.symm ne_b5_b39) nm0)
  replace hB72 := hB72.chg hx84 (nmc (Ne.symm ne_b5_b71) nm0)
  replace hB78 := hB78.chg hx84 (nmc (Ne.symm ne_b5_b77) nm0)
  replace hP := hP.chg hx84 (allc ⟨hH_b5, ne_p_b5⟩ all0)
  replace hTS := hTS.chg hx84 (fun b hb hlt => (nmc (by omega) nm0))
  replace hT67 := hT67.chg hx84 (fun b hb _ => (nmc (by omega) nm0))
  replace hle69 := nlt hle69 hx84.size
  replace hE := hE.trans hx84 (allc (.inr ge_b5) all0)
  clear hB5
  refine ⟨.inr (by kernel_rfl), ?_⟩
  refine dl_done (by kernel_rfl) ?_
  clear hS0 hsel
  have hR' := (binF_step hop).symm.trans hR
  rw [hn'] at hR'
  have hl3 : (unitF (exprT n) (pTake s')).2.toks.length < s'.toks.length := by have := hl67; omega
  exact ⟨_, hl3, _, _, _, _, _, _, F', hf.pick ⟨rfl, rfl, rfl, trivial⟩, hP, hE, hB2, hB83, tree_mk (Nat.le_refl _) (maxLen_ge rfl) (Nat.le_refl _) (maxLen_ge rfl) (RowIn.of_blk hB72 (by omega) rfl) (kids_two (hTS.keepB (fun b hb hlt => by omega) (fun _ _ _ => rfl)) (hT67.mono (fun b hb => by omega))) (RowIn.of_blk hB78 (by omega) rfl), rfl, by omega, hR', by omega⟩
  obtain ⟨w85, b86, he, hB87, hx88, eb89, lb90⟩ := ef_bslice (P := Try.prog) (ps := [(0, (.tmp 109)), (1, (.tmp 111))]) (m := 2) (sz := 4) (z := zT) hf rfl Try.underlying24 (by kernel_rfl) (by kernel_rfl) rfl rfl (by kernel_rfl) rfl w68 24
  refine op_e 8 rfl hf rfl rfl he fun a hf => ?_
  have ne_b2_b86 : b2 ≠ b86 := ne_new hB2.lt eb89
  have ne_b5_b86 : b5 ≠ b86 := ne_new hB5.lt eb89
  have ne_b39_b86 : b39 ≠ b86 := ne_new hB45.lt eb89
  have ne_p_b86 : p ≠ b86 := ne_new hP.lt eb89
  have ta_hi69_b86 : hi69 ≤ b86 := eb89 ▸ hle69
  have ge_b86 := ge_new hE eb89
  have hH_b86 : H ≤ b86 := by have := hP.le; have := hP.lt; omega
  replace hB2 := hB2.c0 hx88
  replace hB5 := hB5.c0 hx88
  replace hB45 := hB45.c0 hx88
  replace hP := hP.chg hx88 all0
  replace hTS := hTS.chg hx88 (fun b hb hlt => nm0)
  replace hT67 := hT67.chg hx88 (fun b hb _ => nm0)
  replace hle69 := nlt hle69 hx88.size
  replace hE := hE.t0 hx88
  clear eb89 lb90
  clear hS0
  have hS0 : w85.cell? ⟨b39, 2, none⟩ = w44.cell? ⟨b39, 2, none⟩ ∧ w85.cell? ⟨b39, 1, none⟩ = w44.cell? ⟨b39, 1, none⟩ ∧ w85.cell? ⟨b5, 0, none⟩ = w44.cell? ⟨b5, 0, none⟩ ∧ w85.cell? ⟨b5, 1, none⟩ = w44.cell? ⟨b5, 1, none⟩ ∧ w85.cell? ⟨b5, 2, none⟩ = w44.cell? ⟨b5, 2, none⟩ ∧ w85.cell? ⟨b5, 3, none⟩ = w44.cell? ⟨b5, 3, none⟩ := ⟨(hB45.cell 2).trans (s_hB45.cell 2).symm, (hB45.cell 1).trans (s_hB45.cell 1).symm, (hB5.cell 0).trans (s_hB5.cell 0).symm, (hB5.cell 1).trans (s_hB5.cell 1).symm, (hB5.cell 2).trans (s_hB5.cell 2).symm, (hB5.cell 3).trans (s_hB5.cell 3).symm⟩
  refine ⟨.inl hS0, ?_⟩
  obtain ⟨w91, b92, he, hB93, hx94, eb95, lb96⟩ := ef_bslice (P := Try.prog) (ps := [(0, (.tmp 107))]) (m := 1) (sz := 1) (z := [.string ⟨([] : List UInt8).toArray⟩]) hf rfl Try.underlying23 (by kernel_rfl) (by kernel_rfl) rfl rfl (by kernel_rfl) rfl w85 23
  refine dl_e 4 (by kernel_rfl) rfl hf rfl rfl he fun a hf => ?_
  have ne_b2_b92 : b2 ≠ b92 := ne_new hB2.lt eb95
  have ne_b5_b92 : b5 ≠ b92 := ne_new hB5.lt eb95
  have ne_b39_b92 : b39 ≠ b92 := ne_new hB45.lt eb95
  have ne_b86_b92 : b86 ≠ b92 := ne_new hB87.lt eb95
  have ne_p_b92 : p ≠ b92 := ne_new hP.lt eb95
  have ta_hi69_b92 : hi69 ≤ b92 := eb95 ▸ hle69
  have ge_b92 := ge_new hE eb95
  have hH_b92 : H ≤ b92 := by have := hP.le; have := hP.lt; omega
  replace hB2 := hB2.c0 hx94
  replace hB5 := hB5.c0 hx94
  replace hB45 := hB45.c0 hx94
  replace hB87 := hB87.c0 hx94
  replace hP := hP.chg hx94 all0
  replace hTS := hTS.chg hx94 (fun b hb hlt => nm0)
  replace hT67 := hT67.chg hx94 (fun b hb _ => nm0)
  replace hle69 := nlt hle69 hx94.size
  replace hE := hE.t0 hx94
  clear eb95 lb96
  clear hS0
  have hS0 : w91.cell? ⟨b39, 2, none⟩ = w44.cell? ⟨b39, 2, none⟩ ∧ w91.cell? ⟨b39, 1, none⟩ = w44.cell? ⟨b39, 1, none⟩ ∧ w91.cell? ⟨b5, 0, none⟩ = w44.cell? ⟨b5, 0, none⟩ ∧ w91.cell? ⟨b5, 1, none⟩ = w44.cell? ⟨b5, 1, none⟩ ∧ w91.cell? ⟨b5, 2, none⟩ = w44.cell? ⟨b5, 2, none⟩ ∧ w91.cell? ⟨b5, 3, none⟩ = w44.cell? ⟨b5, 3, none⟩ := ⟨(hB45.cell 2).trans (s_hB45.cell 2).symm, (hB45.cell 1).trans (s_hB45.cell 1).symm, (hB5.cell 0).trans (s_hB5.cell 0).symm, (hB5.cell 1).trans (s_hB5.cell 1).symm, (hB5.cell 2).trans (s_hB5.cell 2).symm, (hB5.cell 3).trans (s_hB5.cell 3).symm⟩
  refine ⟨.inl hS0, ?_⟩
  refine dV 9 rfl rfl hsel (by kernel_rfl) hf rfl (.inl hS0) (fun x => ex_bd (ps := [(0, (.const (.int .i64 21))), (1, (.tmp 105)), (2, (.tmp 108)), (3, (.tmp 112))]) (z := zT) (os := [0, 1, 2, 3]) hf rfl (by kernel_rfl) (by kernel_rfl) (by kernel_rfl) rfl rfl) fun a hf => ?_
  obtain ⟨w97, he, hB98, hx99⟩ := eN (.tmp 5) (.tmp 113) hf rfl rfl rfl rfl hB5 rfl 0
  refine dl_s 10 (by kernel_rfl) rfl hf rfl rfl he fun a hf => ?_
  replace hB2 := hB2.chg hx99 (nmc ne_b2_b5 nm0)
  replace hB45 := hB45.chg hx99 (nmc (Ne.symm ne_b5_b39) nm0)
  replace hB87 := hB87.chg hx99 (nmc (Ne.symm ne_b5_b86) nm0)
  replace hB93 := hB93.chg hx99 (nmc (Ne.symm ne_b5_b92) nm0)
  replace hP := hP.chg hx99 (allc ⟨hH_b5, ne_p_b5⟩ all0)
  replace hTS := hTS.chg hx99 (fun b hb hlt => (nmc (by omega) nm0))
  replace hT67 := hT67.chg hx99 (fun b hb _ => (nmc (by omega) nm0))
  replace hle69 := nlt hle69 hx99.size
  replace hE := hE.trans hx99 (allc (.inr ge_b5) all0)
  clear hB5
  refine ⟨.inr (by kernel_rfl), ?_⟩
  refine dl_done (by kernel_rfl) ?_
  clear hS0 hsel
  have hR' := (binF_step hop).symm.trans hR
  rw [hn'] at hR'
  have hl3 : (unitF (exprT n) (pTake s')).2.toks.length < s'.toks.length := by have := hl67; omega
  exact ⟨_, hl3, _, _, _, _, _, _, F', hf.pick ⟨rfl, rfl, rfl, trivial⟩, hP, hE, hB2, hB98, tree_mk (Nat.le_refl _) (maxLen_ge rfl) (Nat.le_refl _) (maxLen_ge rfl) (RowIn.of_blk hB93 (by omega) rfl) (kids_two (hTS.keepB (fun b hb hlt => by omega) (fun _ _ _ => rfl)) (hT67.mono (fun b hb => by omega))) (RowIn.of_blk hB87 (by omega) rfl), rfl, by omega, hR', by omega⟩
  intro hop
  have hL := hLs
  have hRe := (binF_stop hop).symm.trans hR
  refine wp_exit ?_
  simp only [Exit.then, Exit.inBlock, ↓reduceIte, Nat.reduceEqDiff]
  refine hK27 _ _ <| wS fun K100 hK100 => wR <| sV hf rfl (ex_loadBN (m := 4) hf rfl (by kernel_rfl) hB5 rfl) fun a hf => ?_
  obtain ⟨w101, he, hB102, hx103⟩ := eN (.tmp 2) (.tmp 114) hf rfl rfl rfl on_T hB2 rfl 0
  refine st_s hf rfl rfl he fun a hf => ?_
  replace hB5 := hB5.chg hx103 (nmc (Ne.symm ne_b2_b5) nm0)
  replace hP := hP.chg hx103 (allc ⟨hH_b2, ne_p_b2⟩ all0)
  replace hTS := hTS.chg hx103 (fun b hb hlt => (nmc (by omega) nm0))
  replace hE := hE.trans hx103 (allc (.inr ge_b2) all0)
  clear hB2
  refine sN <| hK100 _ _ <| wp_ret ?_
  rw [hq, hRd, ← hRe]
  try simp only [Exit.then, Exit.inBlock]
  exact ret_of (rs := [.cell 2 26]) hf rfl ⟨_, _, _, _, 4, rfl, rfl, by kernel_rfl, hB102, rfl, rfl⟩ ⟨_, _, _, _, rfl, (hTS.mono (fun b hb => hb.1)), hP, hE, hL⟩
theorem exprL : ∀ n, ExprOk n
  | 0 => fun _ _ _ _ _ hn => absurd hn (Nat.not_lt_zero _)
  | n + 1 => fun H p s w hP hn => by
    have ih := exprL n
    by_cases h0 : (pNext s).text = wLet
    · exact letL ih hP hn h0
    by_cases h1 : (pNext s).text = wIf
    · exact ifL ih hP hn h1 h0
    · exact binL ih hP hn h0 h1
end Go.Proofs.Ythpjpngfghcmcaa
