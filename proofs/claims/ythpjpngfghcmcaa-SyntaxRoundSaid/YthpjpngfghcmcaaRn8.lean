/- Contracts of the functions that the law reaches, part 8. -/
import Derived.Test.YthpjpngfghcmcaaRn7
set_option linter.unusedVariables false
set_option linter.unusedSimpArgs false
namespace Go.Proofs.Ythpjpngfghcmcaa
open Go.RowKit Lx Sx
set_option maxRecDepth 100000
set_option maxHeartbeats 4000000
theorem roundWa (l : List UInt8) (w : World) (hl : l.length ≤ 281474976710656) (he : (parseT l).2.2 = 0) : Calls Try.prog 10 [strV l].toArray w fun e w' => e = .returned (.bool true) ∧ Ext w w' := by
  obtain ⟨hb, hp, hv, hs⟩ := round_plain he
  refine enter_fr 31 Try.func10 rfl rfl rfl ?_
  intro a hf
  have hE := Chg.refl [] w
  refine wS fun K1 hK1 => wR <| sA hf rfl rfl fun a hf => sN <| hK1 _ _ <| wS fun K2 hK2 => wR <| sM hf rfl rfl fun a hf => st_c hf rfl rfl rfl (by kernel_rfl) (parseAt (l := l) hl (at_ := (parseT l).2.1) (e := 0) (by rw [← he])) ?_
  rintro _ w4 ⟨c0, c1, c2, c3, rfl, hT, hx3⟩
  refine ⟨_, rfl, fun a hf => ?_⟩
  have on_T := hT.one
  obtain ⟨lo5, elo5⟩ : ∃ x, x = w.heap.size := ⟨_, rfl⟩
  obtain ⟨hi5, ehi5⟩ : ∃ x, x = w4.heap.size := ⟨_, rfl⟩
  replace hT := hT.within elo5 ehi5
  have hle5 : hi5 ≤ w4.heap.size := Nat.le_of_eq ehi5
  have ge_lo5 : w.heap.size ≤ lo5 := elo5 ▸ hE.size
  clear elo5 ehi5
  replace hE := hE.t0 hx3
  refine sM hf rfl rfl fun a hf => sV hf rfl (ex_extract hf rfl rfl) fun a hf => sV hf rfl (ex_extract hf rfl rfl) fun a hf => sV hf rfl (ex_extract hf rfl rfl) fun a hf => ?_
  obtain ⟨w6, b7, he, hB8, hx9, eb10, lb11⟩ := eT a w4 0
  refine sV hf rfl he ?_
  clear he hf a; intro a hf
  have ta_hi5_b7 : hi5 ≤ b7 := eb10 ▸ hle5
  have ge_b7 := ge_new hE eb10
  replace hT := hT.chg hx9 (fun b hb _ => nm0)
  replace hle5 := nlt hle5 hx9.size
  replace hE := hE.t0 hx9
  clear eb10 lb11
  obtain ⟨w12, he, hB13, hx14⟩ := eN (.tmp 3) (.tmp 9) hf rfl rfl rfl on_T hB8 rfl 0
  refine st_s hf rfl rfl he ?_
  clear he hf a; intro a hf
  replace hT := hT.chg hx14 (fun b hb _ => (nmc (by omega) nm0))
  replace hle5 := nlt hle5 hx14.size
  replace hE := hE.trans hx14 (allc (.inr ge_b7) all0)
  clear hB8
  refine sA hf rfl rfl fun a hf => sA hf rfl rfl fun a hf => sN <| hK2 _ _ <| wS fun K15 hK15 => wR <| st_c hf rfl rfl rfl (by kernel_rfl) (awakeL) ?_
  rintro _ w17 ⟨rfl, hx16⟩
  refine ⟨_, rfl, fun a hf => ?_⟩
  replace hB13 := hB13.c0 hx16
  replace hT := hT.chg hx16 (fun b hb _ => nm0)
  replace hle5 := nlt hle5 hx16.size
  replace hE := hE.t0 hx16
  refine sM hf rfl rfl fun a hf => sM hf rfl rfl fun a hf => sV hf rfl (ex_neI (c := false) hf rfl rfl (by decide)) fun a hf => sM hf rfl rfl fun a hf => sV hf rfl (ex_loadBN (m := 4) hf rfl (by kernel_rfl) hB13 rfl) fun a hf => st_c hf rfl rfl rfl (by kernel_rfl) (bool_is (validL hb hT) hv) ?_
  rintro _ w19 ⟨rfl, hx18⟩
  refine ⟨_, rfl, fun a hf => ?_⟩
  replace hB13 := hB13.c0 hx18
  replace hT := hT.chg hx18 (fun b hb _ => nm0)
  replace hle5 := nlt hle5 hx18.size
  replace hE := hE.t0 hx18
  refine sM hf rfl rfl fun a hf => sV hf rfl (ex_loadBN (m := 4) hf rfl (by kernel_rfl) hB13 rfl) fun a hf => st_c hf rfl rfl rfl (by kernel_rfl) (bool_is (shapedL _ _ _ _ _ _ _ _ (Nat.le_refl _) hb hT) hs) ?_
  rintro _ w21 ⟨rfl, hx20⟩
  refine ⟨_, rfl, fun a hf => ?_⟩
  replace hB13 := hB13.c0 hx20
  replace hT := hT.chg hx20 (fun b hb _ => nm0)
  replace hle5 := nlt hle5 hx20.size
  replace hE := hE.t0 hx20
  refine sV hf rfl (ex_pickT hf rfl rfl) fun a hf => sM hf rfl rfl fun a hf => sV hf rfl (ex_loadBN (m := 4) hf rfl (by kernel_rfl) hB13 rfl) fun a hf => st_c hf rfl rfl rfl (by kernel_rfl) (printL hb hT) ?_
  rintro _ w23 ⟨rfl, hx22⟩
  refine ⟨_, rfl, fun a hf => ?_⟩
  replace hB13 := hB13.c0 hx22
  replace hT := hT.chg hx22 (fun b hb _ => nm0)
  replace hle5 := nlt hle5 hx22.size
  replace hE := hE.t0 hx22
  refine sM hf rfl rfl fun a hf => sV hf rfl (ex_eqS (c := true) hf rfl rfl (by rw [hp]; simp)) fun a hf => sV hf rfl (ex_pickT hf rfl rfl) fun a hf => sV hf rfl (ex_pickF hf rfl rfl) fun a hf => sV hf rfl (ex_pickT hf rfl rfl) fun a hf => sA hf rfl rfl fun a hf => sN <| hK15 _ _ <| wp_ret ?_
  try simp only [Exit.then, Exit.inBlock]
  exact ret_of (rs := [.tmp 2]) hf rfl ⟨_, _, rfl, rfl, rfl⟩ ⟨rfl, hE.ext⟩
theorem roundWb (l : List UInt8) (w : World) (hl : l.length ≤ 281474976710656) (he : ¬ (parseT l).2.2 = 0) : Calls Try.prog 10 [strV l].toArray w fun e w' => e = .returned (.bool true) ∧ Ext w w' := by
  refine enter_fr 31 Try.func10 rfl rfl rfl ?_
  intro a hf
  have hE := Chg.refl [] w
  refine wS fun K1 hK1 => wR <| sA hf rfl rfl fun a hf => sN <| hK1 _ _ <| wS fun K2 hK2 => wR <| sM hf rfl rfl fun a hf => st_c hf rfl rfl rfl (by kernel_rfl) (parseAt (l := l) hl (at_ := (parseT l).2.1) (e := (parseT l).2.2) rfl) ?_
  rintro _ w4 ⟨c0, c1, c2, c3, rfl, hT, hx3⟩
  refine ⟨_, rfl, fun a hf => ?_⟩
  have on_T := hT.one
  obtain ⟨lo5, elo5⟩ : ∃ x, x = w.heap.size := ⟨_, rfl⟩
  obtain ⟨hi5, ehi5⟩ : ∃ x, x = w4.heap.size := ⟨_, rfl⟩
  replace hT := hT.within elo5 ehi5
  have hle5 : hi5 ≤ w4.heap.size := Nat.le_of_eq ehi5
  have ge_lo5 : w.heap.size ≤ lo5 := elo5 ▸ hE.size
  clear elo5 ehi5
  replace hE := hE.t0 hx3
  refine sM hf rfl rfl fun a hf => sV hf rfl (ex_extract hf rfl rfl) fun a hf => sV hf rfl (ex_extract hf rfl rfl) fun a hf => sV hf rfl (ex_extract hf rfl rfl) fun a hf => ?_
  obtain ⟨w6, b7, he, hB8, hx9, eb10, lb11⟩ := eT a w4 0
  refine sV hf rfl he ?_
  clear he hf a; intro a hf
  have ta_hi5_b7 : hi5 ≤ b7 := eb10 ▸ hle5
  have ge_b7 := ge_new hE eb10
  replace hT := hT.chg hx9 (fun b hb _ => nm0)
  replace hle5 := nlt hle5 hx9.size
  replace hE := hE.t0 hx9
  clear eb10 lb11
  obtain ⟨w12, he, hB13, hx14⟩ := eN (.tmp 3) (.tmp 9) hf rfl rfl rfl on_T hB8 rfl 0
  refine st_s hf rfl rfl he ?_
  clear he hf a; intro a hf
  replace hT := hT.chg hx14 (fun b hb _ => (nmc (by omega) nm0))
  replace hle5 := nlt hle5 hx14.size
  replace hE := hE.trans hx14 (allc (.inr ge_b7) all0)
  clear hB8
  refine sA hf rfl rfl fun a hf => sA hf rfl rfl fun a hf => sN <| hK2 _ _ <| wS fun K15 hK15 => wR <| st_c hf rfl rfl rfl (by kernel_rfl) (awakeL) ?_
  rintro _ w17 ⟨rfl, hx16⟩
  refine ⟨_, rfl, fun a hf => ?_⟩
  replace hB13 := hB13.c0 hx16
  replace hT := hT.chg hx16 (fun b hb _ => nm0)
  replace hle5 := nlt hle5 hx16.size
  replace hE := hE.t0 hx16
  refine sM hf rfl rfl fun a hf => sM hf rfl rfl fun a hf => sV hf rfl (ex_neI (c := true) hf rfl rfl (by simp <;> omega)) fun a hf => sM hf rfl rfl fun a hf => st_k hf rfl rfl fun a hf => st_k hf rfl rfl fun a hf => st_k hf rfl rfl fun a hf => st_k hf rfl rfl fun a hf => st_k hf rfl rfl fun a hf => st_k hf rfl rfl fun a hf => st_k hf rfl rfl fun a hf => st_k hf rfl rfl fun a hf => st_k hf rfl rfl fun a hf => st_k hf rfl rfl fun a hf => st_k hf rfl rfl fun a hf => st_k hf rfl rfl fun a hf => sV hf rfl (ex_pickT hf rfl rfl) fun a hf => sV hf rfl (ex_pickT hf rfl rfl) fun a hf => sA hf rfl rfl fun a hf => sN <| hK15 _ _ <| wp_ret ?_
  try simp only [Exit.then, Exit.inBlock]
  exact ret_of (rs := [.tmp 2]) hf rfl ⟨_, _, rfl, rfl, rfl⟩ ⟨rfl, hE.ext⟩
theorem roundW (l : List UInt8) (w : World) (hl : l.length ≤ 281474976710656) : Calls Try.prog 10 [strV l].toArray w fun e w' => e = .returned (.bool true) ∧ Ext w w' := by
  by_cases he : (parseT l).2.2 = 0
  · exact roundWa l w hl he
  · exact roundWb l w hl he
end Go.Proofs.Ythpjpngfghcmcaa
