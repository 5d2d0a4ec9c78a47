/- Contracts of the functions that the law reaches, part 5. -/
import Derived.Test.YthpjpngfghcmcaaLv4
set_option linter.unusedVariables false
set_option linter.unusedSimpArgs false
namespace Go.Proofs.Ythpjpngfghcmcaa
open Go.RowKit Lx Sx
set_option maxRecDepth 100000
set_option maxHeartbeats 4000000
theorem kids_snoc2 {S : Nat → Prop} {w : World} {ks : List Tree} {t u : Tree} {cs c d : List Value} (h : KidsAre S w ks cs) (h1 : TreeIs S w t c) (h2 : TreeIs S w u d) : KidsAre S w (ks ++ [t, u]) (cs ++ c ++ d) := by
  have := KidsAre.snoc (KidsAre.snoc h h1) h2
  simpa using this
theorem functionEmptyL {H p n : Nat} {s : PS} {w : World} (hP : PAt H w p s) (hn : s.toks.length < n) (hcl : (pNext (pWord [40] (pName 1 1 (pWord wDef s).2).2.2).2).text = [41]) : Calls Try.prog 52 [.pointer (some ⟨p, 0, none⟩)].toArray w (TreePost w H p s (functionT n s)) := by
  have hq : functionT n s = (.node 2 (pName 1 1 (pWord wDef s).2).1 ([(pWord wDef s).1, (pName 1 1 (pWord wDef s).2).2.1, (pWord [40] (pName 1 1 (pWord wDef s).2).2.2).1, (pWord [41] (pWord [40] (pName 1 1 (pWord wDef s).2).2.2).2).1, (pWord [58] (pWord [41] (pWord [40] (pName 1 1 (pWord wDef s).2).2.2).2).2).1, (pWord [61] (typT n (pWord [58] (pWord [41] (pWord [40] (pName 1 1 (pWord wDef s).2).2.2).2).2).2).2).1]) ([(typT n (pWord [58] (pWord [41] (pWord [40] (pName 1 1 (pWord wDef s).2).2.2).2).2).2).1, (exprT n (pWord [61] (typT n (pWord [58] (pWord [41] (pWord [40] (pName 1 1 (pWord wDef s).2).2.2).2).2).2).2).2).1]), (exprT n (pWord [61] (typT n (pWord [58] (pWord [41] (pWord [40] (pName 1 1 (pWord wDef s).2).2.2).2).2).2).2).2).2) := by
    simp only [functionT, rowF, if_pos hcl, List.append_nil, List.nil_append]
  refine enter_fr 97 Try.func52 rfl rfl rfl ?_
  intro a hf
  have hE := Chg.refl [p] w
  have hL := Nat.le_refl s.toks.length
  have lt_p := hP.lt
  refine wS fun K1 hK1 => wR ?_
  obtain ⟨w2, b3, he, hB4, hx5, eb6, lb7⟩ := eT a w 0
  refine sV hf rfl he fun a hf => ?_
  have ne_p_b3 : p ≠ b3 := ne_new hP.lt eb6
  have ge_b3 := ge_new hE eb6
  have hH_b3 : H ≤ b3 := by have := hP.le; have := hP.lt; omega
  replace hP := hP.chg hx5 all0
  replace hE := hE.t0 hx5
  clear eb6 lb7
  refine sN <| hK1 _ _ <| wS fun K8 hK8 => wR ?_
  obtain ⟨w9, b10, he, hB11, hx12, eb13, lb14⟩ := ef_make (P := Try.prog) (m := 6) (x := (.const (.int .i64 6))) (y := (.const (.int .i64 6))) (z := .string ⟨([] : List UInt8).toArray⟩) (sz := 1) (by_ := 16) (cs := [.string ⟨([] : List UInt8).toArray⟩, .string ⟨([] : List UInt8).toArray⟩, .string ⟨([] : List UInt8).toArray⟩, .string ⟨([] : List UInt8).toArray⟩, .string ⟨([] : List UInt8).toArray⟩, .string ⟨([] : List UInt8).toArray⟩]) hf rfl rfl Try.underlying23 (by kernel_rfl) (by kernel_rfl) (by kernel_rfl) (by kernel_rfl) w2 23
  refine sV hf rfl he fun a hf => ?_
  have ne_b3_b10 : b3 ≠ b10 := ne_new hB4.lt eb13
  have ne_p_b10 : p ≠ b10 := ne_new hP.lt eb13
  have ge_b10 := ge_new hE eb13
  have hH_b10 : H ≤ b10 := by have := hP.le; have := hP.lt; omega
  replace hB4 := hB4.c0 hx12
  replace hP := hP.chg hx12 all0
  replace hE := hE.t0 hx12
  clear eb13 lb14
  refine sV hf rfl (ex_bd (ps := [(0, (.const (.int .i64 2))), (2, (.tmp 4))]) (z := zT) (os := [0, 2]) hf rfl (by kernel_rfl) (by kernel_rfl) (by kernel_rfl) rfl rfl) fun a hf => ?_
  obtain ⟨w15, b16, he, hB17, hx18, eb19, lb20⟩ := eT a w9 0
  refine sV hf rfl he fun a hf => ?_
  have ne_b3_b16 : b3 ≠ b16 := ne_new hB4.lt eb19
  have ne_b10_b16 : b10 ≠ b16 := ne_new hB11.lt eb19
  have ne_p_b16 : p ≠ b16 := ne_new hP.lt eb19
  have ge_b16 := ge_new hE eb19
  have hH_b16 : H ≤ b16 := by have := hP.le; have := hP.lt; omega
  replace hB4 := hB4.c0 hx18
  replace hB11 := hB11.c0 hx18
  replace hP := hP.chg hx18 all0
  replace hE := hE.t0 hx18
  clear eb19 lb20
  obtain ⟨w21, he, hB22, hx23⟩ := eN (.tmp 3) (.tmp 5) hf rfl rfl rfl rfl hB17 rfl 0
  refine st_s hf rfl rfl he fun a hf => ?_
  replace hB4 := hB4.chg hx23 (nmc ne_b3_b16 nm0)
  replace hB11 := hB11.chg hx23 (nmc ne_b10_b16 nm0)
  replace hP := hP.chg hx23 (allc ⟨hH_b16, ne_p_b16⟩ all0)
  replace hE := hE.trans hx23 (allc (.inr ge_b16) all0)
  clear hB17
  refine sN <| hK8 _ _ <| wS fun K24 hK24 => ?_
  have s_hB22 := hB22
  refine dl_start (fun x => x.cell? ⟨b16, 2, none⟩ = w21.cell? ⟨b16, 2, none⟩) 6 6 rfl (by kernel_rfl) (by kernel_rfl) ?_
  intro w25 hx26 hsel
  replace hB4 := hB4.c0 hx26
  replace hB11 := hB11.c0 hx26
  replace hB22 := hB22.c0 hx26
  replace hP := hP.chg hx26 all0
  replace hE := hE.t0 hx26
  have hS0 := hB22.same s_hB22 2
  refine dV 0 rfl rfl hsel (by kernel_rfl) hf rfl (.inl hS0) (fun x => ex_fa (k := 2) (r := 2) hf rfl (by kernel_rfl) rfl) fun a hf => dL 1 rfl rfl hsel (by kernel_rfl) hf rfl hS0 (fun x hS => ex_load hf rfl (by kernel_rfl) (hS.trans ((s_hB22.cell 2).trans rfl))) fun a hf => dM 2 rfl rfl hsel (by kernel_rfl) hf rfl hS0 rfl fun a hf => dl_c 3 (by kernel_rfl) rfl hf rfl rfl rfl (by kernel_rfl) (pWordL (x := wDef) hP (by decide)) ?_
  rintro _ w28 ⟨rfl, hP, hx27⟩
  refine ⟨_, rfl, fun a hf => ?_⟩
  replace hB4 := hB4.chg hx27 (nmc (Ne.symm ne_p_b3) nm0)
  replace hB11 := hB11.chg hx27 (nmc (Ne.symm ne_p_b10) nm0)
  replace hB22 := hB22.chg hx27 (nmc (Ne.symm ne_p_b16) nm0)
  replace hE := hE.trans hx27 (allc (.inl (by simp)) all0)
  replace hL := nlt (pWord_len wDef _) hL
  clear hS0
  have hS0 := hB22.same s_hB22 2
  refine ⟨.inl hS0, ?_⟩
  refine dV 4 rfl rfl hsel (by kernel_rfl) hf rfl (.inl hS0) (fun x => ex_index (sz := 1) (k := 0) (r := 0) hf Try.underlying23 (by kernel_rfl) rfl rfl rfl (by first | decide | simp) rfl) fun a hf => ?_
  obtain ⟨w29, he, hB30, hx31⟩ := ef_store (P := Try.prog) (t := 9) (x := (.tmp 10)) (y := (.tmp 9)) hf rfl rfl (by kernel_rfl) rfl hB11 (Nat.le_of_ble_eq_true rfl) 0
  refine dl_s 5 (by kernel_rfl) rfl hf rfl rfl he fun a hf => ?_
  replace hB4 := hB4.chg hx31 (nmc ne_b3_b10 nm0)
  replace hB22 := hB22.chg hx31 (nmc (Ne.symm ne_b10_b16) nm0)
  replace hP := hP.chg hx31 (allc ⟨hH_b10, ne_p_b10⟩ all0)
  replace hE := hE.trans hx31 (allc (.inr ge_b10) all0)
  clear hB11
  clear hS0
  have hS0 := hB22.same s_hB22 2
  refine ⟨.inl hS0, ?_⟩
  refine dl_done (by kernel_rfl) ?_
  clear hS0 hsel
  refine hK24 _ _ <| wS fun K32 hK32 => ?_
  have s_hB22 := hB22
  refine dl_start (fun x => x.cell? ⟨b16, 2, none⟩ = w29.cell? ⟨b16, 2, none⟩) 11 11 rfl (by kernel_rfl) (by kernel_rfl) ?_
  intro w33 hx34 hsel
  replace hB4 := hB4.c0 hx34
  replace hB30 := hB30.c0 hx34
  replace hB22 := hB22.c0 hx34
  replace hP := hP.chg hx34 all0
  replace hE := hE.t0 hx34
  have hS0 := hB22.same s_hB22 2
  refine dV 0 rfl rfl hsel (by kernel_rfl) hf rfl (.inl hS0) (fun x => ex_fa (k := 2) (r := 2) hf rfl (by kernel_rfl) rfl) fun a hf => dL 1 rfl rfl hsel (by kernel_rfl) hf rfl hS0 (fun x hS => ex_load hf rfl (by kernel_rfl) (hS.trans ((s_hB22.cell 2).trans rfl))) fun a hf => dM 2 rfl rfl hsel (by kernel_rfl) hf rfl hS0 rfl fun a hf => dl_c 3 (by kernel_rfl) rfl hf rfl rfl rfl (by kernel_rfl) (pNameL (k := 1) (o := 1) hP) ?_
  rintro _ w36 ⟨rfl, hP, hx35⟩
  refine ⟨_, rfl, fun a hf => ?_⟩
  replace hB4 := hB4.chg hx35 (nmc (Ne.symm ne_p_b3) nm0)
  replace hB30 := hB30.chg hx35 (nmc (Ne.symm ne_p_b10) nm0)
  replace hB22 := hB22.chg hx35 (nmc (Ne.symm ne_p_b16) nm0)
  replace hE := hE.trans hx35 (allc (.inl (by simp)) all0)
  replace hL := nlt (pName_len 1 1 _) hL
  clear hS0
  have hS0 := hB22.same s_hB22 2
  refine ⟨.inl hS0, ?_⟩
  refine dM 4 rfl rfl hsel (by kernel_rfl) hf rfl hS0 rfl fun a hf => dV 5 rfl rfl hsel (by kernel_rfl) hf rfl (.inl hS0) (fun x => ex_extract hf rfl rfl) fun a hf => dV 6 rfl rfl hsel (by kernel_rfl) hf rfl (.inl hS0) (fun x => ex_extract hf rfl rfl) fun a hf => dV 7 rfl rfl hsel (by kernel_rfl) hf rfl (.inl hS0) (fun x => ex_fa (k := 1) (r := 1) hf rfl (by kernel_rfl) rfl) fun a hf => ?_
  obtain ⟨w37, he, hB38, hx39⟩ := ef_store (P := Try.prog) (t := 9) (x := (.tmp 18)) (y := (.tmp 16)) hf rfl rfl (by kernel_rfl) rfl hB22 (Nat.le_of_ble_eq_true rfl) 0
  refine dl_s 8 (by kernel_rfl) rfl hf rfl rfl he fun a hf => ?_
  replace hB4 := hB4.chg hx39 (nmc ne_b3_b16 nm0)
  replace hB30 := hB30.chg hx39 (nmc ne_b10_b16 nm0)
  replace hP := hP.chg hx39 (allc ⟨hH_b16, ne_p_b16⟩ all0)
  replace hE := hE.trans hx39 (allc (.inr ge_b16) all0)
  clear hB22
  clear hS0
  have hS0 := hB38.same s_hB22 2
  refine ⟨.inl hS0, ?_⟩
  refine dV 9 rfl rfl hsel (by kernel_rfl) hf rfl (.inl hS0) (fun x => ex_index (sz := 1) (k := 1) (r := 1) hf Try.underlying23 (by kernel_rfl) rfl rfl rfl (by first | decide | simp) rfl) fun a hf => ?_
  obtain ⟨w40, he, hB41, hx42⟩ := ef_store (P := Try.prog) (t := 9) (x := (.tmp 19)) (y := (.tmp 17)) hf rfl rfl (by kernel_rfl) rfl hB30 (Nat.le_of_ble_eq_true rfl) 0
  refine dl_s 10 (by kernel_rfl) rfl hf rfl rfl he fun a hf => ?_
  replace hB4 := hB4.chg hx42 (nmc ne_b3_b10 nm0)
  replace hB38 := hB38.chg hx42 (nmc (Ne.symm ne_b10_b16) nm0)
  replace hP := hP.chg hx42 (allc ⟨hH_b10, ne_p_b10⟩ all0)
  replace hE := hE.trans hx42 (allc (.inr ge_b10) all0)
  clear hB30
  clear hS0
  have hS0 := hB38.same s_hB22 2
  refine ⟨.inl hS0, ?_⟩
  refine dl_done (by kernel_rfl) ?_
  clear hS0 hsel
  refine hK32 _ _ <| wS fun K43 hK43 => ?_
  have s_hB38 := hB38
  refine dl_start (fun x => x.cell? ⟨b16, 2, none⟩ = w40.cell? ⟨b16, 2, none⟩) 6 6 rfl (by kernel_rfl) (by kernel_rfl) ?_
  intro w44 hx45 hsel
  replace hB4 := hB4.c0 hx45
  replace hB41 := hB41.c0 hx45
  replace hB38 := hB38.c0 hx45
  replace hP := hP.chg hx45 all0
  replace hE := hE.t0 hx45
  have hS0 := hB38.same s_hB38 2
  refine dV 0 rfl rfl hsel (by kernel_rfl) hf rfl (.inl hS0) (fun x => ex_fa (k := 2) (r := 2) hf rfl (by kernel_rfl) rfl) fun a hf => dL 1 rfl rfl hsel (by kernel_rfl) hf rfl hS0 (fun x hS => ex_load hf rfl (by kernel_rfl) (hS.trans ((s_hB38.cell 2).trans rfl))) fun a hf => dM 2 rfl rfl hsel (by kernel_rfl) hf rfl hS0 rfl fun a hf => dl_c 3 (by kernel_rfl) rfl hf rfl rfl rfl (by kernel_rfl) (pWordL (x := [40]) hP (by decide)) ?_
  rintro _ w47 ⟨rfl, hP, hx46⟩
  refine ⟨_, rfl, fun a hf => ?_⟩
  replace hB4 := hB4.chg hx46 (nmc (Ne.symm ne_p_b3) nm0)
  replace hB41 := hB41.chg hx46 (nmc (Ne.symm ne_p_b10) nm0)
  replace hB38 := hB38.chg hx46 (nmc (Ne.symm ne_p_b16) nm0)
  replace hE := hE.trans hx46 (allc (.inl (by simp)) all0)
  replace hL := nlt (pWord_len [40] _) hL
  clear hS0
  have hS0 := hB38.same s_hB38 2
  refine ⟨.inl hS0, ?_⟩
  refine dV 4 rfl rfl hsel (by kernel_rfl) hf rfl (.inl hS0) (fun x => ex_index (sz := 1) (k := 2) (r := 2) hf Try.underlying23 (by kernel_rfl) rfl rfl rfl (by first | decide | simp) rfl) fun a hf => ?_
  obtain ⟨w48, he, hB49, hx50⟩ := ef_store (P := Try.prog) (t := 9) (x := (.tmp 24)) (y := (.tmp 23)) hf rfl rfl (by kernel_rfl) rfl hB41 (Nat.le_of_ble_eq_true rfl) 0
  refine dl_s 5 (by kernel_rfl) rfl hf rfl rfl he fun a hf => ?_
  replace hB4 := hB4.chg hx50 (nmc ne_b3_b10 nm0)
  replace hB38 := hB38.chg hx50 (nmc (Ne.symm ne_b10_b16) nm0)
  replace hP := hP.chg hx50 (allc ⟨hH_b10, ne_p_b10⟩ all0)
  replace hE := hE.trans hx50 (allc (.inr ge_b10) all0)
  clear hB41
  clear hS0
  have hS0 := hB38.same s_hB38 2
  refine ⟨.inl hS0, ?_⟩
  refine dl_done (by kernel_rfl) ?_
  clear hS0 hsel
  refine hK43 _ _ <| wS fun K51 hK51 => wS fun K52 hK52 => wR <| sM hf rfl rfl fun a hf => st_c hf rfl rfl rfl (by kernel_rfl) (pNextL hP) ?_
  rintro _ w54 ⟨rfl, hP, hx53⟩
  refine ⟨_, rfl, fun a hf => ?_⟩
  replace hB4 := hB4.c0 hx53
  replace hB49 := hB49.c0 hx53
  replace hB38 := hB38.c0 hx53
  replace hE := hE.t0 hx53
  refine sV hf rfl (ex_fd (k := 2) hf rfl (by kernel_rfl) rfl) fun a hf => sV hf rfl (ex_neS (c := false) hf rfl rfl (bneF hcl)) fun a hf => sN <| hK52 _ _ <| cF hf rfl <| wp_skip <| hK51 _ _ <| wS fun K55 hK55 => ?_
  have s_hB38 := hB38
  refine dl_start (fun x => x.cell? ⟨b16, 2, none⟩ = w54.cell? ⟨b16, 2, none⟩) 6 6 rfl (by kernel_rfl) (by kernel_rfl) ?_
  intro w56 hx57 hsel
  replace hB4 := hB4.c0 hx57
  replace hB49 := hB49.c0 hx57
  replace hB38 := hB38.c0 hx57
  replace hP := hP.chg hx57 all0
  replace hE := hE.t0 hx57
  have hS0 := hB38.same s_hB38 2
  refine dV 0 rfl rfl hsel (by kernel_rfl) hf rfl (.inl hS0) (fun x => ex_fa (k := 2) (r := 2) hf rfl (by kernel_rfl) rfl) fun a hf => dL 1 rfl rfl hsel (by kernel_rfl) hf rfl hS0 (fun x hS => ex_load hf rfl (by kernel_rfl) (hS.trans ((s_hB38.cell 2).trans rfl))) fun a hf => dM 2 rfl rfl hsel (by kernel_rfl) hf rfl hS0 rfl fun a hf => dl_c 3 (by kernel_rfl) rfl hf rfl rfl rfl (by kernel_rfl) (pWordL (x := [41]) hP (by decide)) ?_
  rintro _ w59 ⟨rfl, hP, hx58⟩
  refine ⟨_, rfl, fun a hf => ?_⟩
  replace hB4 := hB4.chg hx58 (nmc (Ne.symm ne_p_b3) nm0)
  replace hB49 := hB49.chg hx58 (nmc (Ne.symm ne_p_b10) nm0)
  replace hB38 := hB38.chg hx58 (nmc (Ne.symm ne_p_b16) nm0)
  replace hE := hE.trans hx58 (allc (.inl (by simp)) all0)
  replace hL := nlt (pWord_len [41] _) hL
  clear hS0
  have hS0 := hB38.same s_hB38 2
  refine ⟨.inl hS0, ?_⟩
  refine dV 4 rfl rfl hsel (by kernel_rfl) hf rfl (.inl hS0) (fun x => ex_index (sz := 1) (k := 3) (r := 3) hf Try.underlying23 (by kernel_rfl) rfl rfl rfl (by first | decide | simp) rfl) fun a hf => ?_
  obtain ⟨w60, he, hB61, hx62⟩ := ef_store (P := Try.prog) (t := 9) (x := (.tmp 71)) (y := (.tmp 70)) hf rfl rfl (by kernel_rfl) rfl hB49 (Nat.le_of_ble_eq_true rfl) 0
  refine dl_s 5 (by kernel_rfl) rfl hf rfl rfl he fun a hf => ?_
  replace hB4 := hB4.chg hx62 (nmc ne_b3_b10 nm0)
  replace hB38 := hB38.chg hx62 (nmc (Ne.symm ne_b10_b16) nm0)
  replace hP := hP.chg hx62 (allc ⟨hH_b10, ne_p_b10⟩ all0)
  replace hE := hE.trans hx62 (allc (.inr ge_b10) all0)
  clear hB49
  clear hS0
  have hS0 := hB38.same s_hB38 2
  refine ⟨.inl hS0, ?_⟩
  refine dl_done (by kernel_rfl) ?_
  clear hS0 hsel
  refine hK55 _ _ <| wS fun K63 hK63 => ?_
  have s_hB38 := hB38
  refine dl_start (fun x => x.cell? ⟨b16, 2, none⟩ = w60.cell? ⟨b16, 2, none⟩) 6 6 rfl (by kernel_rfl) (by kernel_rfl) ?_
  intro w64 hx65 hsel
  replace hB4 := hB4.c0 hx65
  replace hB61 := hB61.c0 hx65
  replace hB38 := hB38.c0 hx65
  replace hP := hP.chg hx65 all0
  replace hE := hE.t0 hx65
  have hS0 := hB38.same s_hB38 2
  refine dV 0 rfl rfl hsel (by kernel_rfl) hf rfl (.inl hS0) (fun x => ex_fa (k := 2) (r := 2) hf rfl (by kernel_rfl) rfl) fun a hf => dL 1 rfl rfl hsel (by kernel_rfl) hf rfl hS0 (fun x hS => ex_load hf rfl (by kernel_rfl) (hS.trans ((s_hB38.cell 2).trans rfl))) fun a hf => dM 2 rfl rfl hsel (by kernel_rfl) hf rfl hS0 rfl fun a hf => dl_c 3 (by kernel_rfl) rfl hf rfl rfl rfl (by kernel_rfl) (pWordL (x := [58]) hP (by decide)) ?_
  rintro _ w67 ⟨rfl, hP, hx66⟩
  refine ⟨_, rfl, fun a hf => ?_⟩
  replace hB4 := hB4.chg hx66 (nmc (Ne.symm ne_p_b3) nm0)
  replace hB61 := hB61.chg hx66 (nmc (Ne.symm ne_p_b10) nm0)
  replace hB38 := hB38.chg hx66 (nmc (Ne.symm ne_p_b16) nm0)
  replace hE := hE.trans hx66 (allc (.inl (by simp)) all0)
  replace hL := nlt (pWord_len [58] _) hL
  clear hS0
  have hS0 := hB38.same s_hB38 2
  refine ⟨.inl hS0, ?_⟩
  refine dV 4 rfl rfl hsel (by kernel_rfl) hf rfl (.inl hS0) (fun x => ex_index (sz := 1) (k := 4) (r := 4) hf Try.underlying23 (by kernel_rfl) rfl rfl rfl (by first | decide | simp) rfl) fun a hf => ?_
  obtain ⟨w68, he, hB69, hx70⟩ := ef_store (P := Try.prog) (t := 9) (x := (.tmp 76)) (y := (.tmp 75)) hf rfl rfl (by kernel_rfl) rfl hB61 (Nat.le_of_ble_eq_true rfl) 0
  refine dl_s 5 (by kernel_rfl) rfl hf rfl rfl he fun a hf => ?_
  replace hB4 := hB4.chg hx70 (nmc ne_b3_b10 nm0)
  replace hB38 := hB38.chg hx70 (nmc (Ne.symm ne_b10_b16) nm0)
  replace hP := hP.chg hx70 (allc ⟨hH_b10, ne_p_b10⟩ all0)
  replace hE := hE.trans hx70 (allc (.inr ge_b10) all0)
  clear hB61
  clear hS0
  have hS0 := hB38.same s_hB38 2
  refine ⟨.inl hS0, ?_⟩
  refine dl_done (by kernel_rfl) ?_
  clear hS0 hsel
  refine hK63 _ _ <| wS fun K71 hK71 => ?_
  have s_hB38 := hB38
  refine dl_start (fun x => x.cell? ⟨b16, 3, none⟩ = w68.cell? ⟨b16, 3, none⟩) 7 8 rfl (by kernel_rfl) (by kernel_rfl) ?_
  intro w72 hx73 hsel
  replace hB4 := hB4.c0 hx73
  replace hB69 := hB69.c0 hx73
  replace hB38 := hB38.c0 hx73
  replace hP := hP.chg hx73 all0
  replace hE := hE.t0 hx73
  have hS0 := hB38.same s_hB38 3
  refine dV 0 rfl rfl hsel (by kernel_rfl) hf rfl (.inl hS0) (fun x => ex_fa (k := 3) (r := 3) hf rfl (by kernel_rfl) rfl) fun a hf => dL 1 rfl rfl hsel (by kernel_rfl) hf rfl hS0 (fun x hS => ex_load hf rfl (by kernel_rfl) (hS.trans ((s_hB38.cell 3).trans rfl))) fun a hf => dM 2 rfl rfl hsel (by kernel_rfl) hf rfl hS0 rfl fun a hf => ?_
  have plt74 := hP.lt
  refine dl_c 3 (by kernel_rfl) rfl hf rfl rfl rfl (by kernel_rfl) (typL n _ _ _ _ hP (by omega)) ?_
  rintro _ w75 ⟨c74_0, c74_1, c74_2, c74_3, rfl, hT74, hP, hx74, hl74⟩
  refine ⟨_, rfl, fun a hf => ?_⟩
  obtain ⟨lo76, elo76⟩ : ∃ x, x = w72.heap.size := ⟨_, rfl⟩
  obtain ⟨hi76, ehi76⟩ : ∃ x, x = w75.heap.size := ⟨_, rfl⟩
  replace hT74 := hT74.within elo76 ehi76
  have hle76 : hi76 ≤ w75.heap.size := Nat.le_of_eq ehi76
  have ge_lo76 : w.heap.size ≤ lo76 := elo76 ▸ hE.size
  have tb_lo76_b3 : b3 < lo76 := elo76 ▸ hB4.lt
  have tb_lo76_b10 : b10 < lo76 := elo76 ▸ hB69.lt
  have tb_lo76_b16 : b16 < lo76 := elo76 ▸ hB38.lt
  have tb_lo76_p : p < lo76 := elo76 ▸ plt74
  clear elo76 ehi76
  clear plt74
  have on_hT74 := hT74.one
  replace hB4 := hB4.chg hx74 (nmc (Ne.symm ne_p_b3) nm0)
  replace hB69 := hB69.chg hx74 (nmc (Ne.symm ne_p_b10) nm0)
  replace hB38 := hB38.chg hx74 (nmc (Ne.symm ne_p_b16) nm0)
  replace hE := hE.trans hx74 (allc (.inl (by simp)) all0)
  replace hL := nlt hl74 hL
  clear hS0
  have hS0 := hB38.same s_hB38 3
  refine ⟨.inl hS0, ?_⟩
  obtain ⟨w77, b78, he, hB79, hx80, eb81, lb82⟩ := ef_bslice (P := Try.prog) (ps := [(0, (.tmp 80))]) (m := 1) (sz := 4) (z := zT) hf rfl Try.underlying24 (by kernel_rfl) (by kernel_rfl) rfl rfl (by kernel_rfl) rfl w75 24
  refine dl_e 4 (by kernel_rfl) rfl hf rfl rfl he fun a hf => ?_
  have ne_b3_b78 : b3 ≠ b78 := ne_new hB4.lt eb81
  have ne_b10_b78 : b10 ≠ b78 := ne_new hB69.lt eb81
  have ne_b16_b78 : b16 ≠ b78 := ne_new hB38.lt eb81
  have ne_p_b78 : p ≠ b78 := ne_new hP.lt eb81
  have ta_hi76_b78 : hi76 ≤ b78 := eb81 ▸ hle76
  have ge_b78 := ge_new hE eb81
  have hH_b78 : H ≤ b78 := by have := hP.le; have := hP.lt; omega
  replace hB4 := hB4.c0 hx80
  replace hB69 := hB69.c0 hx80
  replace hB38 := hB38.c0 hx80
  replace hP := hP.chg hx80 all0
  replace hT74 := hT74.chg hx80 (fun b hb _ => nm0)
  replace hle76 := nlt hle76 hx80.size
  replace hE := hE.t0 hx80
  clear eb81 lb82
  clear hS0
  have hS0 := hB38.same s_hB38 3
  refine ⟨.inl hS0, ?_⟩
  obtain ⟨g84, cap85, w83, he, hO86, hx87, hat88, hlt89⟩ := ef_append0 (P := Try.prog) (x := (.tmp 78)) (y := (.tmp 81)) (z := .agg zA) (sz := 4) (by_ := 72) hf rfl rfl Try.underlying24 (by kernel_rfl) rfl rfl (World.ownsRow_nil w77 w.heap.size 26 4) hB79 rfl on_hT74 rfl (by simp only [maxLen]; omega) (by omega) (hE.size) 24
  refine dl_e 5 (by kernel_rfl) rfl hf rfl rfl he fun a hf => ?_
  have ne_b3_g84 : b3 ≠ g84 := by have := hB4.lt; omega
  have ne_b10_g84 : b10 ≠ g84 := by have := hB69.lt; omega
  have ne_b16_g84 : b16 ≠ g84 := by have := hB38.lt; omega
  have ne_b78_g84 : b78 ≠ g84 := by have := hB79.lt; omega
  have ne_p_g84 : p ≠ g84 := by have := hP.lt; omega
  have ta_hi76_g84 : hi76 ≤ g84 ∨ g84 < lo76 := by have := hle76; omega
  have ge_g84 : w.heap.size ≤ g84 := own_gle hO86
  have hH_g84 : H ≤ g84 := by have := hP.le; have := hP.lt; omega
  replace hB4 := hB4.c0 hx87
  replace hB69 := hB69.c0 hx87
  replace hB38 := hB38.c0 hx87
  replace hB79 := hB79.c0 hx87
  replace hP := hP.chg hx87 all0
  replace hT74 := hT74.chg hx87 (fun b hb _ => nm0)
  replace hle76 := nlt hle76 hx87.size
  replace hE := hE.t0 hx87
  clear hat88 hlt89
  clear hS0
  have hS0 := hB38.same s_hB38 3
  refine ⟨.inl hS0, ?_⟩
  refine dV 6 rfl rfl hsel (by kernel_rfl) hf rfl (.inl hS0) (fun x => ex_fa (k := 3) (r := 3) hf rfl (by kernel_rfl) rfl) fun a hf => ?_
  obtain ⟨w90, he, hB91, hx92⟩ := ef_store (P := Try.prog) (t := 24) (x := (.tmp 83)) (y := (.tmp 82)) hf rfl rfl (by kernel_rfl) rfl hB38 (Nat.le_of_ble_eq_true rfl) 0
  refine dl_s 7 (by kernel_rfl) rfl hf rfl rfl he fun a hf => ?_
  replace hB4 := hB4.chg hx92 (nmc ne_b3_b16 nm0)
  replace hB69 := hB69.chg hx92 (nmc ne_b10_b16 nm0)
  replace hB79 := hB79.chg hx92 (nmc (Ne.symm ne_b16_b78) nm0)
  replace hP := hP.chg hx92 (allc ⟨hH_b16, ne_p_b16⟩ all0)
  replace hT74 := hT74.chg hx92 (fun b hb _ => (nmc (by omega) nm0))
  replace hle76 := nlt hle76 hx92.size
  replace hO86 := own_gchg hO86 hx92 (nmc (Ne.symm ne_b16_g84) nm0)
  replace hE := hE.trans hx92 (allc (.inr ge_b16) all0)
  clear hB38
  refine ⟨.inr (by kernel_rfl), ?_⟩
  refine dl_done (by kernel_rfl) ?_
  clear hS0 hsel
  refine hK71 _ _ <| wS fun K93 hK93 => ?_
  have s_hB91 := hB91
  refine dl_start (fun x => x.cell? ⟨b16, 2, none⟩ = w90.cell? ⟨b16, 2, none⟩) 6 6 rfl (by kernel_rfl) (by kernel_rfl) ?_
  intro w94 hx95 hsel
  replace hB4 := hB4.c0 hx95
  replace hB69 := hB69.c0 hx95
  replace hB91 := hB91.c0 hx95
  replace hB79 := hB79.c0 hx95
  replace hP := hP.chg hx95 all0
  replace hT74 := hT74.chg hx95 (fun b hb _ => nm0)
  replace hle76 := nlt hle76 hx95.size
  replace hO86 := own_gchg hO86 hx95 nm0
  replace hE := hE.t0 hx95
  have hS0 := hB91.same s_hB91 2
  refine dV 0 rfl rfl hsel (by kernel_rfl) hf rfl (.inl hS0) (fun x => ex_fa (k := 2) (r := 2) hf rfl (by kernel_rfl) rfl) fun a hf => dL 1 rfl rfl hsel (by kernel_rfl) hf rfl hS0 (fun x hS => ex_load hf rfl (by kernel_rfl) (hS.trans ((s_hB91.cell 2).trans rfl))) fun a hf => dM 2 rfl rfl hsel (by kernel_rfl) hf rfl hS0 rfl fun a hf => dl_c 3 (by kernel_rfl) rfl hf rfl rfl rfl (by kernel_rfl) (pWordL (x := [61]) hP (by decide)) ?_
  rintro _ w97 ⟨rfl, hP, hx96⟩
  refine ⟨_, rfl, fun a hf => ?_⟩
  replace hB4 := hB4.chg hx96 (nmc (Ne.symm ne_p_b3) nm0)
  replace hB69 := hB69.chg hx96 (nmc (Ne.symm ne_p_b10) nm0)
  replace hB91 := hB91.chg hx96 (nmc (Ne.symm ne_p_b16) nm0)
  replace hB79 := hB79.chg hx96 (nmc (Ne.symm ne_p_b78) nm0)
  replace hT74 := hT74.chg hx96 (fun b hb _ => (nmc (by omega) nm0))
  replace hle76 := nlt hle76 hx96.size
  replace hO86 := own_gchg hO86 hx96 (nmc (Ne.symm ne_p_g84) nm0)
  replace hE := hE.trans hx96 (allc (.inl (by simp)) all0)
  replace hL := nlt (pWord_len [61] _) hL
  clear hS0
  have hS0 := hB91.same s_hB91 2
  refine ⟨.inl hS0, ?_⟩
  refine dV 4 rfl rfl hsel (by kernel_rfl) hf rfl (.inl hS0) (fun x => ex_index (sz := 1) (k := 5) (r := 5) hf Try.underlying23 (by kernel_rfl) rfl rfl rfl (by first | decide | simp) rfl) fun a hf => ?_
  obtain ⟨w98, he, hB99, hx100⟩ := ef_store (P := Try.prog) (t := 9) (x := (.tmp 88)) (y := (.tmp 87)) hf rfl rfl (by kernel_rfl) rfl hB69 (Nat.le_of_ble_eq_true rfl) 0
  refine dl_s 5 (by kernel_rfl) rfl hf rfl rfl he fun a hf => ?_
  replace hB4 := hB4.chg hx100 (nmc ne_b3_b10 nm0)
  replace hB91 := hB91.chg hx100 (nmc (Ne.symm ne_b10_b16) nm0)
  replace hB79 := hB79.chg hx100 (nmc (Ne.symm ne_b10_b78) nm0)
  replace hP := hP.chg hx100 (allc ⟨hH_b10, ne_p_b10⟩ all0)
  replace hT74 := hT74.chg hx100 (fun b hb _ => (nmc (by omega) nm0))
  replace hle76 := nlt hle76 hx100.size
  replace hO86 := own_gchg hO86 hx100 (nmc (Ne.symm ne_b10_g84) nm0)
  replace hE := hE.trans hx100 (allc (.inr ge_b10) all0)
  clear hB69
  clear hS0
  have hS0 := hB91.same s_hB91 2
  refine ⟨.inl hS0, ?_⟩
  refine dl_done (by kernel_rfl) ?_
  clear hS0 hsel
  refine hK93 _ _ <| wS fun K101 hK101 => ?_
  have s_hB91 := hB91
  refine dl_start (fun x => x.cell? ⟨b16, 3, none⟩ = w98.cell? ⟨b16, 3, none⟩) 7 8 rfl (by kernel_rfl) (by kernel_rfl) ?_
  intro w102 hx103 hsel
  replace hB4 := hB4.c0 hx103
  replace hB99 := hB99.c0 hx103
  replace hB91 := hB91.c0 hx103
  replace hB79 := hB79.c0 hx103
  replace hP := hP.chg hx103 all0
  replace hT74 := hT74.chg hx103 (fun b hb _ => nm0)
  replace hle76 := nlt hle76 hx103.size
  replace hO86 := own_gchg hO86 hx103 nm0
  replace hE := hE.t0 hx103
  have hS0 := hB91.same s_hB91 3
  refine dV 0 rfl rfl hsel (by kernel_rfl) hf rfl (.inl hS0) (fun x => ex_fa (k := 3) (r := 3) hf rfl (by kernel_rfl) rfl) fun a hf => dL 1 rfl rfl hsel (by kernel_rfl) hf rfl hS0 (fun x hS => ex_load hf rfl (by kernel_rfl) (hS.trans ((s_hB91.cell 3).trans rfl))) fun a hf => dM 2 rfl rfl hsel (by kernel_rfl) hf rfl hS0 rfl fun a hf => ?_
  have plt104 := hP.lt
  refine dl_c 3 (by kernel_rfl) rfl hf rfl rfl rfl (by kernel_rfl) (exprL n _ _ _ _ hP (by omega)) ?_
  rintro _ w105 ⟨c104_0, c104_1, c104_2, c104_3, rfl, hT104, hP, hx104, hl104⟩
  refine ⟨_, rfl, fun a hf => ?_⟩
  obtain ⟨lo106, elo106⟩ : ∃ x, x = w102.heap.size := ⟨_, rfl⟩
  obtain ⟨hi106, ehi106⟩ : ∃ x, x = w105.heap.size := ⟨_, rfl⟩
  replace hT104 := hT104.within elo106 ehi106
  have hle106 : hi106 ≤ w105.heap.size := Nat.le_of_eq ehi106
  have ge_lo106 : w.heap.size ≤ lo106 := elo106 ▸ hE.size
  have tb_lo106_b3 : b3 < lo106 := elo106 ▸ hB4.lt
  have tb_lo106_b10 : b10 < lo106 := elo106 ▸ hB99.lt
  have tb_lo106_b16 : b16 < lo106 := elo106 ▸ hB91.lt
  have tb_lo106_b78 : b78 < lo106 := elo106 ▸ hB79.lt
  have tb_lo106_p : p < lo106 := elo106 ▸ plt104
  have tb_lo106_g84 : g84 < lo106 := elo106 ▸ (own_glt hO86)
  clear elo106 ehi106
  clear plt104
  have on_hT104 := hT104.one
  replace hB4 := hB4.chg hx104 (nmc (Ne.symm ne_p_b3) nm0)
  replace hB99 := hB99.chg hx104 (nmc (Ne.symm ne_p_b10) nm0)
  replace hB91 := hB91.chg hx104 (nmc (Ne.symm ne_p_b16) nm0)
  replace hB79 := hB79.chg hx104 (nmc (Ne.symm ne_p_b78) nm0)
  replace hT74 := hT74.chg hx104 (fun b hb _ => (nmc (by omega) nm0))
  replace hle76 := nlt hle76 hx104.size
  replace hO86 := own_gchg hO86 hx104 (nmc (Ne.symm ne_p_g84) nm0)
  replace hE := hE.trans hx104 (allc (.inl (by simp)) all0)
  replace hL := nlt hl104 hL
  clear hS0
  have hS0 := hB91.same s_hB91 3
  refine ⟨.inl hS0, ?_⟩
  obtain ⟨w107, b108, he, hB109, hx110, eb111, lb112⟩ := ef_bslice (P := Try.prog) (ps := [(0, (.tmp 92))]) (m := 1) (sz := 4) (z := zT) hf rfl Try.underlying24 (by kernel_rfl) (by kernel_rfl) rfl rfl (by kernel_rfl) rfl w105 24
  refine dl_e 4 (by kernel_rfl) rfl hf rfl rfl he fun a hf => ?_
  have ne_b3_b108 : b3 ≠ b108 := ne_new hB4.lt eb111
  have ne_b10_b108 : b10 ≠ b108 := ne_new hB99.lt eb111
  have ne_b16_b108 : b16 ≠ b108 := ne_new hB91.lt eb111
  have ne_b78_b108 : b78 ≠ b108 := ne_new hB79.lt eb111
  have ne_p_b108 : p ≠ b108 := ne_new hP.lt eb111
  have ne_g84_b108 : g84 ≠ b108 := ne_new (own_glt hO86) eb111
  have ta_hi76_b108 : hi76 ≤ b108 := eb111 ▸ hle76
  have ta_hi106_b108 : hi106 ≤ b108 := eb111 ▸ hle106
  have ge_b108 := ge_new hE eb111
  have hH_b108 : H ≤ b108 := by have := hP.le; have := hP.lt; omega
  replace hB4 := hB4.c0 hx110
  replace hB99 := hB99.c0 hx110
  replace hB91 := hB91.c0 hx110
  replace hB79 := hB79.c0 hx110
  replace hP := hP.chg hx110 all0
  replace hT74 := hT74.chg hx110 (fun b hb _ => nm0)
  replace hle76 := nlt hle76 hx110.size
  replace hO86 := own_gchg hO86 hx110 nm0
  replace hT104 := hT104.chg hx110 (fun b hb _ => nm0)
  replace hle106 := nlt hle106 hx110.size
  replace hE := hE.t0 hx110
  clear eb111 lb112
  clear hS0
  have hS0 := hB91.same s_hB91 3
  refine ⟨.inl hS0, ?_⟩
  obtain ⟨g114, cap115, w113, he, hO116, hx117, hat118, hlt119⟩ := ef_append1 (P := Try.prog) (x := (.tmp 90)) (y := (.tmp 93)) (z := .agg zA) (sz := 4) (by_ := 72) hf rfl rfl Try.underlying24 (by kernel_rfl) rfl rfl hO86 hB109 rfl on_hT104 rfl (by simp only [maxLen]; omega) (by omega) (hE.size) 24
  refine dl_e 5 (by kernel_rfl) rfl hf rfl rfl he fun a hf => ?_
  have ne_b3_g114 : b3 ≠ g114 := by have := hB4.lt; have := ne_b3_g84; omega
  have ne_b10_g114 : b10 ≠ g114 := by have := hB99.lt; have := ne_b10_g84; omega
  have ne_b16_g114 : b16 ≠ g114 := by have := hB91.lt; have := ne_b16_g84; omega
  have ne_b78_g114 : b78 ≠ g114 := by have := hB79.lt; have := ne_b78_g84; omega
  have ne_b108_g114 : b108 ≠ g114 := by have := hB109.lt; have := (Ne.symm ne_g84_b108); omega
  have ne_p_g114 : p ≠ g114 := by have := hP.lt; have := ne_p_g84; omega
  have ta_hi76_g114 : hi76 ≤ g114 ∨ g114 < lo76 := by have := hle76; omega
  have ta_hi106_g114 : hi106 ≤ g114 ∨ g114 < lo106 := by have := hle106; omega
  have ge_g114 : w.heap.size ≤ g114 := own_gle hO116
  have hH_g114 : H ≤ g114 := by have := hP.le; have := hP.lt; omega
  replace hB4 := hB4.chg hx117 (nmc ne_b3_g84 nm0)
  replace hB99 := hB99.chg hx117 (nmc ne_b10_g84 nm0)
  replace hB91 := hB91.chg hx117 (nmc ne_b16_g84 nm0)
  replace hB79 := hB79.chg hx117 (nmc ne_b78_g84 nm0)
  replace hB109 := hB109.chg hx117 (nmc (Ne.symm ne_g84_b108) nm0)
  replace hP := hP.chg hx117 (allc ⟨hH_g84, ne_p_g84⟩ all0)
  replace hT74 := hT74.chg hx117 (fun b hb _ => (nmc (by omega) nm0))
  replace hle76 := nlt hle76 hx117.size
  replace hT104 := hT104.chg hx117 (fun b hb _ => (nmc (by omega) nm0))
  replace hle106 := nlt hle106 hx117.size
  replace hE := hE.trans hx117 (allc (.inr ge_g84) all0)
  clear hat118 hlt119
  clear hS0
  have hS0 := hB91.same s_hB91 3
  refine ⟨.inl hS0, ?_⟩
  refine dV 6 rfl rfl hsel (by kernel_rfl) hf rfl (.inl hS0) (fun x => ex_fa (k := 3) (r := 3) hf rfl (by kernel_rfl) rfl) fun a hf => ?_
  obtain ⟨w120, he, hB121, hx122⟩ := ef_store (P := Try.prog) (t := 24) (x := (.tmp 95)) (y := (.tmp 94)) hf rfl rfl (by kernel_rfl) rfl hB91 (Nat.le_of_ble_eq_true rfl) 0
  refine dl_s 7 (by kernel_rfl) rfl hf rfl rfl he fun a hf => ?_
  replace hB4 := hB4.chg hx122 (nmc ne_b3_b16 nm0)
  replace hB99 := hB99.chg hx122 (nmc ne_b10_b16 nm0)
  replace hB79 := hB79.chg hx122 (nmc (Ne.symm ne_b16_b78) nm0)
  replace hB109 := hB109.chg hx122 (nmc (Ne.symm ne_b16_b108) nm0)
  replace hP := hP.chg hx122 (allc ⟨hH_b16, ne_p_b16⟩ all0)
  replace hT74 := hT74.chg hx122 (fun b hb _ => (nmc (by omega) nm0))
  replace hle76 := nlt hle76 hx122.size
  replace hT104 := hT104.chg hx122 (fun b hb _ => (nmc (by omega) nm0))
  replace hle106 := nlt hle106 hx122.size
  replace hO116 := own_gchg hO116 hx122 (nmc (Ne.symm ne_b16_g114) nm0)
  replace hE := hE.trans hx122 (allc (.inr ge_b16) all0)
  clear hB91
  refine ⟨.inr (by kernel_rfl), ?_⟩
  refine dl_done (by kernel_rfl) ?_
  clear hS0 hsel
  refine hK101 _ _ <| wS fun K123 hK123 => wR <| sV hf rfl (ex_loadBN (m := 4) hf rfl (by kernel_rfl) hB121 rfl) fun a hf => ?_
  obtain ⟨w124, he, hB125, hx126⟩ := eN (.tmp 2) (.tmp 96) hf rfl rfl rfl rfl hB4 rfl 0
  refine st_s hf rfl rfl he fun a hf => ?_
  replace hB99 := hB99.chg hx126 (nmc (Ne.symm ne_b3_b10) nm0)
  replace hB121 := hB121.chg hx126 (nmc (Ne.symm ne_b3_b16) nm0)
  replace hB79 := hB79.chg hx126 (nmc (Ne.symm ne_b3_b78) nm0)
  replace hB109 := hB109.chg hx126 (nmc (Ne.symm ne_b3_b108) nm0)
  replace hP := hP.chg hx126 (allc ⟨hH_b3, ne_p_b3⟩ all0)
  replace hT74 := hT74.chg hx126 (fun b hb _ => (nmc (by omega) nm0))
  replace hle76 := nlt hle76 hx126.size
  replace hT104 := hT104.chg hx126 (fun b hb _ => (nmc (by omega) nm0))
  replace hle106 := nlt hle106 hx126.size
  replace hO116 := own_gchg hO116 hx126 (nmc (Ne.symm ne_b3_g114) nm0)
  replace hE := hE.trans hx126 (allc (.inr ge_b3) all0)
  clear hB4
  refine sN <| hK123 _ _ <| wp_ret ?_
  rw [hq]
  try simp only [Exit.then, Exit.inBlock]
  exact ret_of (rs := [.cell 2 26]) hf rfl ⟨_, _, _, _, 4, rfl, rfl, by kernel_rfl, hB125, rfl, rfl⟩ ⟨_, _, _, _, rfl, tree_mk (Nat.le_refl _) (maxLen_ge rfl) (own_cap hO116).1 (own_cap hO116).2 (RowIn.of_blk hB99 ge_b10 rfl) (kids_two (hT74.mono (fun b hb => by omega)) (hT104.mono (fun b hb => by omega))) (RowIn.of_own hO116), hP, hE, hL⟩
theorem functionRowL {H p n : Nat} {s : PS} {w : World} (hP : PAt H w p s) (hn : s.toks.length < n) (hcl : ¬ (pNext (pWord [40] (pName 1 1 (pWord wDef s).2).2.2).2).text = [41]) : Calls Try.prog 52 [.pointer (some ⟨p, 0, none⟩)].toArray w (TreePost w H p s (functionT n s)) := by
  have hq0 : functionT n s = (.node 2 (pName 1 1 (pWord wDef s).2).1 ([(pWord wDef s).1, (pName 1 1 (pWord wDef s).2).2.1, (pWord [40] (pName 1 1 (pWord wDef s).2).2.2).1, (pWord [41] (commaF (paramT n) 8 (fun t => t.kind == 1) (((paramT n) (pWord [40] (pName 1 1 (pWord wDef s).2).2.2).2).2.toks.length + 1) [] [((paramT n) (pWord [40] (pName 1 1 (pWord wDef s).2).2.2).2).1] ((paramT n) (pWord [40] (pName 1 1 (pWord wDef s).2).2.2).2).2).2.2).1, (pWord [58] (pWord [41] (commaF (paramT n) 8 (fun t => t.kind == 1) (((paramT n) (pWord [40] (pName 1 1 (pWord wDef s).2).2.2).2).2.toks.length + 1) [] [((paramT n) (pWord [40] (pName 1 1 (pWord wDef s).2).2.2).2).1] ((paramT n) (pWord [40] (pName 1 1 (pWord wDef s).2).2.2).2).2).2.2).2).1, (pWord [61] (typT n (pWord [58] (pWord [41] (commaF (paramT n) 8 (fun t => t.kind == 1) (((paramT n) (pWord [40] (pName 1 1 (pWord wDef s).2).2.2).2).2.toks.length + 1) [] [((paramT n) (pWord [40] (pName 1 1 (pWord wDef s).2).2.2).2).1] ((paramT n) (pWord [40] (pName 1 1 (pWord wDef s).2).2.2).2).2).2.2).2).2).2).1] ++ (commaF (paramT n) 8 (fun t => t.kind == 1) (((paramT n) (pWord [40] (pName 1 1 (pWord wDef s).2).2.2).2).2.toks.length + 1) [] [((paramT n) (pWord [40] (pName 1 1 (pWord wDef s).2).2.2).2).1] ((paramT n) (pWord [40] (pName 1 1 (pWord wDef s).2).2.2).2).2).1) ((commaF (paramT n) 8 (fun t => t.kind == 1) (((paramT n) (pWord [40] (pName 1 1 (pWord wDef s).2).2.2).2).2.toks.length + 1) [] [((paramT n) (pWord [40] (pName 1 1 (pWord wDef s).2).2.2).2).1] ((paramT n) (pWord [40] (pName 1 1 (pWord wDef s).2).2.2).2).2).2.1 ++ [(typT n (pWord [58] (pWord [41] (commaF (paramT n) 8 (fun t => t.kind == 1) (((paramT n) (pWord [40] (pName 1 1 (pWord wDef s).2).2.2).2).2.toks.length + 1) [] [((paramT n) (pWord [40] (pName 1 1 (pWord wDef s).2).2.2).2).1] ((paramT n) (pWord [40] (pName 1 1 (pWord wDef s).2).2.2).2).2).2.2).2).2).1, (exprT n (pWord [61] (typT n (pWord [58] (pWord [41] (commaF (paramT n) 8 (fun t => t.kind == 1) (((paramT n) (pWord [40] (pName 1 1 (pWord wDef s).2).2.2).2).2.toks.length + 1) [] [((paramT n) (pWord [40] (pName 1 1 (pWord wDef s).2).2.2).2).1] ((paramT n) (pWord [40] (pName 1 1 (pWord wDef s).2).2.2).2).2).2.2).2).2).2).2).1]), (exprT n (pWord [61] (typT n (pWord [58] (pWord [41] (commaF (paramT n) 8 (fun t => t.kind == 1) (((paramT n) (pWord [40] (pName 1 1 (pWord wDef s).2).2.2).2).2.toks.length + 1) [] [((paramT n) (pWord [40] (pName 1 1 (pWord wDef s).2).2.2).2).1] ((paramT n) (pWord [40] (pName 1 1 (pWord wDef s).2).2.2).2).2).2.2).2).2).2).2).2) := by
    simp only [functionT, rowF, if_neg hcl]
  refine enter_fr 97 Try.func52 rfl rfl rfl ?_
  intro a hf
  have hE := Chg.refl [p] w
  have hL := Nat.le_refl s.toks.length
  have lt_p := hP.lt
  refine wS fun K1 hK1 => wR ?_
  obtain ⟨w2, b3, he, hB4, hx5, eb6, lb7⟩ := eT a w 0
  refine sV hf rfl he fun a hf => ?_
  have ne_p_b3 : p ≠ b3 := ne_new hP.lt eb6
  have ge_b3 := ge_new hE eb6
  have hH_b3 : H ≤ b3 := by have := hP.le; have := hP.lt; omega
  replace hP := hP.chg hx5 all0
  replace hE := hE.t0 hx5
  clear eb6 lb7
  refine sN <| hK1 _ _ <| wS fun K8 hK8 => wR ?_
  obtain ⟨w9, b10, he, hB11, hx12, eb13, lb14⟩ := ef_make (P := Try.prog) (m := 6) (x := (.const (.int .i64 6))) (y := (.const (.int .i64 6))) (z := .string ⟨([] : List UInt8).toArray⟩) (sz := 1) (by_ := 16) (cs := [.string ⟨([] : List UInt8).toArray⟩, .string ⟨([] : List UInt8).toArray⟩, .string ⟨([] : List UInt8).toArray⟩, .string ⟨([] : List UInt8).toArray⟩, .string ⟨([] : List UInt8).toArray⟩, .string ⟨([] : List UInt8).toArray⟩]) hf rfl rfl Try.underlying23 (by kernel_rfl) (by kernel_rfl) (by kernel_rfl) (by kernel_rfl) w2 23
  refine sV hf rfl he fun a hf => ?_
  have ne_b3_b10 : b3 ≠ b10 := ne_new hB4.lt eb13
  have ne_p_b10 : p ≠ b10 := ne_new hP.lt eb13
  have ge_b10 := ge_new hE eb13
  have hH_b10 : H ≤ b10 := by have := hP.le; have := hP.lt; omega
  replace hB4 := hB4.c0 hx12
  replace hP := hP.chg hx12 all0
  replace hE := hE.t0 hx12
  clear eb13 lb14
  refine sV hf rfl (ex_bd (ps := [(0, (.const (.int .i64 2))), (2, (.tmp 4))]) (z := zT) (os := [0, 2]) hf rfl (by kernel_rfl) (by kernel_rfl) (by kernel_rfl) rfl rfl) fun a hf => ?_
  obtain ⟨w15, b16, he, hB17, hx18, eb19, lb20⟩ := eT a w9 0
  refine sV hf rfl he fun a hf => ?_
  have ne_b3_b16 : b3 ≠ b16 := ne_new hB4.lt eb19
  have ne_b10_b16 : b10 ≠ b16 := ne_new hB11.lt eb19
  have ne_p_b16 : p ≠ b16 := ne_new hP.lt eb19
  have ge_b16 := ge_new hE eb19
  have hH_b16 : H ≤ b16 := by have := hP.le; have := hP.lt; omega
  replace hB4 := hB4.c0 hx18
  replace hB11 := hB11.c0 hx18
  replace hP := hP.chg hx18 all0
  replace hE := hE.t0 hx18
  clear eb19 lb20
  obtain ⟨w21, he, hB22, hx23⟩ := eN (.tmp 3) (.tmp 5) hf rfl rfl rfl rfl hB17 rfl 0
  refine st_s hf rfl rfl he fun a hf => ?_
  replace hB4 := hB4.chg hx23 (nmc ne_b3_b16 nm0)
  replace hB11 := hB11.chg hx23 (nmc ne_b10_b16 nm0)
  replace hP := hP.chg hx23 (allc ⟨hH_b16, ne_p_b16⟩ all0)
  replace hE := hE.trans hx23 (allc (.inr ge_b16) all0)
  clear hB17
  refine sN <| hK8 _ _ <| wS fun K24 hK24 => ?_
  have s_hB22 := hB22
  refine dl_start (fun x => x.cell? ⟨b16, 2, none⟩ = w21.cell? ⟨b16, 2, none⟩) 6 6 rfl (by kernel_rfl) (by kernel_rfl) ?_
  intro w25 hx26 hsel
  replace hB4 := hB4.c0 hx26
  replace hB11 := hB11.c0 hx26
  replace hB22 := hB22.c0 hx26
  replace hP := hP.chg hx26 all0
  replace hE := hE.t0 hx26
  have hS0 := hB22.same s_hB22 2
  refine dV 0 rfl rfl hsel (by kernel_rfl) hf rfl (.inl hS0) (fun x => ex_fa (k := 2) (r := 2) hf rfl (by kernel_rfl) rfl) fun a hf => dL 1 rfl rfl hsel (by kernel_rfl) hf rfl hS0 (fun x hS => ex_load hf rfl (by kernel_rfl) (hS.trans ((s_hB22.cell 2).trans rfl))) fun a hf => dM 2 rfl rfl hsel (by kernel_rfl) hf rfl hS0 rfl fun a hf => dl_c 3 (by kernel_rfl) rfl hf rfl rfl rfl (by kernel_rfl) (pWordL (x := wDef) hP (by decide)) ?_
  rintro _ w28 ⟨rfl, hP, hx27⟩
  refine ⟨_, rfl, fun a hf => ?_⟩
  replace hB4 := hB4.chg hx27 (nmc (Ne.symm ne_p_b3) nm0)
  replace hB11 := hB11.chg hx27 (nmc (Ne.symm ne_p_b10) nm0)
  replace hB22 := hB22.chg hx27 (nmc (Ne.symm ne_p_b16) nm0)
  replace hE := hE.trans hx27 (allc (.inl (by simp)) all0)
  replace hL := nlt (pWord_len wDef _) hL
  clear hS0
  have hS0 := hB22.same s_hB22 2
  refine ⟨.inl hS0, ?_⟩
  refine dV 4 rfl rfl hsel (by kernel_rfl) hf rfl (.inl hS0) (fun x => ex_index (sz := 1) (k := 0) (r := 0) hf Try.underlying23 (by kernel_rfl) rfl rfl rfl (by first | decide | simp) rfl) fun a hf => ?_
  obtain ⟨w29, he, hB30, hx31⟩ := ef_store (P := Try.prog) (t := 9) (x := (.tmp 10)) (y := (.tmp 9)) hf rfl rfl (by kernel_rfl) rfl hB11 (Nat.le_of_ble_eq_true rfl) 0
  refine dl_s 5 (by kernel_rfl) rfl hf rfl rfl he fun a hf => ?_
  replace hB4 := hB4.chg hx31 (nmc ne_b3_b10 nm0)
  replace hB22 := hB22.chg hx31 (nmc (Ne.symm ne_b10_b16) nm0)
  replace hP := hP.chg hx31 (allc ⟨hH_b10, ne_p_b10⟩ all0)
  replace hE := hE.trans hx31 (allc (.inr ge_b10) all0)
  clear hB11
  clear hS0
  have hS0 := hB22.same s_hB22 2
  refine ⟨.inl hS0, ?_⟩
  refine dl_done (by kernel_rfl) ?_
  clear hS0 hsel
  refine hK24 _ _ <| wS fun K32 hK32 => ?_
  have s_hB22 := hB22
  refine dl_start (fun x => x.cell? ⟨b16, 2, none⟩ = w29.cell? ⟨b16, 2, none⟩) 11 11 rfl (by kernel_rfl) (by kernel_rfl) ?_
  intro w33 hx34 hsel
  replace hB4 := hB4.c0 hx34
  replace hB30 := hB30.c0 hx34
  replace hB22 := hB22.c0 hx34
  replace hP := hP.chg hx34 all0
  replace hE := hE.t0 hx34
  have hS0 := hB22.same s_hB22 2
  refine dV 0 rfl rfl hsel (by kernel_rfl) hf rfl (.inl hS0) (fun x => ex_fa (k := 2) (r := 2) hf rfl (by kernel_rfl) rfl) fun a hf => dL 1 rfl rfl hsel (by kernel_rfl) hf rfl hS0 (fun x hS => ex_load hf rfl (by kernel_rfl) (hS.trans ((s_hB22.cell 2).trans rfl))) fun a hf => dM 2 rfl rfl hsel (by kernel_rfl) hf rfl hS0 rfl fun a hf => dl_c 3 (by kernel_rfl) rfl hf rfl rfl rfl (by kernel_rfl) (pNameL (k := 1) (o := 1) hP) ?_
  rintro _ w36 ⟨rfl, hP, hx35⟩
  refine ⟨_, rfl, fun a hf => ?_⟩
  replace hB4 := hB4.chg hx35 (nmc (Ne.symm ne_p_b3) nm0)
  replace hB30 := hB30.chg hx35 (nmc (Ne.symm ne_p_b10) nm0)
  replace hB22 := hB22.chg hx35 (nmc (Ne.symm ne_p_b16) nm0)
  replace hE := hE.trans hx35 (allc (.inl (by simp)) all0)
  replace hL := nlt (pName_len 1 1 _) hL
  clear hS0
  have hS0 := hB22.same s_hB22 2
  refine ⟨.inl hS0, ?_⟩
  refine dM 4 rfl rfl hsel (by kernel_rfl) hf rfl hS0 rfl fun a hf => dV 5 rfl rfl hsel (by kernel_rfl) hf rfl (.inl hS0) (fun x => ex_extract hf rfl rfl) fun a hf => dV 6 rfl rfl hsel (by kernel_rfl) hf rfl (.inl hS0) (fun x => ex_extract hf rfl rfl) fun a hf => dV 7 rfl rfl hsel (by kernel_rfl) hf rfl (.inl hS0) (fun x => ex_fa (k := 1) (r := 1) hf rfl (by kernel_rfl) rfl) fun a hf => ?_
  obtain ⟨w37, he, hB38, hx39⟩ := ef_store (P := Try.prog) (t := 9) (x := (.tmp 18)) (y := (.tmp 16)) hf rfl rfl (by kernel_rfl) rfl hB22 (Nat.le_of_ble_eq_true rfl) 0
  refine dl_s 8 (by kernel_rfl) rfl hf rfl rfl he fun a hf => ?_
  replace hB4 := hB4.chg hx39 (nmc ne_b3_b16 nm0)
  replace hB30 := hB30.chg hx39 (nmc ne_b10_b16 nm0)
  replace hP := hP.chg hx39 (allc ⟨hH_b16, ne_p_b16⟩ all0)
  replace hE := hE.trans hx39 (allc (.inr ge_b16) all0)
  clear hB22
  clear hS0
  have hS0 := hB38.same s_hB22 2
  refine ⟨.inl hS0, ?_⟩
  refine dV 9 rfl rfl hsel (by kernel_rfl) hf rfl (.inl hS0) (fun x => ex_index (sz := 1) (k := 1) (r := 1) hf Try.underlying23 (by kernel_rfl) rfl rfl rfl (by first | decide | simp) rfl) fun a hf => ?_
  obtain ⟨w40, he, hB41, hx42⟩ := ef_store (P := Try.prog) (t := 9) (x := (.tmp 19)) (y := (.tmp 17)) hf rfl rfl (by kernel_rfl) rfl hB30 (Nat.le_of_ble_eq_true rfl) 0
  refine dl_s 10 (by kernel_rfl) rfl hf rfl rfl he fun a hf => ?_
  replace hB4 := hB4.chg hx42 (nmc ne_b3_b10 nm0)
  replace hB38 := hB38.chg hx42 (nmc (Ne.symm ne_b10_b16) nm0)
  replace hP := hP.chg hx42 (allc ⟨hH_b10, ne_p_b10⟩ all0)
  replace hE := hE.trans hx42 (allc (.inr ge_b10) all0)
  clear hB30
  clear hS0
  have hS0 := hB38.same s_hB22 2
  refine ⟨.inl hS0, ?_⟩
  refine dl_done (by kernel_rfl) ?_
  clear hS0 hsel
  refine hK32 _ _ <| wS fun K43 hK43 => ?_
  have s_hB38 := hB38
  refine dl_start (fun x => x.cell? ⟨b16, 2, none⟩ = w40.cell? ⟨b16, 2, none⟩) 6 6 rfl (by kernel_rfl) (by kernel_rfl) ?_
  intro w44 hx45 hsel
  replace hB4 := hB4.c0 hx45
  replace hB41 := hB41.c0 hx45
  replace hB38 := hB38.c0 hx45
  replace hP := hP.chg hx45 all0
  replace hE := hE.t0 hx45
  have hS0 := hB38.same s_hB38 2
  refine dV 0 rfl rfl hsel (by kernel_rfl) hf rfl (.inl hS0) (fun x => ex_fa (k := 2) (r := 2) hf rfl (by kernel_rfl) rfl) fun a hf => dL 1 rfl rfl hsel (by kernel_rfl) hf rfl hS0 (fun x hS => ex_load hf rfl (by kernel_rfl) (hS.trans ((s_hB38.cell 2).trans rfl))) fun a hf => dM 2 rfl rfl hsel (by kernel_rfl) hf rfl hS0 rfl fun a hf => dl_c 3 (by kernel_rfl) rfl hf rfl rfl rfl (by kernel_rfl) (pWordL (x := [40]) hP (by decide)) ?_
  rintro _ w47 ⟨rfl, hP, hx46⟩
  refine ⟨_, rfl, fun a hf => ?_⟩
  replace hB4 := hB4.chg hx46 (nmc (Ne.symm ne_p_b3) nm0)
  replace hB41 := hB41.chg hx46 (nmc (Ne.symm ne_p_b10) nm0)
  replace hB38 := hB38.chg hx46 (nmc (Ne.symm ne_p_b16) nm0)
  replace hE := hE.trans hx46 (allc (.inl (by simp)) all0)
  replace hL := nlt (pWord_len [40] _) hL
  clear hS0
  have hS0 := hB38.same s_hB38 2
  refine ⟨.inl hS0, ?_⟩
  refine dV 4 rfl rfl hsel (by kernel_rfl) hf rfl (.inl hS0) (fun x => ex_index (sz := 1) (k := 2) (r := 2) hf Try.underlying23 (by kernel_rfl) rfl rfl rfl (by first | decide | simp) rfl) fun a hf => ?_
  obtain ⟨w48, he, hB49, hx50⟩ := ef_store (P := Try.prog) (t := 9) (x := (.tmp 24)) (y := (.tmp 23)) hf rfl rfl (by kernel_rfl) rfl hB41 (Nat.le_of_ble_eq_true rfl) 0
  refine dl_s 5 (by kernel_rfl) rfl hf rfl rfl he fun a hf => ?_
  replace hB4 := hB4.chg hx50 (nmc ne_b3_b10 nm0)
  replace hB38 := hB38.chg hx50 (nmc (Ne.symm ne_b10_b16) nm0)
  replace hP := hP.chg hx50 (allc ⟨hH_b10, ne_p_b10⟩ all0)
  replace hE := hE.trans hx50 (allc (.inr ge_b10) all0)
  clear hB41
  clear hS0
  have hS0 := hB38.same s_hB38 2
  refine ⟨.inl hS0, ?_⟩
  refine dl_done (by kernel_rfl) ?_
  clear hS0 hsel
  refine hK43 _ _ <| wS fun K51 hK51 => wS fun K52 hK52 => wR <| sM hf rfl rfl fun a hf => st_c hf rfl rfl rfl (by kernel_rfl) (pNextL hP) ?_
  rintro _ w54 ⟨rfl, hP, hx53⟩
  refine ⟨_, rfl, fun a hf => ?_⟩
  replace hB4 := hB4.c0 hx53
  replace hB49 := hB49.c0 hx53
  replace hB38 := hB38.c0 hx53
  replace hE := hE.t0 hx53
  refine sV hf rfl (ex_fd (k := 2) hf rfl (by kernel_rfl) rfl) fun a hf => sV hf rfl (ex_neS (c := true) hf rfl rfl (bneT hcl)) fun a hf => sN <| hK52 _ _ <| cT hf rfl <| wS fun K55 hK55 => ?_
  have s_hB38 := hB38
  refine dl_start (fun x => x.cell? ⟨b16, 3, none⟩ = w54.cell? ⟨b16, 3, none⟩) 7 8 rfl (by kernel_rfl) (by kernel_rfl) ?_
  intro w56 hx57 hsel
  replace hB4 := hB4.c0 hx57
  replace hB49 := hB49.c0 hx57
  replace hB38 := hB38.c0 hx57
  replace hP := hP.chg hx57 all0
  replace hE := hE.t0 hx57
  have hS0 := hB38.same s_hB38 3
  refine dV 0 rfl rfl hsel (by kernel_rfl) hf rfl (.inl hS0) (fun x => ex_fa (k := 3) (r := 3) hf rfl (by kernel_rfl) rfl) fun a hf => dL 1 rfl rfl hsel (by kernel_rfl) hf rfl hS0 (fun x hS => ex_load hf rfl (by kernel_rfl) (hS.trans ((s_hB38.cell 3).trans rfl))) fun a hf => dM 2 rfl rfl hsel (by kernel_rfl) hf rfl hS0 rfl fun a hf => ?_
  have plt58 := hP.lt
  refine dl_c 3 (by kernel_rfl) rfl hf rfl rfl rfl (by kernel_rfl) (pParamL (n := n) hP (by omega)) ?_
  rintro _ w59 ⟨c58_0, c58_1, c58_2, c58_3, rfl, hT58, hP, hx58, hl58⟩
  refine ⟨_, rfl, fun a hf => ?_⟩
  obtain ⟨lo60, elo60⟩ : ∃ x, x = w56.heap.size := ⟨_, rfl⟩
  obtain ⟨hi60, ehi60⟩ : ∃ x, x = w59.heap.size := ⟨_, rfl⟩
  replace hT58 := hT58.within elo60 ehi60
  have hle60 : hi60 ≤ w59.heap.size := Nat.le_of_eq ehi60
  have ge_lo60 : w.heap.size ≤ lo60 := elo60 ▸ hE.size
  have tb_lo60_b3 : b3 < lo60 := elo60 ▸ hB4.lt
  have tb_lo60_b10 : b10 < lo60 := elo60 ▸ hB49.lt
  have tb_lo60_b16 : b16 < lo60 := elo60 ▸ hB38.lt
  have tb_lo60_p : p < lo60 := elo60 ▸ plt58
  clear elo60 ehi60
  clear plt58
  have on_hT58 := hT58.one
  replace hB4 := hB4.chg hx58 (nmc (Ne.symm ne_p_b3) nm0)
  replace hB49 := hB49.chg hx58 (nmc (Ne.symm ne_p_b10) nm0)
  replace hB38 := hB38.chg hx58 (nmc (Ne.symm ne_p_b16) nm0)
  replace hE := hE.trans hx58 (allc (.inl (by simp)) all0)
  replace hL := nlt hl58 hL
  clear hS0
  have hS0 := hB38.same s_hB38 3
  refine ⟨.inl hS0, ?_⟩
  obtain ⟨w61, b62, he, hB63, hx64, eb65, lb66⟩ := ef_bslice (P := Try.prog) (ps := [(0, (.tmp 32))]) (m := 1) (sz := 4) (z := zT) hf rfl Try.underlying24 (by kernel_rfl) (by kernel_rfl) rfl rfl (by kernel_rfl) rfl w59 24
  refine dl_e 4 (by kernel_rfl) rfl hf rfl rfl he fun a hf => ?_
  have ne_b3_b62 : b3 ≠ b62 := ne_new hB4.lt eb65
  have ne_b10_b62 : b10 ≠ b62 := ne_new hB49.lt eb65
  have ne_b16_b62 : b16 ≠ b62 := ne_new hB38.lt eb65
  have ne_p_b62 : p ≠ b62 := ne_new hP.lt eb65
  have ta_hi60_b62 : hi60 ≤ b62 := eb65 ▸ hle60
  have ge_b62 := ge_new hE eb65
  have hH_b62 : H ≤ b62 := by have := hP.le; have := hP.lt; omega
  replace hB4 := hB4.c0 hx64
  replace hB49 := hB49.c0 hx64
  replace hB38 := hB38.c0 hx64
  replace hP := hP.chg hx64 all0
  replace hT58 := hT58.chg hx64 (fun b hb _ => nm0)
  replace hle60 := nlt hle60 hx64.size
  replace hE := hE.t0 hx64
  clear eb65 lb66
  clear hS0
  have hS0 := hB38.same s_hB38 3
  refine ⟨.inl hS0, ?_⟩
  obtain ⟨g68, cap69, w67, he, hO70, hx71, hat72, hlt73⟩ := ef_append0 (P := Try.prog) (x := (.tmp 30)) (y := (.tmp 33)) (z := .agg zA) (sz := 4) (by_ := 72) hf rfl rfl Try.underlying24 (by kernel_rfl) rfl rfl (World.ownsRow_nil w61 w.heap.size 26 4) hB63 rfl on_hT58 rfl (by simp only [maxLen]; omega) (by omega) (hE.size) 24
  refine dl_e 5 (by kernel_rfl) rfl hf rfl rfl he fun a hf => ?_
  have ne_b3_g68 : b3 ≠ g68 := by have := hB4.lt; omega
  have ne_b10_g68 : b10 ≠ g68 := by have := hB49.lt; omega
  have ne_b16_g68 : b16 ≠ g68 := by have := hB38.lt; omega
  have ne_b62_g68 : b62 ≠ g68 := by have := hB63.lt; omega
  have ne_p_g68 : p ≠ g68 := by have := hP.lt; omega
  have ta_hi60_g68 : hi60 ≤ g68 ∨ g68 < lo60 := by have := hle60; omega
  have ge_g68 : w.heap.size ≤ g68 := own_gle hO70
  have hH_g68 : H ≤ g68 := by have := hP.le; have := hP.lt; omega
  replace hB4 := hB4.c0 hx71
  replace hB49 := hB49.c0 hx71
  replace hB38 := hB38.c0 hx71
  replace hB63 := hB63.c0 hx71
  replace hP := hP.chg hx71 all0
  replace hT58 := hT58.chg hx71 (fun b hb _ => nm0)
  replace hle60 := nlt hle60 hx71.size
  replace hE := hE.t0 hx71
  clear hat72 hlt73
  clear hS0
  have hS0 := hB38.same s_hB38 3
  refine ⟨.inl hS0, ?_⟩
  refine dV 6 rfl rfl hsel (by kernel_rfl) hf rfl (.inl hS0) (fun x => ex_fa (k := 3) (r := 3) hf rfl (by kernel_rfl) rfl) fun a hf => ?_
  obtain ⟨w74, he, hB75, hx76⟩ := ef_store (P := Try.prog) (t := 24) (x := (.tmp 35)) (y := (.tmp 34)) hf rfl rfl (by kernel_rfl) rfl hB38 (Nat.le_of_ble_eq_true rfl) 0
  refine dl_s 7 (by kernel_rfl) rfl hf rfl rfl he fun a hf => ?_
  replace hB4 := hB4.chg hx76 (nmc ne_b3_b16 nm0)
  replace hB49 := hB49.chg hx76 (nmc ne_b10_b16 nm0)
  replace hB63 := hB63.chg hx76 (nmc (Ne.symm ne_b16_b62) nm0)
  replace hP := hP.chg hx76 (allc ⟨hH_b16, ne_p_b16⟩ all0)
  replace hT58 := hT58.chg hx76 (fun b hb _ => (nmc (by omega) nm0))
  replace hle60 := nlt hle60 hx76.size
  replace hO70 := own_gchg hO70 hx76 (nmc (Ne.symm ne_b16_g68) nm0)
  replace hE := hE.trans hx76 (allc (.inr ge_b16) all0)
  clear hB38
  refine ⟨.inr (by kernel_rfl), ?_⟩
  refine dl_done (by kernel_rfl) ?_
  clear hS0 hsel
  refine hK55 _ _ <| wp_block ?_
  obtain ⟨R, hRd⟩ : ∃ R, commaF (paramT n) 8 (fun t => t.kind == 1) (((paramT n) (pWord [40] (pName 1 1 (pWord wDef s).2).2.2).2).2.toks.length + 1) [] [((paramT n) (pWord [40] (pName 1 1 (pWord wDef s).2).2.2).2).1] ((paramT n) (pWord [40] (pName 1 1 (pWord wDef s).2).2.2).2).2 = R := ⟨_, rfl⟩
  have hcnt := hP.cnt
  refine wp_loop_ghost (fun g a w' => ∃ cs ks s' lg lcap kg kcap cc F, Fr a 97 (fm [(0, .pointer (some ⟨p, 0, none⟩)), (2, .pointer (some ⟨b3, 0, none⟩)), (3, .pointer (some ⟨b16, 0, none⟩))]) ∧ CommaAt w H p b3 b16 2 ((pName 1 1 (pWord wDef s).2).1) [(pWord wDef s).1, (pName 1 1 (pWord wDef s).2).2.1, (pWord [40] (pName 1 1 (pWord wDef s).2).2.2).1, [], [], []] cs ks s' lg lcap kg kcap cc w' ∧ g = s'.toks.length ∧ s'.toks.length < F ∧ commaF (paramT n) 8 (fun t => t.kind == 1) F cs ks s' = R ∧ s'.toks.length ≤ s.toks.length ∧ ks.length + s'.toks.length ≤ 1000001 ∧ cs.length ≤ ks.length) _ ⟨[], [((paramT n) (pWord [40] (pName 1 1 (pWord wDef s).2).2.2).2).1], _, b10, 6, g68, _, _, _, hf.pick ⟨rfl, rfl, rfl, trivial⟩, ⟨hP, hE, hB4, hB75, own_of_blk hB49 ge_b10 rfl rfl, hO70, kids_one (hT58.mono (fun b hb => by omega)), ge_b3, ge_b16, lt_p, (by omega), (by omega), (by omega), (by omega), (by omega), (by omega)⟩, rfl, Nat.lt_succ_self _, hRd, hL, (by simp only [List.length_cons, List.length_nil]; omega), (by simp)⟩ ?_
  clear hf a; intro g0 a w' hI
  obtain ⟨cs, ks, s', lg, lcap, kg, kcap, cc, F, hf, hC, rfl, hF, hR, hLs, hM, hcl⟩ := hI
  obtain ⟨b2, eb2⟩ : ∃ x, b3 = x := ⟨_, rfl⟩
  obtain ⟨bt, ebt⟩ : ∃ x, b16 = x := ⟨_, rfl⟩
  rw [eb2, ebt] at hC hf
  obtain ⟨hP, hE, hB2, hBT, hOL, hOK, hKT, ge_b2, ge_bt, lt_p, ne_b2_bt, ne_b2_lg, ne_b2_kg, ne_bt_lg, ne_bt_kg, ne_lg_kg⟩ := hC
  have ge_lg := own_gle hOL
  have ge_kg := own_gle hOK
  have ne_p_b2 : p ≠ b2 := by omega
  have hH_b2 : H ≤ b2 := by have := hP.le; omega
  have ne_p_bt : p ≠ bt := by omega
  have hH_bt : H ≤ bt := by have := hP.le; omega
  have ne_p_lg : p ≠ lg := by omega
  have hH_lg : H ≤ lg := by have := hP.le; omega
  have ne_p_kg : p ≠ kg := by omega
  have hH_kg : H ≤ kg := by have := hP.le; omega
  by_cases hcm : (pNext s').text = [44]
  obtain ⟨t', r', hs', hn'⟩ := pNext_cons (s := s') (.inl (by rw [hcm]; decide))
  have htl' := pTake_lt hs'
  obtain ⟨F', rfl⟩ : ∃ F', F = F' + 1 := ⟨F - 1, by omega⟩
  have hcnt' := hP.cnt
  by_cases hmost : ks.length = 8
  refine wS fun K77 hK77 => wS fun K78 hK78 => wR <| sM hf rfl rfl fun a hf => st_c hf rfl rfl rfl (by kernel_rfl) (pNextL hP) ?_
  rintro _ w80 ⟨rfl, hP, hx79⟩
  refine ⟨_, rfl, fun a hf => ?_⟩
  replace hB2 := hB2.c0 hx79
  replace hBT := hBT.c0 hx79
  replace hOL := own_gchg hOL hx79 nm0
  replace hOK := own_gchg hOK hx79 nm0
  replace hKT := hKT.chg hx79 (fun b hb hlt => nm0)
  replace hE := hE.t0 hx79
  refine sV hf rfl (ex_fd (k := 2) hf rfl (by kernel_rfl) rfl) fun a hf => sV hf rfl (ex_eqS (c := true) hf rfl rfl (beqT hcm)) fun a hf => sN <| hK78 _ _ <| cT hf rfl <| wp_skip <| hK77 _ _ <| wp_block <| wS fun K81 hK81 => ?_
  have s_hBT := hBT
  refine dl_start (fun x => x.cell? ⟨bt, 2, none⟩ = w80.cell? ⟨bt, 2, none⟩) 8 9 rfl (by kernel_rfl) (by kernel_rfl) ?_
  intro w82 hx83 hsel
  replace hB2 := hB2.c0 hx83
  replace hBT := hBT.c0 hx83
  replace hP := hP.chg hx83 all0
  replace hOL := own_gchg hOL hx83 nm0
  replace hOK := own_gchg hOK hx83 nm0
  replace hKT := hKT.chg hx83 (fun b hb hlt => nm0)
  replace hE := hE.t0 hx83
  have hS0 := hBT.same s_hBT 2
  refine dV 0 rfl rfl hsel (by kernel_rfl) hf rfl (.inl hS0) (fun x => ex_fa (k := 2) (r := 2) hf rfl (by kernel_rfl) rfl) fun a hf => dL 1 rfl rfl hsel (by kernel_rfl) hf rfl hS0 (fun x hS => ex_load hf rfl (by kernel_rfl) (hS.trans ((s_hBT.cell 2).trans rfl))) fun a hf => dM 2 rfl rfl hsel (by kernel_rfl) hf rfl hS0 rfl fun a hf => dl_c 3 (by kernel_rfl) rfl hf rfl rfl rfl (by kernel_rfl) (pTakeL hP hs') ?_
  rintro _ w85 ⟨rfl, hP, hx84⟩
  refine ⟨_, rfl, fun a hf => ?_⟩
  replace hB2 := hB2.chg hx84 (nmc (Ne.symm ne_p_b2) nm0)
  replace hBT := hBT.chg hx84 (nmc (Ne.symm ne_p_bt) nm0)
  replace hOL := own_gchg hOL hx84 (nmc (Ne.symm ne_p_lg) nm0)
  replace hOK := own_gchg hOK hx84 (nmc (Ne.symm ne_p_kg) nm0)
  replace hKT := hKT.chg hx84 (fun b hb hlt => (nmc (by omega) nm0))
  replace hE := hE.trans hx84 (allc (.inl (by simp)) all0)
  clear hS0
  have hS0 := hBT.same s_hBT 2
  refine ⟨.inl hS0, ?_⟩
  refine dV 4 rfl rfl hsel (by kernel_rfl) hf rfl (.inl hS0) (fun x => ex_fd (k := 1) hf rfl (by kernel_rfl) rfl) fun a hf => ?_
  obtain ⟨w86, b87, he, hB88, hx89, eb90, lb91⟩ := ef_bslice (P := Try.prog) (ps := [(0, (.tmp 44))]) (m := 1) (sz := 1) (z := [.string ⟨([] : List UInt8).toArray⟩]) hf rfl Try.underlying23 (by kernel_rfl) (by kernel_rfl) rfl rfl (by kernel_rfl) rfl w85 23
  refine dl_e 5 (by kernel_rfl) rfl hf rfl rfl he fun a hf => ?_
  have ne_b2_b87 : b2 ≠ b87 := ne_new hB2.lt eb90
  have ne_bt_b87 : bt ≠ b87 := ne_new hBT.lt eb90
  have ne_p_b87 : p ≠ b87 := ne_new hP.lt eb90
  have ne_lg_b87 : lg ≠ b87 := ne_new (own_glt hOL) eb90
  have ne_kg_b87 : kg ≠ b87 := ne_new (own_glt hOK) eb90
  have ge_b87 := ge_new hE eb90
  have hH_b87 : H ≤ b87 := by have := hP.le; have := hP.lt; omega
  replace hB2 := hB2.c0 hx89
  replace hBT := hBT.c0 hx89
  replace hP := hP.chg hx89 all0
  replace hOL := own_gchg hOL hx89 nm0
  replace hOK := own_gchg hOK hx89 nm0
  replace hKT := hKT.chg hx89 (fun b hb hlt => nm0)
  replace hE := hE.t0 hx89
  clear eb90 lb91
  clear hS0
  have hS0 := hBT.same s_hBT 2
  refine ⟨.inl hS0, ?_⟩
  obtain ⟨g93, cap94, w92, he, hO95, hx96, hat97, hlt98⟩ := ef_append1 (P := Try.prog) (x := (.tmp 41)) (y := (.tmp 45)) (z := .string ⟨([] : List UInt8).toArray⟩) (sz := 1) (by_ := 16) hf rfl rfl Try.underlying23 (by kernel_rfl) rfl rfl hOL hB88 rfl rfl rfl (by simp only [maxLen, List.length_append, List.length_cons, List.length_nil]; omega) (by simp only [List.length_append, List.length_cons, List.length_nil]; omega) (hE.size) 23
  refine dl_e 6 (by kernel_rfl) rfl hf rfl rfl he fun a hf => ?_
  have ne_b2_g93 : b2 ≠ g93 := by have := hB2.lt; have := ne_b2_lg; omega
  have ne_bt_g93 : bt ≠ g93 := by have := hBT.lt; have := ne_bt_lg; omega
  have ne_b87_g93 : b87 ≠ g93 := by have := hB88.lt; have := (Ne.symm ne_lg_b87); omega
  have ne_p_g93 : p ≠ g93 := by have := hP.lt; have := ne_p_lg; omega
  have ne_kg_g93 : kg ≠ g93 := by have := (own_glt hOK); have := (Ne.symm ne_lg_kg); omega
  replace hKT : KidsAre (fun b => w.heap.size ≤ b ∧ b ≠ b2 ∧ b ≠ bt ∧ b ≠ lg ∧ b ≠ kg ∧ b ≠ g93) w86 _ _ := hKT.keepB (fun b hb hlt => by omega) (fun _ _ _ => rfl)
  have ge_g93 : w.heap.size ≤ g93 := own_gle hO95
  have hH_g93 : H ≤ g93 := by have := hP.le; have := hP.lt; omega
  replace hB2 := hB2.chg hx96 (nmc ne_b2_lg nm0)
  replace hBT := hBT.chg hx96 (nmc ne_bt_lg nm0)
  replace hB88 := hB88.chg hx96 (nmc (Ne.symm ne_lg_b87) nm0)
  replace hP := hP.chg hx96 (allc ⟨hH_lg, ne_p_lg⟩ all0)
  replace hOK := own_gchg hOK hx96 (nmc (Ne.symm ne_lg_kg) nm0)
  replace hKT := hKT.chg hx96 (fun b hb hlt => (nmc (by omega) nm0))
  replace hE := hE.trans hx96 (allc (.inr ge_lg) all0)
  clear hat97 hlt98
  clear hS0
  have hS0 := hBT.same s_hBT 2
  refine ⟨.inl hS0, ?_⟩
  refine dV 7 rfl rfl hsel (by kernel_rfl) hf rfl (.inl hS0) (fun x => ex_fa (k := 2) (r := 2) hf rfl (by kernel_rfl) rfl) fun a hf => ?_
  obtain ⟨w99, he, hB100, hx101⟩ := ef_store (P := Try.prog) (t := 23) (x := (.tmp 47)) (y := (.tmp 46)) hf rfl rfl (by kernel_rfl) rfl hBT (Nat.le_of_ble_eq_true rfl) 0
  refine dl_s 8 (by kernel_rfl) rfl hf rfl rfl he fun a hf => ?_
  replace hB2 := hB2.chg hx101 (nmc ne_b2_bt nm0)
  replace hB88 := hB88.chg hx101 (nmc (Ne.symm ne_bt_b87) nm0)
  replace hP := hP.chg hx101 (allc ⟨hH_bt, ne_p_bt⟩ all0)
  replace hOK := own_gchg hOK hx101 (nmc (Ne.symm ne_bt_kg) nm0)
  replace hKT := hKT.chg hx101 (fun b hb hlt => (nmc (by omega) nm0))
  replace hO95 := own_gchg hO95 hx101 (nmc (Ne.symm ne_bt_g93) nm0)
  replace hE := hE.trans hx101 (allc (.inr ge_bt) all0)
  clear hBT
  refine ⟨.inr (by kernel_rfl), ?_⟩
  refine dl_done (by kernel_rfl) ?_
  clear hS0 hsel
  refine hK81 _ _ <| wS fun K102 hK102 => wS fun K103 hK103 => wR <| sV hf rfl (ex_fa (k := 3) (r := 3) hf rfl (by kernel_rfl) rfl) fun a hf => sV hf rfl (ex_loadB hf rfl (by kernel_rfl) hB100 rfl) fun a hf => sV hf rfl (ex_len hf Try.underlying24 rfl) fun a hf => sV hf rfl (ex_eqI (c := true) hf rfl rfl (iEqT (by omega))) fun a hf => sM hf rfl rfl fun a hf => sM hf rfl rfl fun a hf => st_c hf rfl rfl rfl (by kernel_rfl) (pNextL hP) ?_
  rintro _ w105 ⟨rfl, hP, hx104⟩
  refine ⟨_, rfl, fun a hf => ?_⟩
  replace hB2 := hB2.c0 hx104
  replace hB100 := hB100.c0 hx104
  replace hB88 := hB88.c0 hx104
  replace hOK := own_gchg hOK hx104 nm0
  replace hKT := hKT.chg hx104 (fun b hb hlt => nm0)
  replace hO95 := own_gchg hO95 hx104 nm0
  replace hE := hE.t0 hx104
  refine sV hf rfl (ex_fd (k := 0) hf rfl (by kernel_rfl) rfl) fun a hf => sV hf rfl (ex_eqI hf rfl rfl rfl) fun a hf => sV hf rfl (ex_pickT hf rfl rfl) fun a hf => sN <| hK103 _ _ <| cd_b hf rfl ?_ ?_
  intro hbg
  refine wR <| sM hf rfl rfl fun a hf => st_c hf rfl rfl rfl (by kernel_rfl) (pFailL (e := 3) hP (by decide)) ?_
  rintro _ w108 ⟨rfl, hP, hx107⟩
  refine ⟨_, rfl, fun a hf => ?_⟩
  replace hB2 := hB2.chg hx107 (nmc (Ne.symm ne_p_b2) nm0)
  replace hB100 := hB100.chg hx107 (nmc (Ne.symm ne_p_bt) nm0)
  replace hB88 := hB88.chg hx107 (nmc (Ne.symm ne_p_b87) nm0)
  replace hOK := own_gchg hOK hx107 (nmc (Ne.symm ne_p_kg) nm0)
  replace hKT := hKT.chg hx107 (fun b hb hlt => (nmc (by omega) nm0))
  replace hO95 := own_gchg hO95 hx107 (nmc (Ne.symm ne_p_g93) nm0)
  replace hE := hE.trans hx107 (allc (.inl (by simp)) all0)
  refine sN <| hK102 _ _ ?_
  have s_hB100 := hB100
  refine dl_start (fun x => x.cell? ⟨bt, 3, none⟩ = w108.cell? ⟨bt, 3, none⟩) 7 8 rfl (by kernel_rfl) (by kernel_rfl) ?_
  intro w109 hx110 hsel
  replace hB2 := hB2.c0 hx110
  replace hB100 := hB100.c0 hx110
  replace hB88 := hB88.c0 hx110
  replace hP := hP.chg hx110 all0
  replace hOK := own_gchg hOK hx110 nm0
  replace hKT := hKT.chg hx110 (fun b hb hlt => nm0)
  replace hO95 := own_gchg hO95 hx110 nm0
  replace hE := hE.t0 hx110
  have hS0 := hB100.same s_hB100 3
  refine dV 0 rfl rfl hsel (by kernel_rfl) hf rfl (.inl hS0) (fun x => ex_fa (k := 3) (r := 3) hf rfl (by kernel_rfl) rfl) fun a hf => dL 1 rfl rfl hsel (by kernel_rfl) hf rfl hS0 (fun x hS => ex_load hf rfl (by kernel_rfl) (hS.trans ((s_hB100.cell 3).trans rfl))) fun a hf => dM 2 rfl rfl hsel (by kernel_rfl) hf rfl hS0 rfl fun a hf => ?_
  have plt111 := hP.lt
  refine dl_c 3 (by kernel_rfl) rfl hf rfl rfl rfl (by kernel_rfl) (pParamL (n := n) (s := (pFail 3 (pTake s'))) hP (by have := pFail_len 3 (pTake s'); omega)) ?_
  rintro _ w112 ⟨c111_0, c111_1, c111_2, c111_3, rfl, hT111, hP, hx111, hl111⟩
  refine ⟨_, rfl, fun a hf => ?_⟩
  obtain ⟨lo113, elo113⟩ : ∃ x, x = w109.heap.size := ⟨_, rfl⟩
  obtain ⟨hi113, ehi113⟩ : ∃ x, x = w112.heap.size := ⟨_, rfl⟩
  replace hT111 := hT111.within elo113 ehi113
  have hle113 : hi113 ≤ w112.heap.size := Nat.le_of_eq ehi113
  have ge_lo113 : w.heap.size ≤ lo113 := elo113 ▸ hE.size
  have tb_lo113_b2 : b2 < lo113 := elo113 ▸ hB2.lt
  have tb_lo113_bt : bt < lo113 := elo113 ▸ hB100.lt
  have tb_lo113_b87 : b87 < lo113 := elo113 ▸ hB88.lt
  have tb_lo113_p : p < lo113 := elo113 ▸ plt111
  have tb_lo113_kg : kg < lo113 := elo113 ▸ (own_glt hOK)
  have tb_lo113_g93 : g93 < lo113 := elo113 ▸ (own_glt hO95)
  clear elo113 ehi113
  clear plt111
  have on_hT111 := hT111.one
  replace hB2 := hB2.chg hx111 (nmc (Ne.symm ne_p_b2) nm0)
  replace hB100 := hB100.chg hx111 (nmc (Ne.symm ne_p_bt) nm0)
  replace hB88 := hB88.chg hx111 (nmc (Ne.symm ne_p_b87) nm0)
  replace hOK := own_gchg hOK hx111 (nmc (Ne.symm ne_p_kg) nm0)
  replace hKT := hKT.chg hx111 (fun b hb hlt => (nmc (by omega) nm0))
  replace hO95 := own_gchg hO95 hx111 (nmc (Ne.symm ne_p_g93) nm0)
  replace hE := hE.trans hx111 (allc (.inl (by simp)) all0)
  clear hS0
  have hS0 := hB100.same s_hB100 3
  refine ⟨.inl hS0, ?_⟩
  obtain ⟨w114, b115, he, hB116, hx117, eb118, lb119⟩ := ef_bslice (P := Try.prog) (ps := [(0, (.tmp 63))]) (m := 1) (sz := 4) (z := zT) hf rfl Try.underlying24 (by kernel_rfl) (by kernel_rfl) rfl rfl (by kernel_rfl) rfl w112 24
  refine dl_e 4 (by kernel_rfl) rfl hf rfl rfl he fun a hf => ?_
  have ne_b2_b115 : b2 ≠ b115 := ne_new hB2.lt eb118
  have ne_bt_b115 : bt ≠ b115 := ne_new hB100.lt eb118
  have ne_b87_b115 : b87 ≠ b115 := ne_new hB88.lt eb118
  have ne_p_b115 : p ≠ b115 := ne_new hP.lt eb118
  have ne_kg_b115 : kg ≠ b115 := ne_new (own_glt hOK) eb118
  have ne_g93_b115 : g93 ≠ b115 := ne_new (own_glt hO95) eb118
  have ta_hi113_b115 : hi113 ≤ b115 := eb118 ▸ hle113
  have ge_b115 := ge_new hE eb118
  have hH_b115 : H ≤ b115 := by have := hP.le; have := hP.lt; omega
  replace hB2 := hB2.c0 hx117
  replace hB100 := hB100.c0 hx117
  replace hB88 := hB88.c0 hx117
  replace hP := hP.chg hx117 all0
  replace hOK := own_gchg hOK hx117 nm0
  replace hKT := hKT.chg hx117 (fun b hb hlt => nm0)
  replace hO95 := own_gchg hO95 hx117 nm0
  replace hT111 := hT111.chg hx117 (fun b hb _ => nm0)
  replace hle113 := nlt hle113 hx117.size
  replace hE := hE.t0 hx117
  clear eb118 lb119
  clear hS0
  have hS0 := hB100.same s_hB100 3
  refine ⟨.inl hS0, ?_⟩
  obtain ⟨g121, cap122, w120, he, hO123, hx124, hat125, hlt126⟩ := ef_append1 (P := Try.prog) (x := (.tmp 61)) (y := (.tmp 64)) (z := .agg zA) (sz := 4) (by_ := 72) hf rfl rfl Try.underlying24 (by kernel_rfl) rfl rfl hOK hB116 rfl on_hT111 rfl (by simp only [maxLen]; omega) (by omega) (hE.size) 24
  refine dl_e 5 (by kernel_rfl) rfl hf rfl rfl he fun a hf => ?_
  have ne_b2_g121 : b2 ≠ g121 := by have := hB2.lt; have := ne_b2_kg; omega
  have ne_bt_g121 : bt ≠ g121 := by have := hB100.lt; have := ne_bt_kg; omega
  have ne_b87_g121 : b87 ≠ g121 := by have := hB88.lt; have := (Ne.symm ne_kg_b87); omega
  have ne_b115_g121 : b115 ≠ g121 := by have := hB116.lt; have := (Ne.symm ne_kg_b115); omega
  have ne_p_g121 : p ≠ g121 := by have := hP.lt; have := ne_p_kg; omega
  have ne_g93_g121 : g93 ≠ g121 := by have := (own_glt hO95); have := (Ne.symm ne_kg_g93); omega
  have ta_hi113_g121 : hi113 ≤ g121 ∨ g121 < lo113 := by have := hle113; omega
  replace hKT : KidsAre (fun b => w.heap.size ≤ b ∧ b ≠ b2 ∧ b ≠ bt ∧ b ≠ lg ∧ b ≠ kg ∧ b ≠ g93 ∧ b ≠ g121) w114 _ _ := hKT.keepB (fun b hb hlt => by omega) (fun _ _ _ => rfl)
  have ge_g121 : w.heap.size ≤ g121 := own_gle hO123
  have hH_g121 : H ≤ g121 := by have := hP.le; have := hP.lt; omega
  replace hB2 := hB2.chg hx124 (nmc ne_b2_kg nm0)
  replace hB100 := hB100.chg hx124 (nmc ne_bt_kg nm0)
  replace hB88 := hB88.chg hx124 (nmc (Ne.symm ne_kg_b87) nm0)
  replace hB116 := hB116.chg hx124 (nmc (Ne.symm ne_kg_b115) nm0)
  replace hP := hP.chg hx124 (allc ⟨hH_kg, ne_p_kg⟩ all0)
  replace hKT := hKT.chg hx124 (fun b hb hlt => (nmc (by omega) nm0))
  replace hO95 := own_gchg hO95 hx124 (nmc (Ne.symm ne_kg_g93) nm0)
  replace hT111 := hT111.chg hx124 (fun b hb _ => (nmc (by omega) nm0))
  replace hle113 := nlt hle113 hx124.size
  replace hE := hE.trans hx124 (allc (.inr ge_kg) all0)
  clear hat125 hlt126
  clear hS0
  have hS0 := hB100.same s_hB100 3
  refine ⟨.inl hS0, ?_⟩
  refine dV 6 rfl rfl hsel (by kernel_rfl) hf rfl (.inl hS0) (fun x => ex_fa (k := 3) (r := 3) hf rfl (by kernel_rfl) rfl) fun a hf => ?_
  obtain ⟨w127, he, hB128, hx129⟩ := ef_store (P := Try.prog) (t := 24) (x := (.tmp 66)) (y := (.tmp 65)) hf rfl rfl (by kernel_rfl) rfl hB100 (Nat.le_of_ble_eq_true rfl) 0
  refine dl_s 7 (by kernel_rfl) rfl hf rfl rfl he fun a hf => ?_
  replace hB2 := hB2.chg hx129 (nmc ne_b2_bt nm0)
  replace hB88 := hB88.chg hx129 (nmc (Ne.symm ne_bt_b87) nm0)
  replace hB116 := hB116.chg hx129 (nmc (Ne.symm ne_bt_b115) nm0)
  replace hP := hP.chg hx129 (allc ⟨hH_bt, ne_p_bt⟩ all0)
  replace hKT := hKT.chg hx129 (fun b hb hlt => (nmc (by omega) nm0))
  replace hO95 := own_gchg hO95 hx129 (nmc (Ne.symm ne_bt_g93) nm0)
  replace hT111 := hT111.chg hx129 (fun b hb _ => (nmc (by omega) nm0))
  replace hle113 := nlt hle113 hx129.size
  replace hO123 := own_gchg hO123 hx129 (nmc (Ne.symm ne_bt_g121) nm0)
  replace hE := hE.trans hx129 (allc (.inr ge_bt) all0)
  clear hB100
  refine ⟨.inr (by kernel_rfl), ?_⟩
  refine dl_done (by kernel_rfl) ?_
  clear hS0 hsel
  have hR' := (commaF_step hcm (if_pos ⟨hmost, hbg⟩)).symm.trans hR
  have e1 : ([(pWord wDef s).1, (pName 1 1 (pWord wDef s).2).2.1, (pWord [40] (pName 1 1 (pWord wDef s).2).2.2).1, [], [], []] ++ cs).length + 1 = ([(pWord wDef s).1, (pName 1 1 (pWord wDef s).2).2.1, (pWord [40] (pName 1 1 (pWord wDef s).2).2.2).1, [], [], []] ++ (cs ++ [(pNext s').lead])).length := by simp
  have e2 : ks.length + 1 = (ks ++ [((paramT n) (pFail 3 (pTake s'))).1]).length := by simp
  have e3 : List.map strV ([(pWord wDef s).1, (pName 1 1 (pWord wDef s).2).2.1, (pWord [40] (pName 1 1 (pWord wDef s).2).2.2).1, [], [], []] ++ cs) ++ [strV (pNext s').lead] = List.map strV ([(pWord wDef s).1, (pName 1 1 (pWord wDef s).2).2.1, (pWord [40] (pName 1 1 (pWord wDef s).2).2.2).1, [], [], []] ++ (cs ++ [(pNext s').lead])) := by simp
  have hBT2 : Blk w127 bt 26 [.int .i64 2, strV ((pName 1 1 (pWord wDef s).2).1), .slice (some ⟨g93, 0, none⟩) (([(pWord wDef s).1, (pName 1 1 (pWord wDef s).2).2.1, (pWord [40] (pName 1 1 (pWord wDef s).2).2.2).1, [], [], []] ++ cs).length + 1) cap94, .slice (some ⟨g121, 0, none⟩) (ks.length + 1) cap122] := hB128
  rw [e1, e2] at hBT2
  have hOL2 := hO95
  have hOK2 := hO123
  have hOL3 : w127.ownsRow w.heap.size 9 1 (.slice (some ⟨g93, 0, none⟩) (([(pWord wDef s).1, (pName 1 1 (pWord wDef s).2).2.1, (pWord [40] (pName 1 1 (pWord wDef s).2).2.2).1, [], [], []] ++ cs).length + 1) cap94) (([(pWord wDef s).1, (pName 1 1 (pWord wDef s).2).2.1, (pWord [40] (pName 1 1 (pWord wDef s).2).2.2).1, [], [], []] ++ cs).length + 1) (List.map strV ([(pWord wDef s).1, (pName 1 1 (pWord wDef s).2).2.1, (pWord [40] (pName 1 1 (pWord wDef s).2).2.2).1, [], [], []] ++ cs) ++ [strV (pNext s').lead]) := by rw [hn']; exact hOL2
  rw [e1, e3] at hOL3
  rw [e2] at hOK2
  have hl3 : ((paramT n) (pFail 3 (pTake s'))).2.toks.length < s'.toks.length := by have := hl111; have := pFail_len 3 (pTake s'); omega
  subst eb2 ebt
  exact ⟨_, hl3, cs ++ [(pNext s').lead], ks ++ [((paramT n) (pFail 3 (pTake s'))).1], _, g93, _, g121, _, _, F', hf.pick ⟨rfl, rfl, rfl, trivial⟩, ⟨hP, hE, hB2, hBT2, hOL3, hOK2, KidsAre.snoc (hKT.keepB (fun b hb hlt => by omega) (fun _ _ _ => rfl)) (hT111.mono (fun b hb => by omega)), ge_b2, ge_bt, lt_p, ne_b2_bt, by omega, by omega, by omega, by omega, by omega⟩, rfl, by omega, hR', by omega, by rw [← e2]; omega, by simp; omega⟩
  intro hbg
  refine wp_skip <| hK102 _ _ ?_
  have s_hB100 := hB100
  refine dl_start (fun x => x.cell? ⟨bt, 3, none⟩ = w105.cell? ⟨bt, 3, none⟩) 7 8 rfl (by kernel_rfl) (by kernel_rfl) ?_
  intro w130 hx131 hsel
  replace hB2 := hB2.c0 hx131
  replace hB100 := hB100.c0 hx131
  replace hB88 := hB88.c0 hx131
  replace hP := hP.chg hx131 all0
  replace hOK := own_gchg hOK hx131 nm0
  replace hKT := hKT.chg hx131 (fun b hb hlt => nm0)
  replace hO95 := own_gchg hO95 hx131 nm0
  replace hE := hE.t0 hx131
  have hS0 := hB100.same s_hB100 3
  refine dV 0 rfl rfl hsel (by kernel_rfl) hf rfl (.inl hS0) (fun x => ex_fa (k := 3) (r := 3) hf rfl (by kernel_rfl) rfl) fun a hf => dL 1 rfl rfl hsel (by kernel_rfl) hf rfl hS0 (fun x hS => ex_load hf rfl (by kernel_rfl) (hS.trans ((s_hB100.cell 3).trans rfl))) fun a hf => dM 2 rfl rfl hsel (by kernel_rfl) hf rfl hS0 rfl fun a hf => ?_
  have plt132 := hP.lt
  refine dl_c 3 (by kernel_rfl) rfl hf rfl rfl rfl (by kernel_rfl) (pParamL (n := n) (s := (pTake s')) hP (by have := pFail_len 3 (pTake s'); omega)) ?_
  rintro _ w133 ⟨c132_0, c132_1, c132_2, c132_3, rfl, hT132, hP, hx132, hl132⟩
  refine ⟨_, rfl, fun a hf => ?_⟩
  obtain ⟨lo134, elo134⟩ : ∃ x, x = w130.heap.size := ⟨_, rfl⟩
  obtain ⟨hi134, ehi134⟩ : ∃ x, x = w133.heap.size := ⟨_, rfl⟩
  replace hT132 := hT132.within elo134 ehi134
  have hle134 : hi134 ≤ w133.heap.size := Nat.le_of_eq ehi134
  have ge_lo134 : w.heap.size ≤ lo134 := elo134 ▸ hE.size
  have tb_lo134_b2 : b2 < lo134 := elo134 ▸ hB2.lt
  have tb_lo134_bt : bt < lo134 := elo134 ▸ hB100.lt
  have tb_lo134_b87 : b87 < lo134 := elo134 ▸ hB88.lt
  have tb_lo134_p : p < lo134 := elo134 ▸ plt132
  have tb_lo134_kg : kg < lo134 := elo134 ▸ (own_glt hOK)
  have tb_lo134_g93 : g93 < lo134 := elo134 ▸ (own_glt hO95)
  clear elo134 ehi134
  clear plt132
  have on_hT132 := hT132.one
  replace hB2 := hB2.chg hx132 (nmc (Ne.symm ne_p_b2) nm0)
  replace hB100 := hB100.chg hx132 (nmc (Ne.symm ne_p_bt) nm0)
  replace hB88 := hB88.chg hx132 (nmc (Ne.symm ne_p_b87) nm0)
  replace hOK := own_gchg hOK hx132 (nmc (Ne.symm ne_p_kg) nm0)
  replace hKT := hKT.chg hx132 (fun b hb hlt => (nmc (by omega) nm0))
  replace hO95 := own_gchg hO95 hx132 (nmc (Ne.symm ne_p_g93) nm0)
  replace hE := hE.trans hx132 (allc (.inl (by simp)) all0)
  clear hS0
  have hS0 := hB100.same s_hB100 3
  refine ⟨.inl hS0, ?_⟩
  obtain ⟨w135, b136, he, hB137, hx138, eb139, lb140⟩ := ef_bslice (P := Try.prog) (ps := [(0, (.tmp 63))]) (m := 1) (sz := 4) (z := zT) hf rfl Try.underlying24 (by kernel_rfl) (by kernel_rfl) rfl rfl (by kernel_rfl) rfl w133 24
  refine dl_e 4 (by kernel_rfl) rfl hf rfl rfl he fun a hf => ?_
  have ne_b2_b136 : b2 ≠ b136 := ne_new hB2.lt eb139
  have ne_bt_b136 : bt ≠ b136 := ne_new hB100.lt eb139
  have ne_b87_b136 : b87 ≠ b136 := ne_new hB88.lt eb139
  have ne_p_b136 : p ≠ b136 := ne_new hP.lt eb139
  have ne_kg_b136 : kg ≠ b136 := ne_new (own_glt hOK) eb139
  have ne_g93_b136 : g93 ≠ b136 := ne_new (own_glt hO95) eb139
  have ta_hi134_b136 : hi134 ≤ b136 := eb139 ▸ hle134
  have ge_b136 := ge_new hE eb139
  have hH_b136 : H ≤ b136 := by have := hP.le; have := hP.lt; omega
  replace hB2 := hB2.c0 hx138
  replace hB100 := hB100.c0 hx138
  replace hB88 := hB88.c0 hx138
  replace hP := hP.chg hx138 all0
  replace hOK := own_gchg hOK hx138 nm0
  replace hKT := hKT.chg hx138 (fun b hb hlt => nm0)
  replace hO95 := own_gchg hO95 hx138 nm0
  replace hT132 := hT132.chg hx138 (fun b hb _ => nm0)
  replace hle134 := nlt hle134 hx138.size
  replace hE := hE.t0 hx138
  clear eb139 lb140
  clear hS0
  have hS0 := hB100.same s_hB100 3
  refine ⟨.inl hS0, ?_⟩
  obtain ⟨g142, cap143, w141, he, hO144, hx145, hat146, hlt147⟩ := ef_append1 (P := Try.prog) (x := (.tmp 61)) (y := (.tmp 64)) (z := .agg zA) (sz := 4) (by_ := 72) hf rfl rfl Try.underlying24 (by kernel_rfl) rfl rfl hOK hB137 rfl on_hT132 rfl (by simp only [maxLen]; omega) (by omega) (hE.size) 24
  refine dl_e 5 (by kernel_rfl) rfl hf rfl rfl he fun a hf => ?_
  have ne_b2_g142 : b2 ≠ g142 := by have := hB2.lt; have := ne_b2_kg; omega
  have ne_bt_g142 : bt ≠ g142 := by have := hB100.lt; have := ne_bt_kg; omega
  have ne_b87_g142 : b87 ≠ g142 := by have := hB88.lt; have := (Ne.symm ne_kg_b87); omega
  have ne_b136_g142 : b136 ≠ g142 := by have := hB137.lt; have := (Ne.symm ne_kg_b136); omega
  have ne_p_g142 : p ≠ g142 := by have := hP.lt; have := ne_p_kg; omega
  have ne_g93_g142 : g93 ≠ g142 := by have := (own_glt hO95); have := (Ne.symm ne_kg_g93); omega
  have ta_hi134_g142 : hi134 ≤ g142 ∨ g142 < lo134 := by have := hle134; omega
  replace hKT : KidsAre (fun b => w.heap.size ≤ b ∧ b ≠ b2 ∧ b ≠ bt ∧ b ≠ lg ∧ b ≠ kg ∧ b ≠ g93 ∧ b ≠ g142) w135 _ _ := hKT.keepB (fun b hb hlt => by omega) (fun _ _ _ => rfl)
  have ge_g142 : w.heap.size ≤ g142 := own_gle hO144
  have hH_g142 : H ≤ g142 := by have := hP.le; have := hP.lt; omega
  replace hB2 := hB2.chg hx145 (nmc ne_b2_kg nm0)
  replace hB100 := hB100.chg hx145 (nmc ne_bt_kg nm0)
  replace hB88 := hB88.chg hx145 (nmc (Ne.symm ne_kg_b87) nm0)
  replace hB137 := hB137.chg hx145 (nmc (Ne.symm ne_kg_b136) nm0)
  replace hP := hP.chg hx145 (allc ⟨hH_kg, ne_p_kg⟩ all0)
  replace hKT := hKT.chg hx145 (fun b hb hlt => (nmc (by omega) nm0))
  replace hO95 := own_gchg hO95 hx145 (nmc (Ne.symm ne_kg_g93) nm0)
  replace hT132 := hT132.chg hx145 (fun b hb _ => (nmc (by omega) nm0))
  replace hle134 := nlt hle134 hx145.size
  replace hE := hE.trans hx145 (allc (.inr ge_kg) all0)
  clear hat146 hlt147
  clear hS0
  have hS0 := hB100.same s_hB100 3
  refine ⟨.inl hS0, ?_⟩
  refine dV 6 rfl rfl hsel (by kernel_rfl) hf rfl (.inl hS0) (fun x => ex_fa (k := 3) (r := 3) hf rfl (by kernel_rfl) rfl) fun a hf => ?_
  obtain ⟨w148, he, hB149, hx150⟩ := ef_store (P := Try.prog) (t := 24) (x := (.tmp 66)) (y := (.tmp 65)) hf rfl rfl (by kernel_rfl) rfl hB100 (Nat.le_of_ble_eq_true rfl) 0
  refine dl_s 7 (by kernel_rfl) rfl hf rfl rfl he fun a hf => ?_
  replace hB2 := hB2.chg hx150 (nmc ne_b2_bt nm0)
  replace hB88 := hB88.chg hx150 (nmc (Ne.symm ne_bt_b87) nm0)
  replace hB137 := hB137.chg hx150 (nmc (Ne.symm ne_bt_b136) nm0)
  replace hP := hP.chg hx150 (allc ⟨hH_bt, ne_p_bt⟩ all0)
  replace hKT := hKT.chg hx150 (fun b hb hlt => (nmc (by omega) nm0))
  replace hO95 := own_gchg hO95 hx150 (nmc (Ne.symm ne_bt_g93) nm0)
  replace hT132 := hT132.chg hx150 (fun b hb _ => (nmc (by omega) nm0))
  replace hle134 := nlt hle134 hx150.size
  replace hO144 := own_gchg hO144 hx150 (nmc (Ne.symm ne_bt_g142) nm0)
  replace hE := hE.trans hx150 (allc (.inr ge_bt) all0)
  clear hB100
  refine ⟨.inr (by kernel_rfl), ?_⟩
  refine dl_done (by kernel_rfl) ?_
  clear hS0 hsel
  have hR' := (commaF_step hcm (if_neg (fun h => Bool.false_ne_true (hbg.symm.trans h.2)))).symm.trans hR
  have e1 : ([(pWord wDef s).1, (pName 1 1 (pWord wDef s).2).2.1, (pWord [40] (pName 1 1 (pWord wDef s).2).2.2).1, [], [], []] ++ cs).length + 1 = ([(pWord wDef s).1, (pName 1 1 (pWord wDef s).2).2.1, (pWord [40] (pName 1 1 (pWord wDef s).2).2.2).1, [], [], []] ++ (cs ++ [(pNext s').lead])).length := by simp
  have e2 : ks.length + 1 = (ks ++ [((paramT n) (pTake s')).1]).length := by simp
  have e3 : List.map strV ([(pWord wDef s).1, (pName 1 1 (pWord wDef s).2).2.1, (pWord [40] (pName 1 1 (pWord wDef s).2).2.2).1, [], [], []] ++ cs) ++ [strV (pNext s').lead] = List.map strV ([(pWord wDef s).1, (pName 1 1 (pWord wDef s).2).2.1, (pWord [40] (pName 1 1 (pWord wDef s).2).2.2).1, [], [], []] ++ (cs ++ [(pNext s').lead])) := by simp
  have hBT2 : Blk w148 bt 26 [.int .i64 2, strV ((pName 1 1 (pWord wDef s).2).1), .slice (some ⟨g93, 0, none⟩) (([(pWord wDef s).1, (pName 1 1 (pWord wDef s).2).2.1, (pWord [40] (pName 1 1 (pWord wDef s).2).2.2).1, [], [], []] ++ cs).length + 1) cap94, .slice (some ⟨g142, 0, none⟩) (ks.length + 1) cap143] := hB149
  rw [e1, e2] at hBT2
  have hOL2 := hO95
  have hOK2 := hO144
  have hOL3 : w148.ownsRow w.heap.size 9 1 (.slice (some ⟨g93, 0, none⟩) (([(pWord wDef s).1, (pName 1 1 (pWord wDef s).2).2.1, (pWord [40] (pName 1 1 (pWord wDef s).2).2.2).1, [], [], []] ++ cs).length + 1) cap94) (([(pWord wDef s).1, (pName 1 1 (pWord wDef s).2).2.1, (pWord [40] (pName 1 1 (pWord wDef s).2).2.2).1, [], [], []] ++ cs).length + 1) (List.map strV ([(pWord wDef s).1, (pName 1 1 (pWord wDef s).2).2.1, (pWord [40] (pName 1 1 (pWord wDef s).2).2.2).1, [], [], []] ++ cs) ++ [strV (pNext s').lead]) := by rw [hn']; exact hOL2
  rw [e1, e3] at hOL3
  rw [e2] at hOK2
  have hl3 : ((paramT n) (pTake s')).2.toks.length < s'.toks.length := by have := hl132; have := pFail_len 3 (pTake s'); omega
  subst eb2 ebt
  exact ⟨_, hl3, cs ++ [(pNext s').lead], ks ++ [((paramT n) (pTake s')).1], _, g93, _, g142, _, _, F', hf.pick ⟨rfl, rfl, rfl, trivial⟩, ⟨hP, hE, hB2, hBT2, hOL3, hOK2, KidsAre.snoc (hKT.keepB (fun b hb hlt => by omega) (fun _ _ _ => rfl)) (hT132.mono (fun b hb => by omega)), ge_b2, ge_bt, lt_p, ne_b2_bt, by omega, by omega, by omega, by omega, by omega⟩, rfl, by omega, hR', by omega, by rw [← e2]; omega, by simp; omega⟩
  refine wS fun K151 hK151 => wS fun K152 hK152 => wR <| sM hf rfl rfl fun a hf => st_c hf rfl rfl rfl (by kernel_rfl) (pNextL hP) ?_
  rintro _ w154 ⟨rfl, hP, hx153⟩
  refine ⟨_, rfl, fun a hf => ?_⟩
  replace hB2 := hB2.c0 hx153
  replace hBT := hBT.c0 hx153
  replace hOL := own_gchg hOL hx153 nm0
  replace hOK := own_gchg hOK hx153 nm0
  replace hKT := hKT.chg hx153 (fun b hb hlt => nm0)
  replace hE := hE.t0 hx153
  refine sV hf rfl (ex_fd (k := 2) hf rfl (by kernel_rfl) rfl) fun a hf => sV hf rfl (ex_eqS (c := true) hf rfl rfl (beqT hcm)) fun a hf => sN <| hK152 _ _ <| cT hf rfl <| wp_skip <| hK151 _ _ <| wp_block <| wS fun K155 hK155 => ?_
  have s_hBT := hBT
  refine dl_start (fun x => x.cell? ⟨bt, 2, none⟩ = w154.cell? ⟨bt, 2, none⟩) 8 9 rfl (by kernel_rfl) (by kernel_rfl) ?_
  intro w156 hx157 hsel
  replace hB2 := hB2.c0 hx157
  replace hBT := hBT.c0 hx157
  replace hP := hP.chg hx157 all0
  replace hOL := own_gchg hOL hx157 nm0
  replace hOK := own_gchg hOK hx157 nm0
  replace hKT := hKT.chg hx157 (fun b hb hlt => nm0)
  replace hE := hE.t0 hx157
  have hS0 := hBT.same s_hBT 2
  refine dV 0 rfl rfl hsel (by kernel_rfl) hf rfl (.inl hS0) (fun x => ex_fa (k := 2) (r := 2) hf rfl (by kernel_rfl) rfl) fun a hf => dL 1 rfl rfl hsel (by kernel_rfl) hf rfl hS0 (fun x hS => ex_load hf rfl (by kernel_rfl) (hS.trans ((s_hBT.cell 2).trans rfl))) fun a hf => dM 2 rfl rfl hsel (by kernel_rfl) hf rfl hS0 rfl fun a hf => dl_c 3 (by kernel_rfl) rfl hf rfl rfl rfl (by kernel_rfl) (pTakeL hP hs') ?_
  rintro _ w159 ⟨rfl, hP, hx158⟩
  refine ⟨_, rfl, fun a hf => ?_⟩
  replace hB2 := hB2.chg hx158 (nmc (Ne.symm ne_p_b2) nm0)
  replace hBT := hBT.chg hx158 (nmc (Ne.symm ne_p_bt) nm0)
  replace hOL := own_gchg hOL hx158 (nmc (Ne.symm ne_p_lg) nm0)
  replace hOK := own_gchg hOK hx158 (nmc (Ne.symm ne_p_kg) nm0)
  replace hKT := hKT.chg hx158 (fun b hb hlt => (nmc (by omega) nm0))
  replace hE := hE.trans hx158 (allc (.inl (by simp)) all0)
  clear hS0
  have hS0 := hBT.same s_hBT 2
  refine ⟨.inl hS0, ?_⟩
  refine dV 4 rfl rfl hsel (by kernel_rfl) hf rfl (.inl hS0) (fun x => ex_fd (k := 1) hf rfl (by kernel_rfl) rfl) fun a hf => ?_
  obtain ⟨w160, b161, he, hB162, hx163, eb164, lb165⟩ := ef_bslice (P := Try.prog) (ps := [(0, (.tmp 44))]) (m := 1) (sz := 1) (z := [.string ⟨([] : List UInt8).toArray⟩]) hf rfl Try.underlying23 (by kernel_rfl) (by kernel_rfl) rfl rfl (by kernel_rfl) rfl w159 23
  refine dl_e 5 (by kernel_rfl) rfl hf rfl rfl he fun a hf => ?_
  have ne_b2_b161 : b2 ≠ b161 := ne_new hB2.lt eb164
  have ne_bt_b161 : bt ≠ b161 := ne_new hBT.lt eb164
  have ne_p_b161 : p ≠ b161 := ne_new hP.lt eb164
  have ne_lg_b161 : lg ≠ b161 := ne_new (own_glt hOL) eb164
  have ne_kg_b161 : kg ≠ b161 := ne_new (own_glt hOK) eb164
  have ge_b161 := ge_new hE eb164
  have hH_b161 : H ≤ b161 := by have := hP.le; have := hP.lt; omega
  replace hB2 := hB2.c0 hx163
  replace hBT := hBT.c0 hx163
  replace hP := hP.chg hx163 all0
  replace hOL := own_gchg hOL hx163 nm0
  replace hOK := own_gchg hOK hx163 nm0
  replace hKT := hKT.chg hx163 (fun b hb hlt => nm0)
  replace hE := hE.t0 hx163
  clear eb164 lb165
  clear hS0
  have hS0 := hBT.same s_hBT 2
  refine ⟨.inl hS0, ?_⟩
  obtain ⟨g167, cap168, w166, he, hO169, hx170, hat171, hlt172⟩ := ef_append1 (P := Try.prog) (x := (.tmp 41)) (y := (.tmp 45)) (z := .string ⟨([] : List UInt8).toArray⟩) (sz := 1) (by_ := 16) hf rfl rfl Try.underlying23 (by kernel_rfl) rfl rfl hOL hB162 rfl rfl rfl (by simp only [maxLen, List.length_append, List.length_cons, List.length_nil]; omega) (by simp only [List.length_append, List.length_cons, List.length_nil]; omega) (hE.size) 23
  refine dl_e 6 (by kernel_rfl) rfl hf rfl rfl he fun a hf => ?_
  have ne_b2_g167 : b2 ≠ g167 := by have := hB2.lt; have := ne_b2_lg; omega
  have ne_bt_g167 : bt ≠ g167 := by have := hBT.lt; have := ne_bt_lg; omega
  have ne_b161_g167 : b161 ≠ g167 := by have := hB162.lt; have := (Ne.symm ne_lg_b161); omega
  have ne_p_g167 : p ≠ g167 := by have := hP.lt; have := ne_p_lg; omega
  have ne_kg_g167 : kg ≠ g167 := by have := (own_glt hOK); have := (Ne.symm ne_lg_kg); omega
  replace hKT : KidsAre (fun b => w.heap.size ≤ b ∧ b ≠ b2 ∧ b ≠ bt ∧ b ≠ lg ∧ b ≠ kg ∧ b ≠ g167) w160 _ _ := hKT.keepB (fun b hb hlt => by omega) (fun _ _ _ => rfl)
  have ge_g167 : w.heap.size ≤ g167 := own_gle hO169
  have hH_g167 : H ≤ g167 := by have := hP.le; have := hP.lt; omega
  replace hB2 := hB2.chg hx170 (nmc ne_b2_lg nm0)
  replace hBT := hBT.chg hx170 (nmc ne_bt_lg nm0)
  replace hB162 := hB162.chg hx170 (nmc (Ne.symm ne_lg_b161) nm0)
  replace hP := hP.chg hx170 (allc ⟨hH_lg, ne_p_lg⟩ all0)
  replace hOK := own_gchg hOK hx170 (nmc (Ne.symm ne_lg_kg) nm0)
  replace hKT := hKT.chg hx170 (fun b hb hlt => (nmc (by omega) nm0))
  replace hE := hE.trans hx170 (allc (.inr ge_lg) all0)
  clear hat171 hlt172
  clear hS0
  have hS0 := hBT.same s_hBT 2
  refine ⟨.inl hS0, ?_⟩
  refine dV 7 rfl rfl hsel (by kernel_rfl) hf rfl (.inl hS0) (fun x => ex_fa (k := 2) (r := 2) hf rfl (by kernel_rfl) rfl) fun a hf => ?_
  obtain ⟨w173, he, hB174, hx175⟩ := ef_store (P := Try.prog) (t := 23) (x := (.tmp 47)) (y := (.tmp 46)) hf rfl rfl (by kernel_rfl) rfl hBT (Nat.le_of_ble_eq_true rfl) 0
  refine dl_s 8 (by kernel_rfl) rfl hf rfl rfl he fun a hf => ?_
  replace hB2 := hB2.chg hx175 (nmc ne_b2_bt nm0)
  replace hB162 := hB162.chg hx175 (nmc (Ne.symm ne_bt_b161) nm0)
  replace hP := hP.chg hx175 (allc ⟨hH_bt, ne_p_bt⟩ all0)
  replace hOK := own_gchg hOK hx175 (nmc (Ne.symm ne_bt_kg) nm0)
  replace hKT := hKT.chg hx175 (fun b hb hlt => (nmc (by omega) nm0))
  replace hO169 := own_gchg hO169 hx175 (nmc (Ne.symm ne_bt_g167) nm0)
  replace hE := hE.trans hx175 (allc (.inr ge_bt) all0)
  clear hBT
  refine ⟨.inr (by kernel_rfl), ?_⟩
  refine dl_done (by kernel_rfl) ?_
  clear hS0 hsel
  refine hK155 _ _ <| wS fun K176 hK176 => wS fun K177 hK177 => wR <| sV hf rfl (ex_fa (k := 3) (r := 3) hf rfl (by kernel_rfl) rfl) fun a hf => sV hf rfl (ex_loadB hf rfl (by kernel_rfl) hB174 rfl) fun a hf => sV hf rfl (ex_len hf Try.underlying24 rfl) fun a hf => sV hf rfl (ex_eqI (c := false) hf rfl rfl (iEqF (by omega))) fun a hf => sM hf rfl rfl fun a hf => st_k hf rfl rfl fun a hf => st_k hf rfl rfl fun a hf => st_k hf rfl rfl fun a hf => st_k hf rfl rfl fun a hf => sV hf rfl (ex_pickF hf rfl rfl) fun a hf => sN <| hK177 _ _ <| cF hf rfl <| wp_skip <| hK176 _ _ ?_
  have s_hB174 := hB174
  refine dl_start (fun x => x.cell? ⟨bt, 3, none⟩ = w173.cell? ⟨bt, 3, none⟩) 7 8 rfl (by kernel_rfl) (by kernel_rfl) ?_
  intro w178 hx179 hsel
  replace hB2 := hB2.c0 hx179
  replace hB174 := hB174.c0 hx179
  replace hB162 := hB162.c0 hx179
  replace hP := hP.chg hx179 all0
  replace hOK := own_gchg hOK hx179 nm0
  replace hKT := hKT.chg hx179 (fun b hb hlt => nm0)
  replace hO169 := own_gchg hO169 hx179 nm0
  replace hE := hE.t0 hx179
  have hS0 := hB174.same s_hB174 3
  refine dV 0 rfl rfl hsel (by kernel_rfl) hf rfl (.inl hS0) (fun x => ex_fa (k := 3) (r := 3) hf rfl (by kernel_rfl) rfl) fun a hf => dL 1 rfl rfl hsel (by kernel_rfl) hf rfl hS0 (fun x hS => ex_load hf rfl (by kernel_rfl) (hS.trans ((s_hB174.cell 3).trans rfl))) fun a hf => dM 2 rfl rfl hsel (by kernel_rfl) hf rfl hS0 rfl fun a hf => ?_
  have plt180 := hP.lt
  refine dl_c 3 (by kernel_rfl) rfl hf rfl rfl rfl (by kernel_rfl) (pParamL (n := n) (s := (pTake s')) hP (by have := pFail_len 3 (pTake s'); omega)) ?_
  rintro _ w181 ⟨c180_0, c180_1, c180_2, c180_3, rfl, hT180, hP, hx180, hl180⟩
  refine ⟨_, rfl, fun a hf => ?_⟩
  obtain ⟨lo182, elo182⟩ : ∃ x, x = w178.heap.size := ⟨_, rfl⟩
  obtain ⟨hi182, ehi182⟩ : ∃ x, x = w181.heap.size := ⟨_, rfl⟩
  replace hT180 := hT180.within elo182 ehi182
  have hle182 : hi182 ≤ w181.heap.size := Nat.le_of_eq ehi182
  have ge_lo182 : w.heap.size ≤ lo182 := elo182 ▸ hE.size
  have tb_lo182_b2 : b2 < lo182 := elo182 ▸ hB2.lt
  have tb_lo182_bt : bt < lo182 := elo182 ▸ hB174.lt
  have tb_lo182_b161 : b161 < lo182 := elo182 ▸ hB162.lt
  have tb_lo182_p : p < lo182 := elo182 ▸ plt180
  have tb_lo182_kg : kg < lo182 := elo182 ▸ (own_glt hOK)
  have tb_lo182_g167 : g167 < lo182 := elo182 ▸ (own_glt hO169)
  clear elo182 ehi182
  clear plt180
  have on_hT180 := hT180.one
  replace hB2 := hB2.chg hx180 (nmc (Ne.symm ne_p_b2) nm0)
  replace hB174 := hB174.chg hx180 (nmc (Ne.symm ne_p_bt) nm0)
  replace hB162 := hB162.chg hx180 (nmc (Ne.symm ne_p_b161) nm0)
  replace hOK := own_gchg hOK hx180 (nmc (Ne.symm ne_p_kg) nm0)
  replace hKT := hKT.chg hx180 (fun b hb hlt => (nmc (by omega) nm0))
  replace hO169 := own_gchg hO169 hx180 (nmc (Ne.symm ne_p_g167) nm0)
  replace hE := hE.trans hx180 (allc (.inl (by simp)) all0)
  clear hS0
  have hS0 := hB174.same s_hB174 3
  refine ⟨.inl hS0, ?_⟩
  obtain ⟨w183, b184, he, hB185, hx186, eb187, lb188⟩ := ef_bslice (P := Try.prog) (ps := [(0, (.tmp 63))]) (m := 1) (sz := 4) (z := zT) hf rfl Try.underlying24 (by kernel_rfl) (by kernel_rfl) rfl rfl (by kernel_rfl) rfl w181 24
  refine dl_e 4 (by kernel_rfl) rfl hf rfl rfl he fun a hf => ?_
  have ne_b2_b184 : b2 ≠ b184 := ne_new hB2.lt eb187
  have ne_bt_b184 : bt ≠ b184 := ne_new hB174.lt eb187
  have ne_b161_b184 : b161 ≠ b184 := ne_new hB162.lt eb187
  have ne_p_b184 : p ≠ b184 := ne_new hP.lt eb187
  have ne_kg_b184 : kg ≠ b184 := ne_new (own_glt hOK) eb187
  have ne_g167_b184 : g167 ≠ b184 := ne_new (own_glt hO169) eb187
  have ta_hi182_b184 : hi182 ≤ b184 := eb187 ▸ hle182
  have ge_b184 := ge_new hE eb187
  have hH_b184 : H ≤ b184 := by have := hP.le; have := hP.lt; omega
  replace hB2 := hB2.c0 hx186
  replace hB174 := hB174.c0 hx186
  replace hB162 := hB162.c0 hx186
  replace hP := hP.chg hx186 all0
  replace hOK := own_gchg hOK hx186 nm0
  replace hKT := hKT.chg hx186 (fun b hb hlt => nm0)
  replace hO169 := own_gchg hO169 hx186 nm0
  replace hT180 := hT180.chg hx186 (fun b hb _ => nm0)
  replace hle182 := nlt hle182 hx186.size
  replace hE := hE.t0 hx186
  clear eb187 lb188
  clear hS0
  have hS0 := hB174.same s_hB174 3
  refine ⟨.inl hS0, ?_⟩
  obtain ⟨g190, cap191, w189, he, hO192, hx193, hat194, hlt195⟩ := ef_append1 (P := Try.prog) (x := (.tmp 61)) (y := (.tmp 64)) (z := .agg zA) (sz := 4) (by_ := 72) hf rfl rfl Try.underlying24 (by kernel_rfl) rfl rfl hOK hB185 rfl on_hT180 rfl (by simp only [maxLen]; omega) (by omega) (hE.size) 24
  refine dl_e 5 (by kernel_rfl) rfl hf rfl rfl he fun a hf => ?_
  have ne_b2_g190 : b2 ≠ g190 := by have := hB2.lt; have := ne_b2_kg; omega
  have ne_bt_g190 : bt ≠ g190 := by have := hB174.lt; have := ne_bt_kg; omega
  have ne_b161_g190 : b161 ≠ g190 := by have := hB162.lt; have := (Ne.symm ne_kg_b161); omega
  have ne_b184_g190 : b184 ≠ g190 := by have := hB185.lt; have := (Ne.symm ne_kg_b184); omega
  have ne_p_g190 : p ≠ g190 := by have := hP.lt; have := ne_p_kg; omega
  have ne_g167_g190 : g167 ≠ g190 := by have := (own_glt hO169); have := (Ne.symm ne_kg_g167); omega
  have ta_hi182_g190 : hi182 ≤ g190 ∨ g190 < lo182 := by have := hle182; omega
  replace hKT : KidsAre (fun b => w.heap.size ≤ b ∧ b ≠ b2 ∧ b ≠ bt ∧ b ≠ lg ∧ b ≠ kg ∧ b ≠ g167 ∧ b ≠ g190) w183 _ _ := hKT.keepB (fun b hb hlt => by omega) (fun _ _ _ => rfl)
  have ge_g190 : w.heap.size ≤ g190 := own_gle hO192
  have hH_g190 : H ≤ g190 := by have := hP.le; have := hP.lt; omega
  replace hB2 := hB2.chg hx193 (nmc ne_b2_kg nm0)
  replace hB174 := hB174.chg hx193 (nmc ne_bt_kg nm0)
  replace hB162 := hB162.chg hx193 (nmc (Ne.symm ne_kg_b161) nm0)
  replace hB185 := hB185.chg hx193 (nmc (Ne.symm ne_kg_b184) nm0)
  replace hP := hP.chg hx193 (allc ⟨hH_kg, ne_p_kg⟩ all0)
  replace hKT := hKT.chg hx193 (fun b hb hlt => (nmc (by omega) nm0))
  replace hO169 := own_gchg hO169 hx193 (nmc (Ne.symm ne_kg_g167) nm0)
  replace hT180 := hT180.chg hx193 (fun b hb _ => (nmc (by omega) nm0))
  replace hle182 := nlt hle182 hx193.size
  replace hE := hE.trans hx193 (allc (.inr ge_kg) all0)
  clear hat194 hlt195
  clear hS0
  have hS0 := hB174.same s_hB174 3
  refine ⟨.inl hS0, ?_⟩
  refine dV 6 rfl rfl hsel (by kernel_rfl) hf rfl (.inl hS0) (fun x => ex_fa (k := 3) (r := 3) hf rfl (by kernel_rfl) rfl) fun a hf => ?_
  obtain ⟨w196, he, hB197, hx198⟩ := ef_store (P := Try.prog) (t := 24) (x := (.tmp 66)) (y := (.tmp 65)) hf rfl rfl (by kernel_rfl) rfl hB174 (Nat.le_of_ble_eq_true rfl) 0
  refine dl_s 7 (by kernel_rfl) rfl hf rfl rfl he fun a hf => ?_
  replace hB2 := hB2.chg hx198 (nmc ne_b2_bt nm0)
  replace hB162 := hB162.chg hx198 (nmc (Ne.symm ne_bt_b161) nm0)
  replace hB185 := hB185.chg hx198 (nmc (Ne.symm ne_bt_b184) nm0)
  replace hP := hP.chg hx198 (allc ⟨hH_bt, ne_p_bt⟩ all0)
  replace hKT := hKT.chg hx198 (fun b hb hlt => (nmc (by omega) nm0))
  replace hO169 := own_gchg hO169 hx198 (nmc (Ne.symm ne_bt_g167) nm0)
  replace hT180 := hT180.chg hx198 (fun b hb _ => (nmc (by omega) nm0))
  replace hle182 := nlt hle182 hx198.size
  replace hO192 := own_gchg hO192 hx198 (nmc (Ne.symm ne_bt_g190) nm0)
  replace hE := hE.trans hx198 (allc (.inr ge_bt) all0)
  clear hB174
  refine ⟨.inr (by kernel_rfl), ?_⟩
  refine dl_done (by kernel_rfl) ?_
  clear hS0 hsel
  have hR' := (commaF_step hcm (if_neg (fun h => hmost h.1))).symm.trans hR
  have e1 : ([(pWord wDef s).1, (pName 1 1 (pWord wDef s).2).2.1, (pWord [40] (pName 1 1 (pWord wDef s).2).2.2).1, [], [], []] ++ cs).length + 1 = ([(pWord wDef s).1, (pName 1 1 (pWord wDef s).2).2.1, (pWord [40] (pName 1 1 (pWord wDef s).2).2.2).1, [], [], []] ++ (cs ++ [(pNext s').lead])).length := by simp
  have e2 : ks.length + 1 = (ks ++ [((paramT n) (pTake s')).1]).length := by simp
  have e3 : List.map strV ([(pWord wDef s).1, (pName 1 1 (pWord wDef s).2).2.1, (pWord [40] (pName 1 1 (pWord wDef s).2).2.2).1, [], [], []] ++ cs) ++ [strV (pNext s').lead] = List.map strV ([(pWord wDef s).1, (pName 1 1 (pWord wDef s).2).2.1, (pWord [40] (pName 1 1 (pWord wDef s).2).2.2).1, [], [], []] ++ (cs ++ [(pNext s').lead])) := by simp
  have hBT2 : Blk w196 bt 26 [.int .i64 2, strV ((pName 1 1 (pWord wDef s).2).1), .slice (some ⟨g167, 0, none⟩) (([(pWord wDef s).1, (pName 1 1 (pWord wDef s).2).2.1, (pWord [40] (pName 1 1 (pWord wDef s).2).2.2).1, [], [], []] ++ cs).length + 1) cap168, .slice (some ⟨g190, 0, none⟩) (ks.length + 1) cap191] := hB197
  rw [e1, e2] at hBT2
  have hOL2 := hO169
  have hOK2 := hO192
  have hOL3 : w196.ownsRow w.heap.size 9 1 (.slice (some ⟨g167, 0, none⟩) (([(pWord wDef s).1, (pName 1 1 (pWord wDef s).2).2.1, (pWord [40] (pName 1 1 (pWord wDef s).2).2.2).1, [], [], []] ++ cs).length + 1) cap168) (([(pWord wDef s).1, (pName 1 1 (pWord wDef s).2).2.1, (pWord [40] (pName 1 1 (pWord wDef s).2).2.2).1, [], [], []] ++ cs).length + 1) (List.map strV ([(pWord wDef s).1, (pName 1 1 (pWord wDef s).2).2.1, (pWord [40] (pName 1 1 (pWord wDef s).2).2.2).1, [], [], []] ++ cs) ++ [strV (pNext s').lead]) := by rw [hn']; exact hOL2
  rw [e1, e3] at hOL3
  rw [e2] at hOK2
  have hl3 : ((paramT n) (pTake s')).2.toks.length < s'.toks.length := by have := hl180; have := pFail_len 3 (pTake s'); omega
  subst eb2 ebt
  exact ⟨_, hl3, cs ++ [(pNext s').lead], ks ++ [((paramT n) (pTake s')).1], _, g167, _, g190, _, _, F', hf.pick ⟨rfl, rfl, rfl, trivial⟩, ⟨hP, hE, hB2, hBT2, hOL3, hOK2, KidsAre.snoc (hKT.keepB (fun b hb hlt => by omega) (fun _ _ _ => rfl)) (hT180.mono (fun b hb => by omega)), ge_b2, ge_bt, lt_p, ne_b2_bt, by omega, by omega, by omega, by omega, by omega⟩, rfl, by omega, hR', by omega, by rw [← e2]; omega, by simp; omega⟩
  have hL := hLs
  have hRe := (commaF_stop hcm).symm.trans hR
  refine wS fun K199 hK199 => wS fun K200 hK200 => wR <| sM hf rfl rfl fun a hf => st_c hf rfl rfl rfl (by kernel_rfl) (pNextL hP) ?_
  rintro _ w202 ⟨rfl, hP, hx201⟩
  refine ⟨_, rfl, fun a hf => ?_⟩
  replace hB2 := hB2.c0 hx201
  replace hBT := hBT.c0 hx201
  replace hOL := own_gchg hOL hx201 nm0
  replace hOK := own_gchg hOK hx201 nm0
  replace hKT := hKT.chg hx201 (fun b hb hlt => nm0)
  replace hE := hE.t0 hx201
  refine sV hf rfl (ex_fd (k := 2) hf rfl (by kernel_rfl) rfl) fun a hf => sV hf rfl (ex_eqS (c := false) hf rfl rfl (beqF hcm)) fun a hf => sN <| hK200 _ _ <| cF hf rfl <| wp_exit ?_
  simp only [Exit.then, Exit.inBlock, ↓reduceIte, Nat.reduceEqDiff]
  refine hK51 _ _ <| wS fun K203 hK203 => ?_
  have s_hBT := hBT
  refine dl_start (fun x => x.cell? ⟨bt, 2, none⟩ = w202.cell? ⟨bt, 2, none⟩) 6 6 rfl (by kernel_rfl) (by kernel_rfl) ?_
  intro w204 hx205 hsel
  replace hB2 := hB2.c0 hx205
  replace hBT := hBT.c0 hx205
  replace hP := hP.chg hx205 all0
  replace hOL := own_gchg hOL hx205 nm0
  replace hOK := own_gchg hOK hx205 nm0
  replace hKT := hKT.chg hx205 (fun b hb hlt => nm0)
  replace hE := hE.t0 hx205
  have hS0 := hBT.same s_hBT 2
  refine dV 0 rfl rfl hsel (by kernel_rfl) hf rfl (.inl hS0) (fun x => ex_fa (k := 2) (r := 2) hf rfl (by kernel_rfl) rfl) fun a hf => dL 1 rfl rfl hsel (by kernel_rfl) hf rfl hS0 (fun x hS => ex_load hf rfl (by kernel_rfl) (hS.trans ((s_hBT.cell 2).trans rfl))) fun a hf => dM 2 rfl rfl hsel (by kernel_rfl) hf rfl hS0 rfl fun a hf => dl_c 3 (by kernel_rfl) rfl hf rfl rfl rfl (by kernel_rfl) (pWordL (x := [41]) hP (by decide)) ?_
  rintro _ w207 ⟨rfl, hP, hx206⟩
  refine ⟨_, rfl, fun a hf => ?_⟩
  replace hB2 := hB2.chg hx206 (nmc (Ne.symm ne_p_b2) nm0)
  replace hBT := hBT.chg hx206 (nmc (Ne.symm ne_p_bt) nm0)
  replace hOL := own_gchg hOL hx206 (nmc (Ne.symm ne_p_lg) nm0)
  replace hOK := own_gchg hOK hx206 (nmc (Ne.symm ne_p_kg) nm0)
  replace hKT := hKT.chg hx206 (fun b hb hlt => (nmc (by omega) nm0))
  replace hE := hE.trans hx206 (allc (.inl (by simp)) all0)
  replace hL := nlt (pWord_len [41] _) hL
  clear hS0
  have hS0 := hBT.same s_hBT 2
  refine ⟨.inl hS0, ?_⟩
  refine dV 4 rfl rfl hsel (by kernel_rfl) hf rfl (.inl hS0) (fun x => ex_index (sz := 1) (k := 3) (r := 3) hf Try.underlying23 (by kernel_rfl) rfl rfl rfl (by first | decide | simp) rfl) fun a hf => ?_
  obtain ⟨w208, he, hO209, hx210⟩ := ef_storeO (P := Try.prog) (t := 9) (x := (.tmp 71)) (y := (.tmp 70)) hf rfl rfl (by kernel_rfl) rfl hOL (by simp) 0
  refine dl_s 5 (by kernel_rfl) rfl hf rfl rfl he fun a hf => ?_
  replace hB2 := hB2.chg hx210 (nmc ne_b2_lg nm0)
  replace hBT := hBT.chg hx210 (nmc ne_bt_lg nm0)
  replace hP := hP.chg hx210 (allc ⟨hH_lg, ne_p_lg⟩ all0)
  replace hOK := own_gchg hOK hx210 (nmc (Ne.symm ne_lg_kg) nm0)
  replace hKT := hKT.chg hx210 (fun b hb hlt => (nmc (by omega) nm0))
  replace hE := hE.trans hx210 (allc (.inr ge_lg) all0)
  clear hOL
  clear hS0
  have hS0 := hBT.same s_hBT 2
  refine ⟨.inl hS0, ?_⟩
  refine dl_done (by kernel_rfl) ?_
  clear hS0 hsel
  refine hK203 _ _ <| wS fun K211 hK211 => ?_
  have s_hBT := hBT
  refine dl_start (fun x => x.cell? ⟨bt, 2, none⟩ = w208.cell? ⟨bt, 2, none⟩) 6 6 rfl (by kernel_rfl) (by kernel_rfl) ?_
  intro w212 hx213 hsel
  replace hB2 := hB2.c0 hx213
  replace hBT := hBT.c0 hx213
  replace hP := hP.chg hx213 all0
  replace hO209 := own_gchg hO209 hx213 nm0
  replace hOK := own_gchg hOK hx213 nm0
  replace hKT := hKT.chg hx213 (fun b hb hlt => nm0)
  replace hE := hE.t0 hx213
  have hS0 := hBT.same s_hBT 2
  refine dV 0 rfl rfl hsel (by kernel_rfl) hf rfl (.inl hS0) (fun x => ex_fa (k := 2) (r := 2) hf rfl (by kernel_rfl) rfl) fun a hf => dL 1 rfl rfl hsel (by kernel_rfl) hf rfl hS0 (fun x hS => ex_load hf rfl (by kernel_rfl) (hS.trans ((s_hBT.cell 2).trans rfl))) fun a hf => dM 2 rfl rfl hsel (by kernel_rfl) hf rfl hS0 rfl fun a hf => dl_c 3 (by kernel_rfl) rfl hf rfl rfl rfl (by kernel_rfl) (pWordL (x := [58]) hP (by decide)) ?_
  rintro _ w215 ⟨rfl, hP, hx214⟩
  refine ⟨_, rfl, fun a hf => ?_⟩
  replace hB2 := hB2.chg hx214 (nmc (Ne.symm ne_p_b2) nm0)
  replace hBT := hBT.chg hx214 (nmc (Ne.symm ne_p_bt) nm0)
  replace hO209 := own_gchg hO209 hx214 (nmc (Ne.symm ne_p_lg) nm0)
  replace hOK := own_gchg hOK hx214 (nmc (Ne.symm ne_p_kg) nm0)
  replace hKT := hKT.chg hx214 (fun b hb hlt => (nmc (by omega) nm0))
  replace hE := hE.trans hx214 (allc (.inl (by simp)) all0)
  replace hL := nlt (pWord_len [58] _) hL
  clear hS0
  have hS0 := hBT.same s_hBT 2
  refine ⟨.inl hS0, ?_⟩
  refine dV 4 rfl rfl hsel (by kernel_rfl) hf rfl (.inl hS0) (fun x => ex_index (sz := 1) (k := 4) (r := 4) hf Try.underlying23 (by kernel_rfl) rfl rfl rfl (by first | decide | simp) rfl) fun a hf => ?_
  obtain ⟨w216, he, hO217, hx218⟩ := ef_storeO (P := Try.prog) (t := 9) (x := (.tmp 76)) (y := (.tmp 75)) hf rfl rfl (by kernel_rfl) rfl hO209 (by simp) 0
  refine dl_s 5 (by kernel_rfl) rfl hf rfl rfl he fun a hf => ?_
  replace hB2 := hB2.chg hx218 (nmc ne_b2_lg nm0)
  replace hBT := hBT.chg hx218 (nmc ne_bt_lg nm0)
  replace hP := hP.chg hx218 (allc ⟨hH_lg, ne_p_lg⟩ all0)
  replace hOK := own_gchg hOK hx218 (nmc (Ne.symm ne_lg_kg) nm0)
  replace hKT := hKT.chg hx218 (fun b hb hlt => (nmc (by omega) nm0))
  replace hE := hE.trans hx218 (allc (.inr ge_lg) all0)
  clear hO209
  clear hS0
  have hS0 := hBT.same s_hBT 2
  refine ⟨.inl hS0, ?_⟩
  refine dl_done (by kernel_rfl) ?_
  clear hS0 hsel
  refine hK211 _ _ <| wS fun K219 hK219 => ?_
  have s_hBT := hBT
  refine dl_start (fun x => x.cell? ⟨bt, 3, none⟩ = w216.cell? ⟨bt, 3, none⟩) 7 8 rfl (by kernel_rfl) (by kernel_rfl) ?_
  intro w220 hx221 hsel
  replace hB2 := hB2.c0 hx221
  replace hBT := hBT.c0 hx221
  replace hP := hP.chg hx221 all0
  replace hO217 := own_gchg hO217 hx221 nm0
  replace hOK := own_gchg hOK hx221 nm0
  replace hKT := hKT.chg hx221 (fun b hb hlt => nm0)
  replace hE := hE.t0 hx221
  have hS0 := hBT.same s_hBT 3
  refine dV 0 rfl rfl hsel (by kernel_rfl) hf rfl (.inl hS0) (fun x => ex_fa (k := 3) (r := 3) hf rfl (by kernel_rfl) rfl) fun a hf => dL 1 rfl rfl hsel (by kernel_rfl) hf rfl hS0 (fun x hS => ex_load hf rfl (by kernel_rfl) (hS.trans ((s_hBT.cell 3).trans rfl))) fun a hf => dM 2 rfl rfl hsel (by kernel_rfl) hf rfl hS0 rfl fun a hf => ?_
  have plt222 := hP.lt
  refine dl_c 3 (by kernel_rfl) rfl hf rfl rfl rfl (by kernel_rfl) (typL n _ _ _ _ hP (by omega)) ?_
  rintro _ w223 ⟨c222_0, c222_1, c222_2, c222_3, rfl, hT222, hP, hx222, hl222⟩
  refine ⟨_, rfl, fun a hf => ?_⟩
  obtain ⟨lo224, elo224⟩ : ∃ x, x = w220.heap.size := ⟨_, rfl⟩
  obtain ⟨hi224, ehi224⟩ : ∃ x, x = w223.heap.size := ⟨_, rfl⟩
  replace hT222 := hT222.within elo224 ehi224
  have hle224 : hi224 ≤ w223.heap.size := Nat.le_of_eq ehi224
  have ge_lo224 : w.heap.size ≤ lo224 := elo224 ▸ hE.size
  have tb_lo224_b2 : b2 < lo224 := elo224 ▸ hB2.lt
  have tb_lo224_bt : bt < lo224 := elo224 ▸ hBT.lt
  have tb_lo224_p : p < lo224 := elo224 ▸ plt222
  have tb_lo224_lg : lg < lo224 := elo224 ▸ (own_glt hO217)
  have tb_lo224_kg : kg < lo224 := elo224 ▸ (own_glt hOK)
  clear elo224 ehi224
  clear plt222
  have on_hT222 := hT222.one
  replace hB2 := hB2.chg hx222 (nmc (Ne.symm ne_p_b2) nm0)
  replace hBT := hBT.chg hx222 (nmc (Ne.symm ne_p_bt) nm0)
  replace hO217 := own_gchg hO217 hx222 (nmc (Ne.symm ne_p_lg) nm0)
  replace hOK := own_gchg hOK hx222 (nmc (Ne.symm ne_p_kg) nm0)
  replace hKT := hKT.chg hx222 (fun b hb hlt => (nmc (by omega) nm0))
  replace hE := hE.trans hx222 (allc (.inl (by simp)) all0)
  replace hL := nlt hl222 hL
  clear hS0
  have hS0 := hBT.same s_hBT 3
  refine ⟨.inl hS0, ?_⟩
  obtain ⟨w225, b226, he, hB227, hx228, eb229, lb230⟩ := ef_bslice (P := Try.prog) (ps := [(0, (.tmp 80))]) (m := 1) (sz := 4) (z := zT) hf rfl Try.underlying24 (by kernel_rfl) (by kernel_rfl) rfl rfl (by kernel_rfl) rfl w223 24
  refine dl_e 4 (by kernel_rfl) rfl hf rfl rfl he fun a hf => ?_
  have ne_b2_b226 : b2 ≠ b226 := ne_new hB2.lt eb229
  have ne_bt_b226 : bt ≠ b226 := ne_new hBT.lt eb229
  have ne_p_b226 : p ≠ b226 := ne_new hP.lt eb229
  have ne_lg_b226 : lg ≠ b226 := ne_new (own_glt hO217) eb229
  have ne_kg_b226 : kg ≠ b226 := ne_new (own_glt hOK) eb229
  have ta_hi224_b226 : hi224 ≤ b226 := eb229 ▸ hle224
  have ge_b226 := ge_new hE eb229
  have hH_b226 : H ≤ b226 := by have := hP.le; have := hP.lt; omega
  replace hB2 := hB2.c0 hx228
  replace hBT := hBT.c0 hx228
  replace hP := hP.chg hx228 all0
  replace hO217 := own_gchg hO217 hx228 nm0
  replace hOK := own_gchg hOK hx228 nm0
  replace hKT := hKT.chg hx228 (fun b hb hlt => nm0)
  replace hT222 := hT222.chg hx228 (fun b hb _ => nm0)
  replace hle224 := nlt hle224 hx228.size
  replace hE := hE.t0 hx228
  clear eb229 lb230
  clear hS0
  have hS0 := hBT.same s_hBT 3
  refine ⟨.inl hS0, ?_⟩
  obtain ⟨g232, cap233, w231, he, hO234, hx235, hat236, hlt237⟩ := ef_append1 (P := Try.prog) (x := (.tmp 78)) (y := (.tmp 81)) (z := .agg zA) (sz := 4) (by_ := 72) hf rfl rfl Try.underlying24 (by kernel_rfl) rfl rfl hOK hB227 rfl on_hT222 rfl (by simp only [maxLen]; omega) (by omega) (hE.size) 24
  refine dl_e 5 (by kernel_rfl) rfl hf rfl rfl he fun a hf => ?_
  have ne_b2_g232 : b2 ≠ g232 := by have := hB2.lt; have := ne_b2_kg; omega
  have ne_bt_g232 : bt ≠ g232 := by have := hBT.lt; have := ne_bt_kg; omega
  have ne_b226_g232 : b226 ≠ g232 := by have := hB227.lt; have := (Ne.symm ne_kg_b226); omega
  have ne_p_g232 : p ≠ g232 := by have := hP.lt; have := ne_p_kg; omega
  have ne_lg_g232 : lg ≠ g232 := by have := (own_glt hO217); have := ne_lg_kg; omega
  have ta_hi224_g232 : hi224 ≤ g232 ∨ g232 < lo224 := by have := hle224; omega
  replace hKT : KidsAre (fun b => w.heap.size ≤ b ∧ b ≠ b2 ∧ b ≠ bt ∧ b ≠ lg ∧ b ≠ kg ∧ b ≠ g232) w225 _ _ := hKT.keepB (fun b hb hlt => by omega) (fun _ _ _ => rfl)
  have ge_g232 : w.heap.size ≤ g232 := own_gle hO234
  have hH_g232 : H ≤ g232 := by have := hP.le; have := hP.lt; omega
  replace hB2 := hB2.chg hx235 (nmc ne_b2_kg nm0)
  replace hBT := hBT.chg hx235 (nmc ne_bt_kg nm0)
  replace hB227 := hB227.chg hx235 (nmc (Ne.symm ne_kg_b226) nm0)
  replace hP := hP.chg hx235 (allc ⟨hH_kg, ne_p_kg⟩ all0)
  replace hO217 := own_gchg hO217 hx235 (nmc ne_lg_kg nm0)
  replace hKT := hKT.chg hx235 (fun b hb hlt => (nmc (by omega) nm0))
  replace hT222 := hT222.chg hx235 (fun b hb _ => (nmc (by omega) nm0))
  replace hle224 := nlt hle224 hx235.size
  replace hE := hE.trans hx235 (allc (.inr ge_kg) all0)
  clear hat236 hlt237
  clear hS0
  have hS0 := hBT.same s_hBT 3
  refine ⟨.inl hS0, ?_⟩
  refine dV 6 rfl rfl hsel (by kernel_rfl) hf rfl (.inl hS0) (fun x => ex_fa (k := 3) (r := 3) hf rfl (by kernel_rfl) rfl) fun a hf => ?_
  obtain ⟨w238, he, hB239, hx240⟩ := ef_store (P := Try.prog) (t := 24) (x := (.tmp 83)) (y := (.tmp 82)) hf rfl rfl (by kernel_rfl) rfl hBT (Nat.le_of_ble_eq_true rfl) 0
  refine dl_s 7 (by kernel_rfl) rfl hf rfl rfl he fun a hf => ?_
  replace hB2 := hB2.chg hx240 (nmc ne_b2_bt nm0)
  replace hB227 := hB227.chg hx240 (nmc (Ne.symm ne_bt_b226) nm0)
  replace hP := hP.chg hx240 (allc ⟨hH_bt, ne_p_bt⟩ all0)
  replace hO217 := own_gchg hO217 hx240 (nmc (Ne.symm ne_bt_lg) nm0)
  replace hKT := hKT.chg hx240 (fun b hb hlt => (nmc (by omega) nm0))
  replace hT222 := hT222.chg hx240 (fun b hb _ => (nmc (by omega) nm0))
  replace hle224 := nlt hle224 hx240.size
  replace hO234 := own_gchg hO234 hx240 (nmc (Ne.symm ne_bt_g232) nm0)
  replace hE := hE.trans hx240 (allc (.inr ge_bt) all0)
  clear hBT
  refine ⟨.inr (by kernel_rfl), ?_⟩
  refine dl_done (by kernel_rfl) ?_
  clear hS0 hsel
  refine hK219 _ _ <| wS fun K241 hK241 => ?_
  have s_hB239 := hB239
  refine dl_start (fun x => x.cell? ⟨bt, 2, none⟩ = w238.cell? ⟨bt, 2, none⟩) 6 6 rfl (by kernel_rfl) (by kernel_rfl) ?_
  intro w242 hx243 hsel
  replace hB2 := hB2.c0 hx243
  replace hB239 := hB239.c0 hx243
  replace hB227 := hB227.c0 hx243
  replace hP := hP.chg hx243 all0
  replace hO217 := own_gchg hO217 hx243 nm0
  replace hKT := hKT.chg hx243 (fun b hb hlt => nm0)
  replace hT222 := hT222.chg hx243 (fun b hb _ => nm0)
  replace hle224 := nlt hle224 hx243.size
  replace hO234 := own_gchg hO234 hx243 nm0
  replace hE := hE.t0 hx243
  have hS0 := hB239.same s_hB239 2
  refine dV 0 rfl rfl hsel (by kernel_rfl) hf rfl (.inl hS0) (fun x => ex_fa (k := 2) (r := 2) hf rfl (by kernel_rfl) rfl) fun a hf => dL 1 rfl rfl hsel (by kernel_rfl) hf rfl hS0 (fun x hS => ex_load hf rfl (by kernel_rfl) (hS.trans ((s_hB239.cell 2).trans rfl))) fun a hf => dM 2 rfl rfl hsel (by kernel_rfl) hf rfl hS0 rfl fun a hf => dl_c 3 (by kernel_rfl) rfl hf rfl rfl rfl (by kernel_rfl) (pWordL (x := [61]) hP (by decide)) ?_
  rintro _ w245 ⟨rfl, hP, hx244⟩
  refine ⟨_, rfl, fun a hf => ?_⟩
  replace hB2 := hB2.chg hx244 (nmc (Ne.symm ne_p_b2) nm0)
  replace hB239 := hB239.chg hx244 (nmc (Ne.symm ne_p_bt) nm0)
  replace hB227 := hB227.chg hx244 (nmc (Ne.symm ne_p_b226) nm0)
  replace hO217 := own_gchg hO217 hx244 (nmc (Ne.symm ne_p_lg) nm0)
  replace hKT := hKT.chg hx244 (fun b hb hlt => (nmc (by omega) nm0))
  replace hT222 := hT222.chg hx244 (fun b hb _ => (nmc (by omega) nm0))
  replace hle224 := nlt hle224 hx244.size
  replace hO234 := own_gchg hO234 hx244 (nmc (Ne.symm ne_p_g232) nm0)
  replace hE := hE.trans hx244 (allc (.inl (by simp)) all0)
  replace hL := nlt (pWord_len [61] _) hL
  clear hS0
  have hS0 := hB239.same s_hB239 2
  refine ⟨.inl hS0, ?_⟩
  refine dV 4 rfl rfl hsel (by kernel_rfl) hf rfl (.inl hS0) (fun x => ex_index (sz := 1) (k := 5) (r := 5) hf Try.underlying23 (by kernel_rfl) rfl rfl rfl (by first | decide | simp) rfl) fun a hf => ?_
  obtain ⟨w246, he, hO247, hx248⟩ := ef_storeO (P := Try.prog) (t := 9) (x := (.tmp 88)) (y := (.tmp 87)) hf rfl rfl (by kernel_rfl) rfl hO217 (by simp) 0
  refine dl_s 5 (by kernel_rfl) rfl hf rfl rfl he fun a hf => ?_
  replace hB2 := hB2.chg hx248 (nmc ne_b2_lg nm0)
  replace hB239 := hB239.chg hx248 (nmc ne_bt_lg nm0)
  replace hB227 := hB227.chg hx248 (nmc (Ne.symm ne_lg_b226) nm0)
  replace hP := hP.chg hx248 (allc ⟨hH_lg, ne_p_lg⟩ all0)
  replace hKT := hKT.chg hx248 (fun b hb hlt => (nmc (by omega) nm0))
  replace hT222 := hT222.chg hx248 (fun b hb _ => (nmc (by omega) nm0))
  replace hle224 := nlt hle224 hx248.size
  replace hO234 := own_gchg hO234 hx248 (nmc (Ne.symm ne_lg_g232) nm0)
  replace hE := hE.trans hx248 (allc (.inr ge_lg) all0)
  clear hO217
  clear hS0
  have hS0 := hB239.same s_hB239 2
  refine ⟨.inl hS0, ?_⟩
  refine dl_done (by kernel_rfl) ?_
  clear hS0 hsel
  refine hK241 _ _ <| wS fun K249 hK249 => ?_
  have s_hB239 := hB239
  refine dl_start (fun x => x.cell? ⟨bt, 3, none⟩ = w246.cell? ⟨bt, 3, none⟩) 7 8 rfl (by kernel_rfl) (by kernel_rfl) ?_
  intro w250 hx251 hsel
  replace hB2 := hB2.c0 hx251
  replace hB239 := hB239.c0 hx251
  replace hB227 := hB227.c0 hx251
  replace hP := hP.chg hx251 all0
  replace hO247 := own_gchg hO247 hx251 nm0
  replace hKT := hKT.chg hx251 (fun b hb hlt => nm0)
  replace hT222 := hT222.chg hx251 (fun b hb _ => nm0)
  replace hle224 := nlt hle224 hx251.size
  replace hO234 := own_gchg hO234 hx251 nm0
  replace hE := hE.t0 hx251
  have hS0 := hB239.same s_hB239 3
  refine dV 0 rfl rfl hsel (by kernel_rfl) hf rfl (.inl hS0) (fun x => ex_fa (k := 3) (r := 3) hf rfl (by kernel_rfl) rfl) fun a hf => dL 1 rfl rfl hsel (by kernel_rfl) hf rfl hS0 (fun x hS => ex_load hf rfl (by kernel_rfl) (hS.trans ((s_hB239.cell 3).trans rfl))) fun a hf => dM 2 rfl rfl hsel (by kernel_rfl) hf rfl hS0 rfl fun a hf => ?_
  have plt252 := hP.lt
  refine dl_c 3 (by kernel_rfl) rfl hf rfl rfl rfl (by kernel_rfl) (exprL n _ _ _ _ hP (by omega)) ?_
  rintro _ w253 ⟨c252_0, c252_1, c252_2, c252_3, rfl, hT252, hP, hx252, hl252⟩
  refine ⟨_, rfl, fun a hf => ?_⟩
  obtain ⟨lo254, elo254⟩ : ∃ x, x = w250.heap.size := ⟨_, rfl⟩
  obtain ⟨hi254, ehi254⟩ : ∃ x, x = w253.heap.size := ⟨_, rfl⟩
  replace hT252 := hT252.within elo254 ehi254
  have hle254 : hi254 ≤ w253.heap.size := Nat.le_of_eq ehi254
  have ge_lo254 : w.heap.size ≤ lo254 := elo254 ▸ hE.size
  have tb_lo254_b2 : b2 < lo254 := elo254 ▸ hB2.lt
  have tb_lo254_bt : bt < lo254 := elo254 ▸ hB239.lt
  have tb_lo254_b226 : b226 < lo254 := elo254 ▸ hB227.lt
  have tb_lo254_p : p < lo254 := elo254 ▸ plt252
  have tb_lo254_lg : lg < lo254 := elo254 ▸ (own_glt hO247)
  have tb_lo254_g232 : g232 < lo254 := elo254 ▸ (own_glt hO234)
  clear elo254 ehi254
  clear plt252
  have on_hT252 := hT252.one
  replace hB2 := hB2.chg hx252 (nmc (Ne.symm ne_p_b2) nm0)
  replace hB239 := hB239.chg hx252 (nmc (Ne.symm ne_p_bt) nm0)
  replace hB227 := hB227.chg hx252 (nmc (Ne.symm ne_p_b226) nm0)
  replace hO247 := own_gchg hO247 hx252 (nmc (Ne.symm ne_p_lg) nm0)
  replace hKT := hKT.chg hx252 (fun b hb hlt => (nmc (by omega) nm0))
  replace hT222 := hT222.chg hx252 (fun b hb _ => (nmc (by omega) nm0))
  replace hle224 := nlt hle224 hx252.size
  replace hO234 := own_gchg hO234 hx252 (nmc (Ne.symm ne_p_g232) nm0)
  replace hE := hE.trans hx252 (allc (.inl (by simp)) all0)
  replace hL := nlt hl252 hL
  clear hS0
  have hS0 := hB239.same s_hB239 3
  refine ⟨.inl hS0, ?_⟩
  obtain ⟨w255, b256, he, hB257, hx258, eb259, lb260⟩ := ef_bslice (P := Try.prog) (ps := [(0, (.tmp 92))]) (m := 1) (sz := 4) (z := zT) hf rfl Try.underlying24 (by kernel_rfl) (by kernel_rfl) rfl rfl (by kernel_rfl) rfl w253 24
  refine dl_e 4 (by kernel_rfl) rfl hf rfl rfl he fun a hf => ?_
  have ne_b2_b256 : b2 ≠ b256 := ne_new hB2.lt eb259
  have ne_bt_b256 : bt ≠ b256 := ne_new hB239.lt eb259
  have ne_b226_b256 : b226 ≠ b256 := ne_new hB227.lt eb259
  have ne_p_b256 : p ≠ b256 := ne_new hP.lt eb259
  have ne_lg_b256 : lg ≠ b256 := ne_new (own_glt hO247) eb259
  have ne_g232_b256 : g232 ≠ b256 := ne_new (own_glt hO234) eb259
  have ta_hi224_b256 : hi224 ≤ b256 := eb259 ▸ hle224
  have ta_hi254_b256 : hi254 ≤ b256 := eb259 ▸ hle254
  have ge_b256 := ge_new hE eb259
  have hH_b256 : H ≤ b256 := by have := hP.le; have := hP.lt; omega
  replace hB2 := hB2.c0 hx258
  replace hB239 := hB239.c0 hx258
  replace hB227 := hB227.c0 hx258
  replace hP := hP.chg hx258 all0
  replace hO247 := own_gchg hO247 hx258 nm0
  replace hKT := hKT.chg hx258 (fun b hb hlt => nm0)
  replace hT222 := hT222.chg hx258 (fun b hb _ => nm0)
  replace hle224 := nlt hle224 hx258.size
  replace hO234 := own_gchg hO234 hx258 nm0
  replace hT252 := hT252.chg hx258 (fun b hb _ => nm0)
  replace hle254 := nlt hle254 hx258.size
  replace hE := hE.t0 hx258
  clear eb259 lb260
  clear hS0
  have hS0 := hB239.same s_hB239 3
  refine ⟨.inl hS0, ?_⟩
  obtain ⟨g262, cap263, w261, he, hO264, hx265, hat266, hlt267⟩ := ef_append1 (P := Try.prog) (x := (.tmp 90)) (y := (.tmp 93)) (z := .agg zA) (sz := 4) (by_ := 72) hf rfl rfl Try.underlying24 (by kernel_rfl) rfl rfl hO234 hB257 rfl on_hT252 rfl (by simp only [maxLen]; omega) (by omega) (hE.size) 24
  refine dl_e 5 (by kernel_rfl) rfl hf rfl rfl he fun a hf => ?_
  have ne_b2_g262 : b2 ≠ g262 := by have := hB2.lt; have := ne_b2_g232; omega
  have ne_bt_g262 : bt ≠ g262 := by have := hB239.lt; have := ne_bt_g232; omega
  have ne_b226_g262 : b226 ≠ g262 := by have := hB227.lt; have := ne_b226_g232; omega
  have ne_b256_g262 : b256 ≠ g262 := by have := hB257.lt; have := (Ne.symm ne_g232_b256); omega
  have ne_p_g262 : p ≠ g262 := by have := hP.lt; have := ne_p_g232; omega
  have ne_lg_g262 : lg ≠ g262 := by have := (own_glt hO247); have := ne_lg_g232; omega
  have ta_hi224_g262 : hi224 ≤ g262 ∨ g262 < lo224 := by have := hle224; omega
  have ta_hi254_g262 : hi254 ≤ g262 ∨ g262 < lo254 := by have := hle254; omega
  replace hKT : KidsAre (fun b => w.heap.size ≤ b ∧ b ≠ b2 ∧ b ≠ bt ∧ b ≠ lg ∧ b ≠ kg ∧ b ≠ g232 ∧ b ≠ g262) w255 _ _ := hKT.keepB (fun b hb hlt => by omega) (fun _ _ _ => rfl)
  have ge_g262 : w.heap.size ≤ g262 := own_gle hO264
  have hH_g262 : H ≤ g262 := by have := hP.le; have := hP.lt; omega
  replace hB2 := hB2.chg hx265 (nmc ne_b2_g232 nm0)
  replace hB239 := hB239.chg hx265 (nmc ne_bt_g232 nm0)
  replace hB227 := hB227.chg hx265 (nmc ne_b226_g232 nm0)
  replace hB257 := hB257.chg hx265 (nmc (Ne.symm ne_g232_b256) nm0)
  replace hP := hP.chg hx265 (allc ⟨hH_g232, ne_p_g232⟩ all0)
  replace hO247 := own_gchg hO247 hx265 (nmc ne_lg_g232 nm0)
  replace hKT := hKT.chg hx265 (fun b hb hlt => (nmc (by omega) nm0))
  replace hT222 := hT222.chg hx265 (fun b hb _ => (nmc (by omega) nm0))
  replace hle224 := nlt hle224 hx265.size
  replace hT252 := hT252.chg hx265 (fun b hb _ => (nmc (by omega) nm0))
  replace hle254 := nlt hle254 hx265.size
  replace hE := hE.trans hx265 (allc (.inr ge_g232) all0)
  clear hat266 hlt267
  clear hS0
  have hS0 := hB239.same s_hB239 3
  refine ⟨.inl hS0, ?_⟩
  refine dV 6 rfl rfl hsel (by kernel_rfl) hf rfl (.inl hS0) (fun x => ex_fa (k := 3) (r := 3) hf rfl (by kernel_rfl) rfl) fun a hf => ?_
  obtain ⟨w268, he, hB269, hx270⟩ := ef_store (P := Try.prog) (t := 24) (x := (.tmp 95)) (y := (.tmp 94)) hf rfl rfl (by kernel_rfl) rfl hB239 (Nat.le_of_ble_eq_true rfl) 0
  refine dl_s 7 (by kernel_rfl) rfl hf rfl rfl he fun a hf => ?_
  replace hB2 := hB2.chg hx270 (nmc ne_b2_bt nm0)
  replace hB227 := hB227.chg hx270 (nmc (Ne.symm ne_bt_b226) nm0)
  replace hB257 := hB257.chg hx270 (nmc (Ne.symm ne_bt_b256) nm0)
  replace hP := hP.chg hx270 (allc ⟨hH_bt, ne_p_bt⟩ all0)
  replace hO247 := own_gchg hO247 hx270 (nmc (Ne.symm ne_bt_lg) nm0)
  replace hKT := hKT.chg hx270 (fun b hb hlt => (nmc (by omega) nm0))
  replace hT222 := hT222.chg hx270 (fun b hb _ => (nmc (by omega) nm0))
  replace hle224 := nlt hle224 hx270.size
  replace hT252 := hT252.chg hx270 (fun b hb _ => (nmc (by omega) nm0))
  replace hle254 := nlt hle254 hx270.size
  replace hO264 := own_gchg hO264 hx270 (nmc (Ne.symm ne_bt_g262) nm0)
  replace hE := hE.trans hx270 (allc (.inr ge_bt) all0)
  clear hB239
  refine ⟨.inr (by kernel_rfl), ?_⟩
  refine dl_done (by kernel_rfl) ?_
  clear hS0 hsel
  refine hK249 _ _ <| wS fun K271 hK271 => wR <| sV hf rfl (ex_loadBN (m := 4) hf rfl (by kernel_rfl) hB269 rfl) fun a hf => ?_
  obtain ⟨w272, he, hB273, hx274⟩ := eN (.tmp 2) (.tmp 96) hf rfl rfl rfl rfl hB2 rfl 0
  refine st_s hf rfl rfl he fun a hf => ?_
  replace hB269 := hB269.chg hx274 (nmc (Ne.symm ne_b2_bt) nm0)
  replace hB227 := hB227.chg hx274 (nmc (Ne.symm ne_b2_b226) nm0)
  replace hB257 := hB257.chg hx274 (nmc (Ne.symm ne_b2_b256) nm0)
  replace hP := hP.chg hx274 (allc ⟨hH_b2, ne_p_b2⟩ all0)
  replace hO247 := own_gchg hO247 hx274 (nmc (Ne.symm ne_b2_lg) nm0)
  replace hKT := hKT.chg hx274 (fun b hb hlt => (nmc (by omega) nm0))
  replace hT222 := hT222.chg hx274 (fun b hb _ => (nmc (by omega) nm0))
  replace hle224 := nlt hle224 hx274.size
  replace hT252 := hT252.chg hx274 (fun b hb _ => (nmc (by omega) nm0))
  replace hle254 := nlt hle254 hx274.size
  replace hO264 := own_gchg hO264 hx274 (nmc (Ne.symm ne_b2_g262) nm0)
  replace hE := hE.trans hx274 (allc (.inr ge_b2) all0)
  clear hB2
  refine sN <| hK271 _ _ <| wp_ret ?_
  have hq := hq0
  rw [hRd, ← hRe] at hq
  rw [hq]
  have e5 : ks.length + 1 + 1 = (ks ++ [(typT n (pWord [58] (pWord [41] s').2).2).1, (exprT n (pWord [61] (typT n (pWord [58] (pWord [41] s').2).2).2).2).1]).length := by simp
  have hBR : Blk w272 b2 26 [.int .i64 2, strV (pName 1 1 (pWord wDef s).2).1, .slice (some ⟨lg, 0, none⟩) ([(pWord wDef s).1, (pName 1 1 (pWord wDef s).2).2.1, (pWord [40] (pName 1 1 (pWord wDef s).2).2.2).1, (pWord [41] s').1, (pWord [58] (pWord [41] s').2).1, (pWord [61] (typT n (pWord [58] (pWord [41] s').2).2).2).1] ++ cs).length lcap, .slice (some ⟨g262, 0, none⟩) (ks.length + 1 + 1) cap263] := hB273
  have hOK5 := hO264
  rw [e5] at hBR hOK5
  try simp only [Exit.then, Exit.inBlock]
  exact ret_of (rs := [.cell 2 26]) hf rfl ⟨_, _, _, _, 4, rfl, rfl, by kernel_rfl, hBR, rfl, rfl⟩ ⟨_, _, _, _, rfl, tree_mk (own_cap hO247).1 (own_cap hO247).2 (own_cap hOK5).1 (own_cap hOK5).2 (RowIn.of_own hO247) (kids_snoc2 (hKT.mono (fun b hb => hb.1)) (hT222.mono (fun b hb => by omega)) (hT252.mono (fun b hb => by omega))) (RowIn.of_own hOK5), hP, hE, hL⟩
theorem functionL {H p n : Nat} {s : PS} {w : World} (hP : PAt H w p s) (hn : s.toks.length < n)  : Calls Try.prog 52 [.pointer (some ⟨p, 0, none⟩)].toArray w (TreePost w H p s (functionT n s)) := by
  by_cases hcl : (pNext (pWord [40] (pName 1 1 (pWord wDef s).2).2.2).2).text = [41]
  · exact functionEmptyL hP hn hcl
  · exact functionRowL hP hn hcl
end Go.Proofs.Ythpjpngfghcmcaa
namespace Go.Proofs.Ythpjpngfghcmcaa
open Go.RowKit Lx Sx
set_option maxRecDepth 100000
set_option maxHeartbeats 4000000
def FilePost (w : World) (H p : Nat) (r : Tree × PS) (e : Ending) (w' : World) : Prop :=
  ∃ tx l0 l1 ks lg Bk n cs, r.1 = .node 1 tx [l0, l1, []] ks ∧ e = .returned (.agg #[.int .i64 1, strV tx, .slice (some ⟨lg, 0, none⟩) 3 3, .slice Bk ks.length n]) ∧ Blk w' lg 9 [strV l0, strV l1, strV []] ∧ w.heap.size ≤ lg ∧
    ks.length ≤ n ∧ n ≤ maxLen ∧ KidsAre (fun b => w.heap.size ≤ b ∧ b ≠ lg) w' ks cs ∧ RowIn (fun b => w.heap.size ≤ b ∧ b ≠ lg) w' 4 Bk ks.length cs ∧ PAt H w' p r.2 ∧ Chg [p] w w'
section
variable {n m : Nat} {ks : List Tree} {s : PS}
theorem defsT_end (h : s.toks = []) : defsT n m ks s = (ks, s) := by cases m with | zero => rfl | succ m => rw [defsT, if_pos h]
variable (h : ¬ s.toks = [])
include h
theorem defsT_bad (h1 : ¬ (pNext s).text = wDef) (h2 : ¬ (pNext s).text = wType) : defsT n (m + 1) ks s = defsT n m ks (pFail 2 s) := by rw [defsT, if_neg h, if_pos ⟨h1, h2⟩]
variable (h0 : (pNext s).text = wDef ∨ (pNext s).text = wType)
include h0
theorem defsT_long (h3 : ks.length = 40) : defsT n (m + 1) ks s = defsT n m ks (pFail 3 s) := by rw [defsT, if_neg h, if_neg (fun hh => h0.elim hh.1 hh.2), if_pos h3]
theorem defsT_def (h3 : ¬ ks.length = 40) (h1 : (pNext s).text = wDef) : defsT n (m + 1) ks s = defsT n m (ks ++ [(functionT n s).1]) (functionT n s).2 := by rw [defsT, if_neg h, if_neg (fun hh => h0.elim hh.1 hh.2), if_neg h3, if_pos h1]
theorem defsT_type (h3 : ¬ ks.length = 40) (h1 : ¬ (pNext s).text = wDef) : defsT n (m + 1) ks s = defsT n m (ks ++ [(aliasT n s).1]) (aliasT n s).2 := by rw [defsT, if_neg h, if_neg (fun hh => h0.elim hh.1 hh.2), if_neg h3, if_neg h1]
end
theorem pFail_toks (e : Nat) (s : PS) : (pFail e s).toks = [] := by unfold pFail; split <;> rfl
theorem pWord_lt {x : List UInt8} {s : PS} (hx : x ≠ []) (h : (pNext s).text = x) : (pWord x s).2.toks.length < s.toks.length := by
  obtain ⟨t, r, hs, hnx⟩ := pNext_cons (s := s) (.inl (by rw [h]; exact hx))
  unfold pWord; rw [if_pos h]; exact pTake_lt hs
theorem RowIn.of_ownS {S : Nat → Prop} {w : World} {base : Nat} {e : TypeId} {size n c g : Nat} {xs : List Value} (h : w.ownsRow base e size (.slice (some ⟨g, 0, none⟩) n c) n xs) (hS : S g) : RowIn S w size (some ⟨g, 0, none⟩) n xs := by
  refine ⟨h.1, fun hn => ?_⟩
  obtain ⟨b, off, e', hs, hb, hc⟩ := (RowIn.of_own h).2 hn
  injection e' with e'
  injection e' with e1 e2
  subst e1 e2
  exact ⟨_, _, rfl, hS, hb, hc⟩
theorem PAt.tok0 {H p : Nat} {w : World} {s : PS} (h : PAt H w p s) : ∃ A c, w.cell? ⟨p, 0, none⟩ = some (.slice A s.toks.length c) := by
  obtain ⟨_, _, v, hB, A, c, rfl, _⟩ := h
  exact ⟨A, c, by rw [hB.cell]; rfl⟩
theorem typT_len : ∀ (n : Nat) (s : PS), (typT n s).2.toks.length ≤ s.toks.length
  | 0, s => Nat.le_refl _
  | n + 1, s => by
    have ih := typT_len n (pTake s)
    have h1 := pTake_len s
    have h2 := pWord_len [93] (typT n (pTake s)).2
    have h3 := pName_len 2 4 s
    rw [typT]
    split
    · exact h1
    split
    · exact h1
    split
    · exact h1
    split
    · simp only; omega
    · exact h3
theorem paramT_len (n : Nat) (s : PS) : (paramT n s).2.toks.length ≤ s.toks.length := by
  have h1 := pName_len 1 1 s
  have h2 := pWord_len [58] (pName 1 1 s).2.2
  have h3 := typT_len n (pWord [58] (pName 1 1 s).2.2).2
  simp only [paramT]; omega
theorem commaF_len {item : PS → Tree × PS} (h : ∀ s, (item s).2.toks.length ≤ s.toks.length) {most : Nat} {beg : Tok → Bool} : ∀ (m : Nat) (cs : List (List UInt8)) (ks : List Tree) (s : PS), (commaF item most beg m cs ks s).2.2.toks.length ≤ s.toks.length
  | 0, _, _, s => Nat.le_refl _
  | m + 1, cs, ks, s => by
    rw [commaF]
    split
    · have h1 := pTake_len s
      have h2 := pFail_len 3 (pTake s)
      simp only
      refine nlt (commaF_len h m _ _ _) (nlt (h _) ?_)
      split <;> omega
    · exact Nat.le_refl _
theorem rowF_len {item : PS → Tree × PS} (h : ∀ s, (item s).2.toks.length ≤ s.toks.length) {most : Nat} {beg : Tok → Bool} (s : PS) : (rowF item most beg s).2.2.toks.length ≤ s.toks.length := by
  unfold rowF
  split
  · exact Nat.le_refl _
  · exact nlt (commaF_len h _ _ _ _) (h s)
theorem binF_len {U : PS → Tree × PS} (h : ∀ s, (U s).2.toks.length ≤ s.toks.length) : ∀ (m : Nat) (t : Tree) (s : PS), (binF U m t s).2.toks.length ≤ s.toks.length
  | 0, _, s => Nat.le_refl _
  | m + 1, t, s => by
    rw [binF]
    split
    · exact nlt (binF_len h m _ _) (nlt (h _) (pTake_len s))
    · exact Nat.le_refl _
theorem unitF_len {E : PS → Tree × PS} (h : ∀ s, (E s).2.toks.length ≤ s.toks.length) (s : PS) : (unitF E s).2.toks.length ≤ s.toks.length := by
  have h1 := pTake_len s
  have ha : ∀ s, (argF E s).2.toks.length ≤ s.toks.length := fun s => h s
  unfold unitF
  simp only
  split
  · unfold useF
    split
    · exact h1
    · simp only
      have h2 := pWord_len [40] (pTake s)
      have h3 := rowF_len (most := 8) (beg := beginsB) ha (pWord [40] (pTake s)).2
      have h4 := pWord_len [41] (rowF (argF E) 8 beginsB (pWord [40] (pTake s)).2).2.2
      omega
  split
  · exact h1
  split
  · exact h1
  split
  · exact h1
  split
  · simp only [listF]
    have h2 := pWord_len [91] s
    have h3 := h (pWord [91] s).2
    have h4 := commaF_len (most := 16) (beg := beginsB) h ((E (pWord [91] s).2).2.toks.length + 1) [] [(E (pWord [91] s).2).1] (E (pWord [91] s).2).2
    have h5 := pWord_len [93] (commaF E 16 beginsB ((E (pWord [91] s).2).2.toks.length + 1) [] [(E (pWord [91] s).2).1] (E (pWord [91] s).2).2).2.2
    omega
  split
  · simp only [parenF]
    have h2 := h (pTake s)
    have h3 := pWord_len [41] (E (pTake s)).2
    omega
  split
  · exact h1
  split
  · exact h1
  · exact pFail_len 2 s
theorem exprT_len : ∀ (n : Nat) (s : PS), (exprT n s).2.toks.length ≤ s.toks.length
  | 0, s => Nat.le_refl _
  | n + 1, s => by
    have h := exprT_len n
    rw [exprT]
    unfold exprF
    have h1 := pTake_len s
    split
    · simp only [letF]
      have h2 := pName_len 1 1 (pTake s)
      have h3 := pWord_len [61] (pName 1 1 (pTake s)).2.2
      have h4 := h (pWord [61] (pName 1 1 (pTake s)).2.2).2
      have h5 := pWord_len wIn (exprT n (pWord [61] (pName 1 1 (pTake s)).2.2).2).2
      have h6 := h (pWord wIn (exprT n (pWord [61] (pName 1 1 (pTake s)).2.2).2).2).2
      omega
    split
    · simp only [ifF]
      have h2 := h (pTake s)
      have h3 := pWord_len wThen (exprT n (pTake s)).2
      have h4 := h (pWord wThen (exprT n (pTake s)).2).2
      have h5 := pWord_len wElse (exprT n (pWord wThen (exprT n (pTake s)).2).2).2
      have h6 := h (pWord wElse (exprT n (pWord wThen (exprT n (pTake s)).2).2).2).2
      omega
    · exact nlt (binF_len (unitF_len h) _ _ _) (unitF_len h s)
theorem functionT_lt' {n : Nat} {s : PS} (h : (pNext s).text = wDef) : (functionT n s).2.toks.length < s.toks.length := by
  have h1 := pWord_lt (by decide) h
  simp only [functionT]
  refine Nat.lt_of_le_of_lt ?_ h1
  refine nlt (exprT_len n _) (nlt (pWord_len _ _) (nlt (typT_len n _) (nlt (pWord_len _ _) (nlt (pWord_len _ _) (nlt (rowF_len (paramT_len n) _) (nlt (pWord_len _ _) (pName_len _ _ _)))))))
theorem aliasT_lt' {n : Nat} {s : PS} (h : (pNext s).text = wType) : (aliasT n s).2.toks.length < s.toks.length := by
  have h1 := pWord_lt (by decide) h
  simp only [aliasT]
  refine Nat.lt_of_le_of_lt ?_ h1
  exact nlt (typT_len n _) (nlt (pWord_len _ _) (pName_len _ _ _))
def KidsSt (w0 : World) (b2 bt lg : Nat) (kv : Value) (ks : List Tree) (w : World) : Prop :=
  (kv = .slice none 0 0 ∧ ks = []) ∨ ∃ kg kcap cc, kv = .slice (some ⟨kg, 0, none⟩) ks.length kcap ∧ w.ownsRow w0.heap.size 26 4 (.slice (some ⟨kg, 0, none⟩) ks.length kcap) ks.length cc ∧
    KidsAre (fun b => w0.heap.size ≤ b ∧ b ≠ b2 ∧ b ≠ bt ∧ b ≠ lg ∧ b ≠ kg) w ks cc ∧ b2 ≠ kg ∧ bt ≠ kg ∧ lg ≠ kg
theorem KidsSt.chg {w0 w w' : World} {b2 bt lg p : Nat} {kv : Value} {ks : List Tree} (h : KidsSt w0 b2 bt lg kv ks w) {X : List Nat} (hx : Chg X w w') (hp : ∀ b, b ∈ X → b < w0.heap.size ∨ b = b2 ∨ b = bt ∨ b = lg) : KidsSt w0 b2 bt lg kv ks w' := by
  rcases h with h | ⟨kg, kcap, cc, h1, h2, h3, h4, h5, h6⟩
  · exact .inl h
  · refine .inr ⟨kg, kcap, cc, h1, own_gchg h2 hx (fun hc => ?_), h3.chg hx (fun b hb _ hc => ?_), h4, h5, h6⟩
    · have := hp kg hc; have := own_gle h2; omega
    · have := hp b hc; omega
theorem KidsSt.one {w0 w : World} {b2 bt lg : Nat} {kv : Value} {ks : List Tree} (h : KidsSt w0 b2 bt lg kv ks w) : kv.oneCell' = true := by
  rcases h with ⟨rfl, _⟩ | ⟨kg, kcap, cc, rfl, _⟩ <;> rfl
theorem all4 {k : Int} {tx : List UInt8} {A : Option Addr} {a b : Nat} {kv : Value} (h : kv.oneCell' = true) : ([.int .i64 k, strV tx, .slice A a b, kv] : List Value).all (·.oneCell') = true := by simp only [List.all_cons, List.all_nil, Bool.and_true, h]; rfl
theorem fileL {H p n : Nat} {s : PS} {w : World} (hP : PAt H w p s) (hn : s.toks.length < n) : Calls Try.prog 27 [.pointer (some ⟨p, 0, none⟩)].toArray w (FilePost w H p (fileT n s)) := by
  refine enter_fr 64 Try.func27 rfl rfl rfl ?_
  intro a hf
  have hE := Chg.refl [p] w
  have hL := Nat.le_refl s.toks.length
  have lt_p := hP.lt
  refine wS fun K1 hK1 => wR ?_
  obtain ⟨w2, b3, he, hB4, hx5, eb6, lb7⟩ := eT a w 0
  refine sV hf rfl he fun a hf => ?_
  have ne_p_b3 : p ≠ b3 := ne_new hP.lt eb6
  have ge_b3 := ge_new hE eb6
  have hH_b3 : H ≤ b3 := by have := hP.le; have := hP.lt; omega
  replace hP := hP.chg hx5 all0
  replace hE := hE.t0 hx5
  clear eb6 lb7
  refine sN <| hK1 _ _ <| wS fun K8 hK8 => wR ?_
  obtain ⟨w9, b10, he, hB11, hx12, eb13, lb14⟩ := ef_make (P := Try.prog) (m := 3) (x := (.const (.int .i64 3))) (y := (.const (.int .i64 3))) (z := .string ⟨([] : List UInt8).toArray⟩) (sz := 1) (by_ := 16) (cs := [.string ⟨([] : List UInt8).toArray⟩, .string ⟨([] : List UInt8).toArray⟩, .string ⟨([] : List UInt8).toArray⟩]) hf rfl rfl Try.underlying23 (by kernel_rfl) (by kernel_rfl) (by kernel_rfl) (by kernel_rfl) w2 23
  refine sV hf rfl he fun a hf => ?_
  have ne_b3_b10 : b3 ≠ b10 := ne_new hB4.lt eb13
  have ne_p_b10 : p ≠ b10 := ne_new hP.lt eb13
  have ge_b10 := ge_new hE eb13
  have hH_b10 : H ≤ b10 := by have := hP.le; have := hP.lt; omega
  replace hB4 := hB4.c0 hx12
  replace hP := hP.chg hx12 all0
  replace hE := hE.t0 hx12
  clear eb13 lb14
  refine sV hf rfl (ex_bd (ps := [(0, (.const (.int .i64 1))), (2, (.tmp 5))]) (z := zT) (os := [0, 2]) hf rfl (by kernel_rfl) (by kernel_rfl) (by kernel_rfl) rfl rfl) fun a hf => ?_
  obtain ⟨w15, b16, he, hB17, hx18, eb19, lb20⟩ := eT a w9 0
  refine sV hf rfl he fun a hf => ?_
  have ne_b3_b16 : b3 ≠ b16 := ne_new hB4.lt eb19
  have ne_b10_b16 : b10 ≠ b16 := ne_new hB11.lt eb19
  have ne_p_b16 : p ≠ b16 := ne_new hP.lt eb19
  have ge_b16 := ge_new hE eb19
  have hH_b16 : H ≤ b16 := by have := hP.le; have := hP.lt; omega
  replace hB4 := hB4.c0 hx18
  replace hB11 := hB11.c0 hx18
  replace hP := hP.chg hx18 all0
  replace hE := hE.t0 hx18
  clear eb19 lb20
  obtain ⟨w21, he, hB22, hx23⟩ := eN (.tmp 3) (.tmp 6) hf rfl rfl rfl rfl hB17 rfl 0
  refine st_s hf rfl rfl he fun a hf => ?_
  replace hB4 := hB4.chg hx23 (nmc ne_b3_b16 nm0)
  replace hB11 := hB11.chg hx23 (nmc ne_b10_b16 nm0)
  replace hP := hP.chg hx23 (allc ⟨hH_b16, ne_p_b16⟩ all0)
  replace hE := hE.trans hx23 (allc (.inr ge_b16) all0)
  clear hB17
  refine sN <| hK8 _ _ <| wS fun K24 hK24 => ?_
  have s_hB22 := hB22
  refine dl_start (fun x => x.cell? ⟨b16, 2, none⟩ = w21.cell? ⟨b16, 2, none⟩) 6 6 rfl (by kernel_rfl) (by kernel_rfl) ?_
  intro w25 hx26 hsel
  replace hB4 := hB4.c0 hx26
  replace hB11 := hB11.c0 hx26
  replace hB22 := hB22.c0 hx26
  replace hP := hP.chg hx26 all0
  replace hE := hE.t0 hx26
  have hS0 := hB22.same s_hB22 2
  refine dV 0 rfl rfl hsel (by kernel_rfl) hf rfl (.inl hS0) (fun x => ex_fa (k := 2) (r := 2) hf rfl (by kernel_rfl) rfl) fun a hf => dL 1 rfl rfl hsel (by kernel_rfl) hf rfl hS0 (fun x hS => ex_load hf rfl (by kernel_rfl) (hS.trans ((s_hB22.cell 2).trans rfl))) fun a hf => dM 2 rfl rfl hsel (by kernel_rfl) hf rfl hS0 rfl fun a hf => dl_c 3 (by kernel_rfl) rfl hf rfl rfl rfl (by kernel_rfl) (pWordL (x := wModule) hP (by decide)) ?_
  rintro _ w28 ⟨rfl, hP, hx27⟩
  refine ⟨_, rfl, fun a hf => ?_⟩
  replace hB4 := hB4.chg hx27 (nmc (Ne.symm ne_p_b3) nm0)
  replace hB11 := hB11.chg hx27 (nmc (Ne.symm ne_p_b10) nm0)
  replace hB22 := hB22.chg hx27 (nmc (Ne.symm ne_p_b16) nm0)
  replace hE := hE.trans hx27 (allc (.inl (by simp)) all0)
  replace hL := nlt (pWord_len wModule _) hL
  clear hS0
  have hS0 := hB22.same s_hB22 2
  refine ⟨.inl hS0, ?_⟩
  refine dV 4 rfl rfl hsel (by kernel_rfl) hf rfl (.inl hS0) (fun x => ex_index (sz := 1) (k := 0) (r := 0) hf Try.underlying23 (by kernel_rfl) rfl rfl rfl (by first | decide | simp) rfl) fun a hf => ?_
  obtain ⟨w29, he, hB30, hx31⟩ := ef_store (P := Try.prog) (t := 9) (x := (.tmp 11)) (y := (.tmp 10)) hf rfl rfl (by kernel_rfl) rfl hB11 (Nat.le_of_ble_eq_true rfl) 0
  refine dl_s 5 (by kernel_rfl) rfl hf rfl rfl he fun a hf => ?_
  replace hB4 := hB4.chg hx31 (nmc ne_b3_b10 nm0)
  replace hB22 := hB22.chg hx31 (nmc (Ne.symm ne_b10_b16) nm0)
  replace hP := hP.chg hx31 (allc ⟨hH_b10, ne_p_b10⟩ all0)
  replace hE := hE.trans hx31 (allc (.inr ge_b10) all0)
  clear hB11
  clear hS0
  have hS0 := hB22.same s_hB22 2
  refine ⟨.inl hS0, ?_⟩
  refine dl_done (by kernel_rfl) ?_
  clear hS0 hsel
  refine hK24 _ _ <| wS fun K32 hK32 => ?_
  have s_hB22 := hB22
  refine dl_start (fun x => x.cell? ⟨b16, 2, none⟩ = w29.cell? ⟨b16, 2, none⟩) 11 11 rfl (by kernel_rfl) (by kernel_rfl) ?_
  intro w33 hx34 hsel
  replace hB4 := hB4.c0 hx34
  replace hB30 := hB30.c0 hx34
  replace hB22 := hB22.c0 hx34
  replace hP := hP.chg hx34 all0
  replace hE := hE.t0 hx34
  have hS0 := hB22.same s_hB22 2
  refine dV 0 rfl rfl hsel (by kernel_rfl) hf rfl (.inl hS0) (fun x => ex_fa (k := 2) (r := 2) hf rfl (by kernel_rfl) rfl) fun a hf => dL 1 rfl rfl hsel (by kernel_rfl) hf rfl hS0 (fun x hS => ex_load hf rfl (by kernel_rfl) (hS.trans ((s_hB22.cell 2).trans rfl))) fun a hf => dM 2 rfl rfl hsel (by kernel_rfl) hf rfl hS0 rfl fun a hf => dl_c 3 (by kernel_rfl) rfl hf rfl rfl rfl (by kernel_rfl) (pNameL (k := 2) (o := 2) hP) ?_
  rintro _ w36 ⟨rfl, hP, hx35⟩
  refine ⟨_, rfl, fun a hf => ?_⟩
  replace hB4 := hB4.chg hx35 (nmc (Ne.symm ne_p_b3) nm0)
  replace hB30 := hB30.chg hx35 (nmc (Ne.symm ne_p_b10) nm0)
  replace hB22 := hB22.chg hx35 (nmc (Ne.symm ne_p_b16) nm0)
  replace hE := hE.trans hx35 (allc (.inl (by simp)) all0)
  replace hL := nlt (pName_len 2 2 _) hL
  clear hS0
  have hS0 := hB22.same s_hB22 2
  refine ⟨.inl hS0, ?_⟩
  refine dM 4 rfl rfl hsel (by kernel_rfl) hf rfl hS0 rfl fun a hf => dV 5 rfl rfl hsel (by kernel_rfl) hf rfl (.inl hS0) (fun x => ex_extract hf rfl rfl) fun a hf => dV 6 rfl rfl hsel (by kernel_rfl) hf rfl (.inl hS0) (fun x => ex_extract hf rfl rfl) fun a hf => dV 7 rfl rfl hsel (by kernel_rfl) hf rfl (.inl hS0) (fun x => ex_fa (k := 1) (r := 1) hf rfl (by kernel_rfl) rfl) fun a hf => ?_
  obtain ⟨w37, he, hB38, hx39⟩ := ef_store (P := Try.prog) (t := 9) (x := (.tmp 19)) (y := (.tmp 17)) hf rfl rfl (by kernel_rfl) rfl hB22 (Nat.le_of_ble_eq_true rfl) 0
  refine dl_s 8 (by kernel_rfl) rfl hf rfl rfl he fun a hf => ?_
  replace hB4 := hB4.chg hx39 (nmc ne_b3_b16 nm0)
  replace hB30 := hB30.chg hx39 (nmc ne_b10_b16 nm0)
  replace hP := hP.chg hx39 (allc ⟨hH_b16, ne_p_b16⟩ all0)
  replace hE := hE.trans hx39 (allc (.inr ge_b16) all0)
  clear hB22
  clear hS0
  have hS0 := hB38.same s_hB22 2
  refine ⟨.inl hS0, ?_⟩
  refine dV 9 rfl rfl hsel (by kernel_rfl) hf rfl (.inl hS0) (fun x => ex_index (sz := 1) (k := 1) (r := 1) hf Try.underlying23 (by kernel_rfl) rfl rfl rfl (by first | decide | simp) rfl) fun a hf => ?_
  obtain ⟨w40, he, hB41, hx42⟩ := ef_store (P := Try.prog) (t := 9) (x := (.tmp 20)) (y := (.tmp 18)) hf rfl rfl (by kernel_rfl) rfl hB30 (Nat.le_of_ble_eq_true rfl) 0
  refine dl_s 10 (by kernel_rfl) rfl hf rfl rfl he fun a hf => ?_
  replace hB4 := hB4.chg hx42 (nmc ne_b3_b10 nm0)
  replace hB38 := hB38.chg hx42 (nmc (Ne.symm ne_b10_b16) nm0)
  replace hP := hP.chg hx42 (allc ⟨hH_b10, ne_p_b10⟩ all0)
  replace hE := hE.trans hx42 (allc (.inr ge_b10) all0)
  clear hB30
  clear hS0
  have hS0 := hB38.same s_hB22 2
  refine ⟨.inl hS0, ?_⟩
  refine dl_done (by kernel_rfl) ?_
  clear hS0 hsel
  refine hK32 _ _ <| wS fun K43 hK43 => wp_block ?_
  obtain ⟨R, hRd⟩ : ∃ R, defsT n ((pName 2 2 (pWord wModule s).2).2.2.toks.length + 2) [] (pName 2 2 (pWord wModule s).2).2.2 = R := ⟨_, rfl⟩
  refine wp_loop_ghost (fun g a w' => ∃ ks s' kv F, Fr a 64 (fm [(0, .pointer (some ⟨p, 0, none⟩)), (2, .pointer (some ⟨b3, 0, none⟩)), (3, .pointer (some ⟨b16, 0, none⟩))]) ∧ PAt H w' p s' ∧ Chg [p] w w' ∧ Blk w' b3 26 [.int .i64 0, strV [], .slice none 0 0, .slice none 0 0] ∧ Blk w' b10 9 [strV (pWord wModule s).1, strV (pName 2 2 (pWord wModule s).2).2.1, strV []] ∧ Blk w' b16 26 [.int .i64 1, strV (pName 2 2 (pWord wModule s).2).1, .slice (some ⟨b10, 0, none⟩) 3 3, kv] ∧ KidsSt w b3 b16 b10 kv ks w' ∧ g = s'.toks.length ∧ s'.toks.length + 1 < F ∧ defsT n F ks s' = R ∧ s'.toks.length < n ∧ ks.length ≤ 40) _ ⟨[], _, .slice none 0 0, _, hf.pick ⟨rfl, rfl, rfl, trivial⟩, hP, hE, hB4, hB41, hB38, .inl ⟨rfl, rfl⟩, rfl, Nat.lt_succ_self _, hRd, by omega, Nat.zero_le _⟩ ?_
  obtain ⟨b2, eb2⟩ : ∃ x, b3 = x := ⟨_, rfl⟩
  obtain ⟨bt, ebt⟩ : ∃ x, b16 = x := ⟨_, rfl⟩
  obtain ⟨lg, elg⟩ : ∃ x, b10 = x := ⟨_, rfl⟩
  rw [eb2, ebt, elg]
  have ge_b2 : w.heap.size ≤ b2 := eb2 ▸ ge_b3
  have ge_bt : w.heap.size ≤ bt := ebt ▸ ge_b16
  have ge_lg : w.heap.size ≤ lg := elg ▸ ge_b10
  have ne_b2_bt : b2 ≠ bt := by have := ne_b3_b16; omega
  have ne_b2_lg : b2 ≠ lg := by have := ne_b3_b10; omega
  have ne_bt_lg : bt ≠ lg := by have := (Ne.symm ne_b10_b16); omega
  clear eb2 ebt elg hf a
  intro g0 a w' hI
  obtain ⟨ks, s', kv, F, hf, hP, hE, hB2, hBL, hBT, hKS, rfl, hF, hR, hLs, hk40⟩ := hI
  obtain ⟨tA, tc, hc0⟩ := hP.tok0
  have hkv := hKS.one
  have ne_p_b2 : p ≠ b2 := by omega
  have hH_b2 : H ≤ b2 := by have := hP.le; omega
  have ne_p_bt : p ≠ bt := by omega
  have hH_bt : H ≤ bt := by have := hP.le; omega
  have ne_p_lg : p ≠ lg := by omega
  have hH_lg : H ≤ lg := by have := hP.le; omega
  by_cases ht : s'.toks = []
  have hRe := (defsT_end ht).symm.trans hR
  refine wS fun K44 hK44 => wS fun K45 hK45 => wR <| sM hf rfl rfl fun a hf => sV hf rfl (ex_nil hf rfl) fun a hf => sV hf rfl (ex_fa (k := 0) (r := 0) hf rfl (by kernel_rfl) rfl) fun a hf => sV hf rfl (ex_load hf rfl (by kernel_rfl) hc0) fun a hf => sV hf rfl (ex_len hf Try.underlying42 rfl) fun a hf => sV hf rfl (ex_gtI (c := false) hf rfl rfl (by rw [ht]; decide)) fun a hf => sN <| hK45 _ _ <| cF hf rfl <| wp_exit ?_
  simp only [Exit.then, Exit.inBlock, ↓reduceIte, Nat.reduceEqDiff]
  refine hK43 _ _ <| wS fun K46 hK46 => wR <| sV hf rfl (ex_loadBN (m := 4) hf rfl (by kernel_rfl) hBT rfl) fun a hf => ?_
  obtain ⟨w47, he, hB48, hx49⟩ := eN (.tmp 2) (.tmp 63) hf rfl rfl rfl (all4 hkv) hB2 rfl 0
  refine st_s hf rfl rfl he fun a hf => ?_
  replace hBL := hBL.chg hx49 (nmc (Ne.symm ne_b2_lg) nm0)
  replace hBT := hBT.chg hx49 (nmc (Ne.symm ne_b2_bt) nm0)
  replace hP := hP.chg hx49 (allc ⟨hH_b2, ne_p_b2⟩ all0)
  replace hKS := hKS.chg (p := p) hx49 (allc (.inr (.inl rfl)) all0)
  replace hE := hE.trans hx49 (allc (.inr ge_b2) all0)
  clear hB2
  refine sN <| hK46 _ _ <| wp_ret ?_
  have hq : fileT n s = (.node 1 (pName 2 2 (pWord wModule s).2).1 [(pWord wModule s).1, (pName 2 2 (pWord wModule s).2).2.1, []] ks, s') := by simp only [fileT, hRd, ← hRe]
  rw [hq]
  rcases hKS with ⟨rfl, rfl⟩ | ⟨kg, kcap, cc, rfl, hOK, hKT, ne_b2_kg, ne_bt_kg, ne_lg_kg⟩
  try simp only [Exit.then, Exit.inBlock]
  exact ret_of (rs := [.cell 2 26]) hf rfl ⟨_, _, _, _, 4, rfl, rfl, by kernel_rfl, hB48, rfl, rfl⟩ ⟨_, _, _, _, lg, none, 0, [], rfl, rfl, hBL, ge_lg, Nat.le_refl _, Nat.zero_le _, kids_none, RowIn.none_, hP, hE⟩
  try simp only [Exit.then, Exit.inBlock]
  exact ret_of (rs := [.cell 2 26]) hf rfl ⟨_, _, _, _, 4, rfl, rfl, by kernel_rfl, hB48, rfl, rfl⟩ ⟨_, _, _, _, lg, _, _, _, rfl, rfl, hBL, ge_lg, (own_cap hOK).1, (own_cap hOK).2, hKT.mono (fun b hb => ⟨hb.1, hb.2.2.2.1⟩), RowIn.of_ownS hOK ⟨own_gle hOK, fun e => ne_lg_kg e.symm⟩, hP, hE⟩
  have hpos : decide ((0 : Int) < (s'.toks.length : Nat)) = true := by cases hz : s'.toks with | nil => exact absurd hz ht | cons a b => first | (simp; done) | (simp; omega)
  obtain ⟨F', rfl⟩ : ∃ F', F = F' + 1 := ⟨F - 1, by omega⟩
  have hpos' : 0 < s'.toks.length := by simpa using hpos
  by_cases hw : ¬ (pNext s').text = wDef ∧ ¬ (pNext s').text = wType
  refine wS fun K50 hK50 => wS fun K51 hK51 => wR <| sM hf rfl rfl fun a hf => sV hf rfl (ex_nil hf rfl) fun a hf => sV hf rfl (ex_fa (k := 0) (r := 0) hf rfl (by kernel_rfl) rfl) fun a hf => sV hf rfl (ex_load hf rfl (by kernel_rfl) hc0) fun a hf => sV hf rfl (ex_len hf Try.underlying42 rfl) fun a hf => sV hf rfl (ex_gtI (c := true) hf rfl rfl hpos) fun a hf => sN <| hK51 _ _ <| cT hf rfl <| wp_skip <| hK50 _ _ <| wp_block <| wS fun K52 hK52 => wR <| sM hf rfl rfl fun a hf => st_c hf rfl rfl rfl (by kernel_rfl) (pNextL hP) ?_
  rintro _ w54 ⟨rfl, hP, hx53⟩
  refine ⟨_, rfl, fun a hf => ?_⟩
  replace hB2 := hB2.c0 hx53
  replace hBL := hBL.c0 hx53
  replace hBT := hBT.c0 hx53
  replace hKS := hKS.chg (p := p) hx53 all0
  replace hE := hE.t0 hx53
  refine sV hf rfl (ex_fd (k := 2) hf rfl (by kernel_rfl) rfl) fun a hf => sA hf rfl rfl fun a hf => sN <| hK52 _ _ <| wp_block <| wS fun K55 hK55 => wR <| sM hf rfl rfl fun a hf => sV hf rfl (ex_neS (c := true) hf rfl rfl (bneT hw.1)) fun a hf => sM hf rfl rfl fun a hf => sM hf rfl rfl fun a hf => sV hf rfl (ex_neS (c := true) hf rfl rfl (bneT hw.2)) fun a hf => sV hf rfl (ex_pickT hf rfl rfl) fun a hf => sA hf rfl rfl fun a hf => sN <| hK55 _ _ <| cT hf rfl <| wR <| sM hf rfl rfl fun a hf => st_c hf rfl rfl rfl (by kernel_rfl) (pFailL (e := 2) hP (by decide)) ?_
  rintro _ w57 ⟨rfl, hP, hx56⟩
  refine ⟨_, rfl, fun a hf => ?_⟩
  replace hB2 := hB2.chg hx56 (nmc (Ne.symm ne_p_b2) nm0)
  replace hBL := hBL.chg hx56 (nmc (Ne.symm ne_p_lg) nm0)
  replace hBT := hBT.chg hx56 (nmc (Ne.symm ne_p_bt) nm0)
  replace hKS := hKS.chg (p := p) hx56 (allc (.inl lt_p) all0)
  replace hE := hE.trans hx56 (allc (.inl (by simp)) all0)
  refine sN ?_
  have hl3 : (pFail 2 s').toks.length < s'.toks.length := by rw [pFail_toks]; exact hpos'
  exact ⟨_, hl3, ks, _, kv, F', hf.pick ⟨rfl, rfl, rfl, trivial⟩, hP, hE, hB2, hBL, hBT, hKS, rfl, by omega, (defsT_bad ht hw.1 hw.2).symm.trans hR, by omega, hk40⟩
  have h0 : (pNext s').text = wDef ∨ (pNext s').text = wType := Classical.byContradiction fun h => hw ⟨fun a => h (.inl a), fun a => h (.inr a)⟩
  by_cases hd : (pNext s').text = wDef
  rcases id hKS with ⟨rfl, rfl⟩ | ⟨kg, kcap, cc, rfl, hOK, hKT, ne_b2_kg, ne_bt_kg, ne_lg_kg⟩
  refine wS fun K58 hK58 => wS fun K59 hK59 => wR <| sM hf rfl rfl fun a hf => sV hf rfl (ex_nil hf rfl) fun a hf => sV hf rfl (ex_fa (k := 0) (r := 0) hf rfl (by kernel_rfl) rfl) fun a hf => sV hf rfl (ex_load hf rfl (by kernel_rfl) hc0) fun a hf => sV hf rfl (ex_len hf Try.underlying42 rfl) fun a hf => sV hf rfl (ex_gtI (c := true) hf rfl rfl hpos) fun a hf => sN <| hK59 _ _ <| cT hf rfl <| wp_skip <| hK58 _ _ <| wp_block <| wS fun K60 hK60 => wR <| sM hf rfl rfl fun a hf => st_c hf rfl rfl rfl (by kernel_rfl) (pNextL hP) ?_
  rintro _ w62 ⟨rfl, hP, hx61⟩
  refine ⟨_, rfl, fun a hf => ?_⟩
  replace hB2 := hB2.c0 hx61
  replace hBL := hBL.c0 hx61
  replace hBT := hBT.c0 hx61
  replace hE := hE.t0 hx61
  refine sV hf rfl (ex_fd (k := 2) hf rfl (by kernel_rfl) rfl) fun a hf => sA hf rfl rfl fun a hf => sN <| hK60 _ _ <| wp_block <| wS fun K63 hK63 => wR <| sM hf rfl rfl fun a hf => sV hf rfl (ex_neS (c := false) hf rfl rfl (bneF hd)) fun a hf => sM hf rfl rfl fun a hf => st_k hf rfl rfl fun a hf => st_k hf rfl rfl fun a hf => sV hf rfl (ex_pickF hf rfl rfl) fun a hf => sA hf rfl rfl fun a hf => sN <| hK63 _ _ <| cF hf rfl <| wS fun K64 hK64 => wR <| sV hf rfl (ex_fa (k := 3) (r := 3) hf rfl (by kernel_rfl) rfl) fun a hf => sV hf rfl (ex_loadB hf rfl (by kernel_rfl) hBT rfl) fun a hf => sV hf rfl (ex_len hf Try.underlying24 rfl) fun a hf => sV hf rfl (ex_eqI (c := false) hf rfl rfl (by decide)) fun a hf => sA hf rfl rfl fun a hf => sN <| hK64 _ _ <| cF hf rfl <| wS fun K65 hK65 => wR <| sM hf rfl rfl fun a hf => sV hf rfl (ex_eqS (c := true) hf rfl rfl (beqT hd)) fun a hf => sA hf rfl rfl fun a hf => sN <| hK65 _ _ <| cT hf rfl ?_
  have s_hBT := hBT
  refine dl_start (fun x => x.cell? ⟨bt, 3, none⟩ = w62.cell? ⟨bt, 3, none⟩) 7 8 rfl (by kernel_rfl) (by kernel_rfl) ?_
  intro w66 hx67 hsel
  replace hB2 := hB2.c0 hx67
  replace hBL := hBL.c0 hx67
  replace hBT := hBT.c0 hx67
  replace hP := hP.chg hx67 all0
  replace hE := hE.t0 hx67
  have hS0 := hBT.same s_hBT 3
  refine dV 0 rfl rfl hsel (by kernel_rfl) hf rfl (.inl hS0) (fun x => ex_fa (k := 3) (r := 3) hf rfl (by kernel_rfl) rfl) fun a hf => dL 1 rfl rfl hsel (by kernel_rfl) hf rfl hS0 (fun x hS => ex_load hf rfl (by kernel_rfl) (hS.trans ((s_hBT.cell 3).trans rfl))) fun a hf => dM 2 rfl rfl hsel (by kernel_rfl) hf rfl hS0 rfl fun a hf => ?_
  have plt68 := hP.lt
  refine dl_c 3 (by kernel_rfl) rfl hf rfl rfl rfl (by kernel_rfl) (functionL (n := n) hP hLs) ?_
  rintro _ w69 ⟨c68_0, c68_1, c68_2, c68_3, rfl, hT68, hP, hx68, hl68⟩
  refine ⟨_, rfl, fun a hf => ?_⟩
  obtain ⟨lo70, elo70⟩ : ∃ x, x = w66.heap.size := ⟨_, rfl⟩
  obtain ⟨hi70, ehi70⟩ : ∃ x, x = w69.heap.size := ⟨_, rfl⟩
  replace hT68 := hT68.within elo70 ehi70
  have hle70 : hi70 ≤ w69.heap.size := Nat.le_of_eq ehi70
  have ge_lo70 : w.heap.size ≤ lo70 := elo70 ▸ hE.size
  have tb_lo70_b2 : b2 < lo70 := elo70 ▸ hB2.lt
  have tb_lo70_lg : lg < lo70 := elo70 ▸ hBL.lt
  have tb_lo70_bt : bt < lo70 := elo70 ▸ hBT.lt
  have tb_lo70_p : p < lo70 := elo70 ▸ plt68
  clear elo70 ehi70
  clear plt68
  have on_hT68 := hT68.one
  replace hB2 := hB2.chg hx68 (nmc (Ne.symm ne_p_b2) nm0)
  replace hBL := hBL.chg hx68 (nmc (Ne.symm ne_p_lg) nm0)
  replace hBT := hBT.chg hx68 (nmc (Ne.symm ne_p_bt) nm0)
  replace hE := hE.trans hx68 (allc (.inl (by simp)) all0)
  clear hS0
  have hS0 := hBT.same s_hBT 3
  refine ⟨.inl hS0, ?_⟩
  obtain ⟨w71, b72, he, hB73, hx74, eb75, lb76⟩ := ef_bslice (P := Try.prog) (ps := [(0, (.tmp 59))]) (m := 1) (sz := 4) (z := zT) hf rfl Try.underlying24 (by kernel_rfl) (by kernel_rfl) rfl rfl (by kernel_rfl) rfl w69 24
  refine dl_e 4 (by kernel_rfl) rfl hf rfl rfl he fun a hf => ?_
  have ne_b2_b72 : b2 ≠ b72 := ne_new hB2.lt eb75
  have ne_lg_b72 : lg ≠ b72 := ne_new hBL.lt eb75
  have ne_bt_b72 : bt ≠ b72 := ne_new hBT.lt eb75
  have ne_p_b72 : p ≠ b72 := ne_new hP.lt eb75
  have ta_hi70_b72 : hi70 ≤ b72 := eb75 ▸ hle70
  have ge_b72 := ge_new hE eb75
  have hH_b72 : H ≤ b72 := by have := hP.le; have := hP.lt; omega
  replace hB2 := hB2.c0 hx74
  replace hBL := hBL.c0 hx74
  replace hBT := hBT.c0 hx74
  replace hP := hP.chg hx74 all0
  replace hT68 := hT68.chg hx74 (fun b hb _ => nm0)
  replace hle70 := nlt hle70 hx74.size
  replace hE := hE.t0 hx74
  clear eb75 lb76
  clear hS0
  have hS0 := hBT.same s_hBT 3
  refine ⟨.inl hS0, ?_⟩
  obtain ⟨g78, cap79, w77, he, hO80, hx81, hat82, hlt83⟩ := ef_append0 (P := Try.prog) (x := (.tmp 57)) (y := (.tmp 60)) (z := .agg zA) (sz := 4) (by_ := 72) hf rfl rfl Try.underlying24 (by kernel_rfl) rfl rfl (World.ownsRow_nil w71 w.heap.size 26 4) hB73 rfl on_hT68 rfl (by simp only [maxLen]; omega) (by omega) (hE.size) 24
  refine dl_e 5 (by kernel_rfl) rfl hf rfl rfl he fun a hf => ?_
  have ne_b2_g78 : b2 ≠ g78 := by have := hB2.lt; omega
  have ne_lg_g78 : lg ≠ g78 := by have := hBL.lt; omega
  have ne_bt_g78 : bt ≠ g78 := by have := hBT.lt; omega
  have ne_b72_g78 : b72 ≠ g78 := by have := hB73.lt; omega
  have ne_p_g78 : p ≠ g78 := by have := hP.lt; omega
  have ta_hi70_g78 : hi70 ≤ g78 ∨ g78 < lo70 := by have := hle70; omega
  have ge_g78 : w.heap.size ≤ g78 := own_gle hO80
  have hH_g78 : H ≤ g78 := by have := hP.le; have := hP.lt; omega
  replace hB2 := hB2.c0 hx81
  replace hBL := hBL.c0 hx81
  replace hBT := hBT.c0 hx81
  replace hB73 := hB73.c0 hx81
  replace hP := hP.chg hx81 all0
  replace hT68 := hT68.chg hx81 (fun b hb _ => nm0)
  replace hle70 := nlt hle70 hx81.size
  replace hE := hE.t0 hx81
  clear hat82 hlt83
  clear hS0
  have hS0 := hBT.same s_hBT 3
  refine ⟨.inl hS0, ?_⟩
  refine dV 6 rfl rfl hsel (by kernel_rfl) hf rfl (.inl hS0) (fun x => ex_fa (k := 3) (r := 3) hf rfl (by kernel_rfl) rfl) fun a hf => ?_
  obtain ⟨w84, he, hB85, hx86⟩ := ef_store (P := Try.prog) (t := 24) (x := (.tmp 62)) (y := (.tmp 61)) hf rfl rfl (by kernel_rfl) rfl hBT (Nat.le_of_ble_eq_true rfl) 0
  refine dl_s 7 (by kernel_rfl) rfl hf rfl rfl he fun a hf => ?_
  replace hB2 := hB2.chg hx86 (nmc ne_b2_bt nm0)
  replace hBL := hBL.chg hx86 (nmc (Ne.symm ne_bt_lg) nm0)
  replace hB73 := hB73.chg hx86 (nmc (Ne.symm ne_bt_b72) nm0)
  replace hP := hP.chg hx86 (allc ⟨hH_bt, ne_p_bt⟩ all0)
  replace hT68 := hT68.chg hx86 (fun b hb _ => (nmc (by omega) nm0))
  replace hle70 := nlt hle70 hx86.size
  replace hO80 := own_gchg hO80 hx86 (nmc (Ne.symm ne_bt_g78) nm0)
  replace hE := hE.trans hx86 (allc (.inr ge_bt) all0)
  clear hBT
  refine ⟨.inr (by kernel_rfl), ?_⟩
  refine dl_done (by kernel_rfl) ?_
  clear hS0 hsel
  have hl3 : (functionT n s').2.toks.length < s'.toks.length := functionT_lt' hd
  have e2 : ([] : List Tree).length + 1 = (([] : List Tree) ++ [(functionT n s').1]).length := by simp
  have hBT2 : Blk w84 bt 26 [.int .i64 1, strV (pName 2 2 (pWord wModule s).2).1, .slice (some ⟨lg, 0, none⟩) 3 3, .slice (some ⟨g78, 0, none⟩) (([] : List Tree).length + 1) cap79] := hB85
  have hOK2 : w84.ownsRow w.heap.size 26 4 (.slice (some ⟨g78, 0, none⟩) (([] : List Tree).length + 1) cap79) (([] : List Tree).length + 1) _ := hO80
  rw [e2] at hBT2 hOK2
  exact ⟨_, hl3, ([] : List Tree) ++ [(functionT n s').1], _, _, F', hf.pick ⟨rfl, rfl, rfl, trivial⟩, hP, hE, hB2, hBL, hBT2, (.inr ⟨g78, _, _, rfl, hOK2, KidsAre.snoc kids_none (hT68.mono (fun b hb => by omega)), by omega, by omega, by omega⟩), rfl, by omega, (defsT_def ht h0 (by decide) hd).symm.trans hR, by omega, by rw [← e2]; decide⟩
  have ge_kg := own_gle hOK
  have ne_p_kg : p ≠ kg := by omega
  have hH_kg : H ≤ kg := by have := hP.le; omega
  by_cases hm : ks.length = 40
  refine wS fun K87 hK87 => wS fun K88 hK88 => wR <| sM hf rfl rfl fun a hf => sV hf rfl (ex_nil hf rfl) fun a hf => sV hf rfl (ex_fa (k := 0) (r := 0) hf rfl (by kernel_rfl) rfl) fun a hf => sV hf rfl (ex_load hf rfl (by kernel_rfl) hc0) fun a hf => sV hf rfl (ex_len hf Try.underlying42 rfl) fun a hf => sV hf rfl (ex_gtI (c := true) hf rfl rfl hpos) fun a hf => sN <| hK88 _ _ <| cT hf rfl <| wp_skip <| hK87 _ _ <| wp_block <| wS fun K89 hK89 => wR <| sM hf rfl rfl fun a hf => st_c hf rfl rfl rfl (by kernel_rfl) (pNextL hP) ?_
  rintro _ w91 ⟨rfl, hP, hx90⟩
  refine ⟨_, rfl, fun a hf => ?_⟩
  replace hB2 := hB2.c0 hx90
  replace hBL := hBL.c0 hx90
  replace hBT := hBT.c0 hx90
  replace hOK := own_gchg hOK hx90 nm0
  replace hKT := hKT.chg hx90 (fun b hb hlt => nm0)
  replace hE := hE.t0 hx90
  refine sV hf rfl (ex_fd (k := 2) hf rfl (by kernel_rfl) rfl) fun a hf => sA hf rfl rfl fun a hf => sN <| hK89 _ _ <| wp_block <| wS fun K92 hK92 => wR <| sM hf rfl rfl fun a hf => sV hf rfl (ex_neS (c := false) hf rfl rfl (bneF hd)) fun a hf => sM hf rfl rfl fun a hf => st_k hf rfl rfl fun a hf => st_k hf rfl rfl fun a hf => sV hf rfl (ex_pickF hf rfl rfl) fun a hf => sA hf rfl rfl fun a hf => sN <| hK92 _ _ <| cF hf rfl <| wS fun K93 hK93 => wR <| sV hf rfl (ex_fa (k := 3) (r := 3) hf rfl (by kernel_rfl) rfl) fun a hf => sV hf rfl (ex_loadB hf rfl (by kernel_rfl) hBT rfl) fun a hf => sV hf rfl (ex_len hf Try.underlying24 rfl) fun a hf => sV hf rfl (ex_eqI (c := true) hf rfl rfl (iEqT (by omega))) fun a hf => sA hf rfl rfl fun a hf => sN <| hK93 _ _ <| cT hf rfl <| wR <| sM hf rfl rfl fun a hf => st_c hf rfl rfl rfl (by kernel_rfl) (pFailL (e := 3) hP (by decide)) ?_
  rintro _ w95 ⟨rfl, hP, hx94⟩
  refine ⟨_, rfl, fun a hf => ?_⟩
  replace hB2 := hB2.chg hx94 (nmc (Ne.symm ne_p_b2) nm0)
  replace hBL := hBL.chg hx94 (nmc (Ne.symm ne_p_lg) nm0)
  replace hBT := hBT.chg hx94 (nmc (Ne.symm ne_p_bt) nm0)
  replace hOK := own_gchg hOK hx94 (nmc (Ne.symm ne_p_kg) nm0)
  replace hKT := hKT.chg hx94 (fun b hb hlt => (nmc (by omega) nm0))
  replace hE := hE.trans hx94 (allc (.inl (by simp)) all0)
  refine sN ?_
  have hl3 : (pFail 3 s').toks.length < s'.toks.length := by rw [pFail_toks]; exact hpos'
  exact ⟨_, hl3, ks, _, _, F', hf.pick ⟨rfl, rfl, rfl, trivial⟩, hP, hE, hB2, hBL, hBT, (.inr ⟨kg, kcap, cc, rfl, hOK, hKT, ne_b2_kg, ne_bt_kg, ne_lg_kg⟩), rfl, by omega, (defsT_long ht h0 hm).symm.trans hR, by omega, hk40⟩
  refine wS fun K96 hK96 => wS fun K97 hK97 => wR <| sM hf rfl rfl fun a hf => sV hf rfl (ex_nil hf rfl) fun a hf => sV hf rfl (ex_fa (k := 0) (r := 0) hf rfl (by kernel_rfl) rfl) fun a hf => sV hf rfl (ex_load hf rfl (by kernel_rfl) hc0) fun a hf => sV hf rfl (ex_len hf Try.underlying42 rfl) fun a hf => sV hf rfl (ex_gtI (c := true) hf rfl rfl hpos) fun a hf => sN <| hK97 _ _ <| cT hf rfl <| wp_skip <| hK96 _ _ <| wp_block <| wS fun K98 hK98 => wR <| sM hf rfl rfl fun a hf => st_c hf rfl rfl rfl (by kernel_rfl) (pNextL hP) ?_
  rintro _ w100 ⟨rfl, hP, hx99⟩
  refine ⟨_, rfl, fun a hf => ?_⟩
  replace hB2 := hB2.c0 hx99
  replace hBL := hBL.c0 hx99
  replace hBT := hBT.c0 hx99
  replace hOK := own_gchg hOK hx99 nm0
  replace hKT := hKT.chg hx99 (fun b hb hlt => nm0)
  replace hE := hE.t0 hx99
  refine sV hf rfl (ex_fd (k := 2) hf rfl (by kernel_rfl) rfl) fun a hf => sA hf rfl rfl fun a hf => sN <| hK98 _ _ <| wp_block <| wS fun K101 hK101 => wR <| sM hf rfl rfl fun a hf => sV hf rfl (ex_neS (c := false) hf rfl rfl (bneF hd)) fun a hf => sM hf rfl rfl fun a hf => st_k hf rfl rfl fun a hf => st_k hf rfl rfl fun a hf => sV hf rfl (ex_pickF hf rfl rfl) fun a hf => sA hf rfl rfl fun a hf => sN <| hK101 _ _ <| cF hf rfl <| wS fun K102 hK102 => wR <| sV hf rfl (ex_fa (k := 3) (r := 3) hf rfl (by kernel_rfl) rfl) fun a hf => sV hf rfl (ex_loadB hf rfl (by kernel_rfl) hBT rfl) fun a hf => sV hf rfl (ex_len hf Try.underlying24 rfl) fun a hf => sV hf rfl (ex_eqI (c := false) hf rfl rfl (iEqF (by omega))) fun a hf => sA hf rfl rfl fun a hf => sN <| hK102 _ _ <| cF hf rfl <| wS fun K103 hK103 => wR <| sM hf rfl rfl fun a hf => sV hf rfl (ex_eqS (c := true) hf rfl rfl (beqT hd)) fun a hf => sA hf rfl rfl fun a hf => sN <| hK103 _ _ <| cT hf rfl ?_
  have s_hBT := hBT
  refine dl_start (fun x => x.cell? ⟨bt, 3, none⟩ = w100.cell? ⟨bt, 3, none⟩) 7 8 rfl (by kernel_rfl) (by kernel_rfl) ?_
  intro w104 hx105 hsel
  replace hB2 := hB2.c0 hx105
  replace hBL := hBL.c0 hx105
  replace hBT := hBT.c0 hx105
  replace hP := hP.chg hx105 all0
  replace hOK := own_gchg hOK hx105 nm0
  replace hKT := hKT.chg hx105 (fun b hb hlt => nm0)
  replace hE := hE.t0 hx105
  have hS0 := hBT.same s_hBT 3
  refine dV 0 rfl rfl hsel (by kernel_rfl) hf rfl (.inl hS0) (fun x => ex_fa (k := 3) (r := 3) hf rfl (by kernel_rfl) rfl) fun a hf => dL 1 rfl rfl hsel (by kernel_rfl) hf rfl hS0 (fun x hS => ex_load hf rfl (by kernel_rfl) (hS.trans ((s_hBT.cell 3).trans rfl))) fun a hf => dM 2 rfl rfl hsel (by kernel_rfl) hf rfl hS0 rfl fun a hf => ?_
  have plt106 := hP.lt
  refine dl_c 3 (by kernel_rfl) rfl hf rfl rfl rfl (by kernel_rfl) (functionL (n := n) hP hLs) ?_
  rintro _ w107 ⟨c106_0, c106_1, c106_2, c106_3, rfl, hT106, hP, hx106, hl106⟩
  refine ⟨_, rfl, fun a hf => ?_⟩
  obtain ⟨lo108, elo108⟩ : ∃ x, x = w104.heap.size := ⟨_, rfl⟩
  obtain ⟨hi108, ehi108⟩ : ∃ x, x = w107.heap.size := ⟨_, rfl⟩
  replace hT106 := hT106.within elo108 ehi108
  have hle108 : hi108 ≤ w107.heap.size := Nat.le_of_eq ehi108
  have ge_lo108 : w.heap.size ≤ lo108 := elo108 ▸ hE.size
  have tb_lo108_b2 : b2 < lo108 := elo108 ▸ hB2.lt
  have tb_lo108_lg : lg < lo108 := elo108 ▸ hBL.lt
  have tb_lo108_bt : bt < lo108 := elo108 ▸ hBT.lt
  have tb_lo108_p : p < lo108 := elo108 ▸ plt106
  have tb_lo108_kg : kg < lo108 := elo108 ▸ (own_glt hOK)
  clear elo108 ehi108
  clear plt106
  have on_hT106 := hT106.one
  replace hB2 := hB2.chg hx106 (nmc (Ne.symm ne_p_b2) nm0)
  replace hBL := hBL.chg hx106 (nmc (Ne.symm ne_p_lg) nm0)
  replace hBT := hBT.chg hx106 (nmc (Ne.symm ne_p_bt) nm0)
  replace hOK := own_gchg hOK hx106 (nmc (Ne.symm ne_p_kg) nm0)
  replace hKT := hKT.chg hx106 (fun b hb hlt => (nmc (by omega) nm0))
  replace hE := hE.trans hx106 (allc (.inl (by simp)) all0)
  clear hS0
  have hS0 := hBT.same s_hBT 3
  refine ⟨.inl hS0, ?_⟩
  obtain ⟨w109, b110, he, hB111, hx112, eb113, lb114⟩ := ef_bslice (P := Try.prog) (ps := [(0, (.tmp 59))]) (m := 1) (sz := 4) (z := zT) hf rfl Try.underlying24 (by kernel_rfl) (by kernel_rfl) rfl rfl (by kernel_rfl) rfl w107 24
  refine dl_e 4 (by kernel_rfl) rfl hf rfl rfl he fun a hf => ?_
  have ne_b2_b110 : b2 ≠ b110 := ne_new hB2.lt eb113
  have ne_lg_b110 : lg ≠ b110 := ne_new hBL.lt eb113
  have ne_bt_b110 : bt ≠ b110 := ne_new hBT.lt eb113
  have ne_p_b110 : p ≠ b110 := ne_new hP.lt eb113
  have ne_kg_b110 : kg ≠ b110 := ne_new (own_glt hOK) eb113
  have ta_hi108_b110 : hi108 ≤ b110 := eb113 ▸ hle108
  have ge_b110 := ge_new hE eb113
  have hH_b110 : H ≤ b110 := by have := hP.le; have := hP.lt; omega
  replace hB2 := hB2.c0 hx112
  replace hBL := hBL.c0 hx112
  replace hBT := hBT.c0 hx112
  replace hP := hP.chg hx112 all0
  replace hOK := own_gchg hOK hx112 nm0
  replace hKT := hKT.chg hx112 (fun b hb hlt => nm0)
  replace hT106 := hT106.chg hx112 (fun b hb _ => nm0)
  replace hle108 := nlt hle108 hx112.size
  replace hE := hE.t0 hx112
  clear eb113 lb114
  clear hS0
  have hS0 := hBT.same s_hBT 3
  refine ⟨.inl hS0, ?_⟩
  obtain ⟨g116, cap117, w115, he, hO118, hx119, hat120, hlt121⟩ := ef_append1 (P := Try.prog) (x := (.tmp 57)) (y := (.tmp 60)) (z := .agg zA) (sz := 4) (by_ := 72) hf rfl rfl Try.underlying24 (by kernel_rfl) rfl rfl hOK hB111 rfl on_hT106 rfl (by simp only [maxLen]; omega) (by omega) (hE.size) 24
  refine dl_e 5 (by kernel_rfl) rfl hf rfl rfl he fun a hf => ?_
  have ne_b2_g116 : b2 ≠ g116 := by have := hB2.lt; have := ne_b2_kg; omega
  have ne_lg_g116 : lg ≠ g116 := by have := hBL.lt; have := ne_lg_kg; omega
  have ne_bt_g116 : bt ≠ g116 := by have := hBT.lt; have := ne_bt_kg; omega
  have ne_b110_g116 : b110 ≠ g116 := by have := hB111.lt; have := (Ne.symm ne_kg_b110); omega
  have ne_p_g116 : p ≠ g116 := by have := hP.lt; have := ne_p_kg; omega
  have ta_hi108_g116 : hi108 ≤ g116 ∨ g116 < lo108 := by have := hle108; omega
  replace hKT : KidsAre (fun b => w.heap.size ≤ b ∧ b ≠ b2 ∧ b ≠ bt ∧ b ≠ lg ∧ b ≠ kg ∧ b ≠ g116) w109 _ _ := hKT.keepB (fun b hb hlt => by omega) (fun _ _ _ => rfl)
  have ge_g116 : w.heap.size ≤ g116 := own_gle hO118
  have hH_g116 : H ≤ g116 := by have := hP.le; have := hP.lt; omega
  replace hB2 := hB2.chg hx119 (nmc ne_b2_kg nm0)
  replace hBL := hBL.chg hx119 (nmc ne_lg_kg nm0)
  replace hBT := hBT.chg hx119 (nmc ne_bt_kg nm0)
  replace hB111 := hB111.chg hx119 (nmc (Ne.symm ne_kg_b110) nm0)
  replace hP := hP.chg hx119 (allc ⟨hH_kg, ne_p_kg⟩ all0)
  replace hKT := hKT.chg hx119 (fun b hb hlt => (nmc (by omega) nm0))
  replace hT106 := hT106.chg hx119 (fun b hb _ => (nmc (by omega) nm0))
  replace hle108 := nlt hle108 hx119.size
  replace hE := hE.trans hx119 (allc (.inr ge_kg) all0)
  clear hat120 hlt121
  clear hS0
  have hS0 := hBT.same s_hBT 3
  refine ⟨.inl hS0, ?_⟩
  refine dV 6 rfl rfl hsel (by kernel_rfl) hf rfl (.inl hS0) (fun x => ex_fa (k := 3) (r := 3) hf rfl (by kernel_rfl) rfl) fun a hf => ?_
  obtain ⟨w122, he, hB123, hx124⟩ := ef_store (P := Try.prog) (t := 24) (x := (.tmp 62)) (y := (.tmp 61)) hf rfl rfl (by kernel_rfl) rfl hBT (Nat.le_of_ble_eq_true rfl) 0
  refine dl_s 7 (by kernel_rfl) rfl hf rfl rfl he fun a hf => ?_
  replace hB2 := hB2.chg hx124 (nmc ne_b2_bt nm0)
  replace hBL := hBL.chg hx124 (nmc (Ne.symm ne_bt_lg) nm0)
  replace hB111 := hB111.chg hx124 (nmc (Ne.symm ne_bt_b110) nm0)
  replace hP := hP.chg hx124 (allc ⟨hH_bt, ne_p_bt⟩ all0)
  replace hKT := hKT.chg hx124 (fun b hb hlt => (nmc (by omega) nm0))
  replace hT106 := hT106.chg hx124 (fun b hb _ => (nmc (by omega) nm0))
  replace hle108 := nlt hle108 hx124.size
  replace hO118 := own_gchg hO118 hx124 (nmc (Ne.symm ne_bt_g116) nm0)
  replace hE := hE.trans hx124 (allc (.inr ge_bt) all0)
  clear hBT
  refine ⟨.inr (by kernel_rfl), ?_⟩
  refine dl_done (by kernel_rfl) ?_
  clear hS0 hsel
  have hl3 : (functionT n s').2.toks.length < s'.toks.length := functionT_lt' hd
  have e2 : ks.length + 1 = (ks ++ [(functionT n s').1]).length := by simp
  have hBT2 : Blk w122 bt 26 [.int .i64 1, strV (pName 2 2 (pWord wModule s).2).1, .slice (some ⟨lg, 0, none⟩) 3 3, .slice (some ⟨g116, 0, none⟩) (ks.length + 1) cap117] := hB123
  have hOK2 : w122.ownsRow w.heap.size 26 4 (.slice (some ⟨g116, 0, none⟩) (ks.length + 1) cap117) (ks.length + 1) _ := hO118
  rw [e2] at hBT2 hOK2
  exact ⟨_, hl3, ks ++ [(functionT n s').1], _, _, F', hf.pick ⟨rfl, rfl, rfl, trivial⟩, hP, hE, hB2, hBL, hBT2, (.inr ⟨g116, _, _, rfl, hOK2, KidsAre.snoc (hKT.keepB (fun b hb hlt => by omega) (fun _ _ _ => rfl)) (hT106.mono (fun b hb => by omega)), by omega, by omega, by omega⟩), rfl, by omega, (defsT_def ht h0 hm hd).symm.trans hR, by omega, by rw [← e2]; omega⟩
  have hty : (pNext s').text = wType := h0.resolve_left hd
  rcases id hKS with ⟨rfl, rfl⟩ | ⟨kg, kcap, cc, rfl, hOK, hKT, ne_b2_kg, ne_bt_kg, ne_lg_kg⟩
  refine wS fun K125 hK125 => wS fun K126 hK126 => wR <| sM hf rfl rfl fun a hf => sV hf rfl (ex_nil hf rfl) fun a hf => sV hf rfl (ex_fa (k := 0) (r := 0) hf rfl (by kernel_rfl) rfl) fun a hf => sV hf rfl (ex_load hf rfl (by kernel_rfl) hc0) fun a hf => sV hf rfl (ex_len hf Try.underlying42 rfl) fun a hf => sV hf rfl (ex_gtI (c := true) hf rfl rfl hpos) fun a hf => sN <| hK126 _ _ <| cT hf rfl <| wp_skip <| hK125 _ _ <| wp_block <| wS fun K127 hK127 => wR <| sM hf rfl rfl fun a hf => st_c hf rfl rfl rfl (by kernel_rfl) (pNextL hP) ?_
  rintro _ w129 ⟨rfl, hP, hx128⟩
  refine ⟨_, rfl, fun a hf => ?_⟩
  replace hB2 := hB2.c0 hx128
  replace hBL := hBL.c0 hx128
  replace hBT := hBT.c0 hx128
  replace hE := hE.t0 hx128
  refine sV hf rfl (ex_fd (k := 2) hf rfl (by kernel_rfl) rfl) fun a hf => sA hf rfl rfl fun a hf => sN <| hK127 _ _ <| wp_block <| wS fun K130 hK130 => wR <| sM hf rfl rfl fun a hf => sV hf rfl (ex_neS (c := true) hf rfl rfl (bneT hd)) fun a hf => sM hf rfl rfl fun a hf => sM hf rfl rfl fun a hf => sV hf rfl (ex_neS (c := false) hf rfl rfl (bneF hty)) fun a hf => sV hf rfl (ex_pickT hf rfl rfl) fun a hf => sA hf rfl rfl fun a hf => sN <| hK130 _ _ <| cF hf rfl <| wS fun K131 hK131 => wR <| sV hf rfl (ex_fa (k := 3) (r := 3) hf rfl (by kernel_rfl) rfl) fun a hf => sV hf rfl (ex_loadB hf rfl (by kernel_rfl) hBT rfl) fun a hf => sV hf rfl (ex_len hf Try.underlying24 rfl) fun a hf => sV hf rfl (ex_eqI (c := false) hf rfl rfl (by decide)) fun a hf => sA hf rfl rfl fun a hf => sN <| hK131 _ _ <| cF hf rfl <| wS fun K132 hK132 => wR <| sM hf rfl rfl fun a hf => sV hf rfl (ex_eqS (c := false) hf rfl rfl (beqF hd)) fun a hf => sA hf rfl rfl fun a hf => sN <| hK132 _ _ <| cF hf rfl ?_
  have s_hBT := hBT
  refine dl_start (fun x => x.cell? ⟨bt, 3, none⟩ = w129.cell? ⟨bt, 3, none⟩) 7 8 rfl (by kernel_rfl) (by kernel_rfl) ?_
  intro w133 hx134 hsel
  replace hB2 := hB2.c0 hx134
  replace hBL := hBL.c0 hx134
  replace hBT := hBT.c0 hx134
  replace hP := hP.chg hx134 all0
  replace hE := hE.t0 hx134
  have hS0 := hBT.same s_hBT 3
  refine dV 0 rfl rfl hsel (by kernel_rfl) hf rfl (.inl hS0) (fun x => ex_fa (k := 3) (r := 3) hf rfl (by kernel_rfl) rfl) fun a hf => dL 1 rfl rfl hsel (by kernel_rfl) hf rfl hS0 (fun x hS => ex_load hf rfl (by kernel_rfl) (hS.trans ((s_hBT.cell 3).trans rfl))) fun a hf => dM 2 rfl rfl hsel (by kernel_rfl) hf rfl hS0 rfl fun a hf => ?_
  have plt135 := hP.lt
  refine dl_c 3 (by kernel_rfl) rfl hf rfl rfl rfl (by kernel_rfl) (pAliasL (n := n) hP hLs) ?_
  rintro _ w136 ⟨c135_0, c135_1, c135_2, c135_3, rfl, hT135, hP, hx135, hl135⟩
  refine ⟨_, rfl, fun a hf => ?_⟩
  obtain ⟨lo137, elo137⟩ : ∃ x, x = w133.heap.size := ⟨_, rfl⟩
  obtain ⟨hi137, ehi137⟩ : ∃ x, x = w136.heap.size := ⟨_, rfl⟩
  replace hT135 := hT135.within elo137 ehi137
  have hle137 : hi137 ≤ w136.heap.size := Nat.le_of_eq ehi137
  have ge_lo137 : w.heap.size ≤ lo137 := elo137 ▸ hE.size
  have tb_lo137_b2 : b2 < lo137 := elo137 ▸ hB2.lt
  have tb_lo137_lg : lg < lo137 := elo137 ▸ hBL.lt
  have tb_lo137_bt : bt < lo137 := elo137 ▸ hBT.lt
  have tb_lo137_p : p < lo137 := elo137 ▸ plt135
  clear elo137 ehi137
  clear plt135
  have on_hT135 := hT135.one
  replace hB2 := hB2.chg hx135 (nmc (Ne.symm ne_p_b2) nm0)
  replace hBL := hBL.chg hx135 (nmc (Ne.symm ne_p_lg) nm0)
  replace hBT := hBT.chg hx135 (nmc (Ne.symm ne_p_bt) nm0)
  replace hE := hE.trans hx135 (allc (.inl (by simp)) all0)
  clear hS0
  have hS0 := hBT.same s_hBT 3
  refine ⟨.inl hS0, ?_⟩
  obtain ⟨w138, b139, he, hB140, hx141, eb142, lb143⟩ := ef_bslice (P := Try.prog) (ps := [(0, (.tmp 33))]) (m := 1) (sz := 4) (z := zT) hf rfl Try.underlying24 (by kernel_rfl) (by kernel_rfl) rfl rfl (by kernel_rfl) rfl w136 24
  refine dl_e 4 (by kernel_rfl) rfl hf rfl rfl he fun a hf => ?_
  have ne_b2_b139 : b2 ≠ b139 := ne_new hB2.lt eb142
  have ne_lg_b139 : lg ≠ b139 := ne_new hBL.lt eb142
  have ne_bt_b139 : bt ≠ b139 := ne_new hBT.lt eb142
  have ne_p_b139 : p ≠ b139 := ne_new hP.lt eb142
  have ta_hi137_b139 : hi137 ≤ b139 := eb142 ▸ hle137
  have ge_b139 := ge_new hE eb142
  have hH_b139 : H ≤ b139 := by have := hP.le; have := hP.lt; omega
  replace hB2 := hB2.c0 hx141
  replace hBL := hBL.c0 hx141
  replace hBT := hBT.c0 hx141
  replace hP := hP.chg hx141 all0
  replace hT135 := hT135.chg hx141 (fun b hb _ => nm0)
  replace hle137 := nlt hle137 hx141.size
  replace hE := hE.t0 hx141
  clear eb142 lb143
  clear hS0
  have hS0 := hBT.same s_hBT 3
  refine ⟨.inl hS0, ?_⟩
  obtain ⟨g145, cap146, w144, he, hO147, hx148, hat149, hlt150⟩ := ef_append0 (P := Try.prog) (x := (.tmp 31)) (y := (.tmp 34)) (z := .agg zA) (sz := 4) (by_ := 72) hf rfl rfl Try.underlying24 (by kernel_rfl) rfl rfl (World.ownsRow_nil w138 w.heap.size 26 4) hB140 rfl on_hT135 rfl (by simp only [maxLen]; omega) (by omega) (hE.size) 24
  refine dl_e 5 (by kernel_rfl) rfl hf rfl rfl he fun a hf => ?_
  have ne_b2_g145 : b2 ≠ g145 := by have := hB2.lt; omega
  have ne_lg_g145 : lg ≠ g145 := by have := hBL.lt; omega
  have ne_bt_g145 : bt ≠ g145 := by have := hBT.lt; omega
  have ne_b139_g145 : b139 ≠ g145 := by have := hB140.lt; omega
  have ne_p_g145 : p ≠ g145 := by have := hP.lt; omega
  have ta_hi137_g145 : hi137 ≤ g145 ∨ g145 < lo137 := by have := hle137; omega
  have ge_g145 : w.heap.size ≤ g145 := own_gle hO147
  have hH_g145 : H ≤ g145 := by have := hP.le; have := hP.lt; omega
  replace hB2 := hB2.c0 hx148
  replace hBL := hBL.c0 hx148
  replace hBT := hBT.c0 hx148
  replace hB140 := hB140.c0 hx148
  replace hP := hP.chg hx148 all0
  replace hT135 := hT135.chg hx148 (fun b hb _ => nm0)
  replace hle137 := nlt hle137 hx148.size
  replace hE := hE.t0 hx148
  clear hat149 hlt150
  clear hS0
  have hS0 := hBT.same s_hBT 3
  refine ⟨.inl hS0, ?_⟩
  refine dV 6 rfl rfl hsel (by kernel_rfl) hf rfl (.inl hS0) (fun x => ex_fa (k := 3) (r := 3) hf rfl (by kernel_rfl) rfl) fun a hf => ?_
  obtain ⟨w151, he, hB152, hx153⟩ := ef_store (P := Try.prog) (t := 24) (x := (.tmp 36)) (y := (.tmp 35)) hf rfl rfl (by kernel_rfl) rfl hBT (Nat.le_of_ble_eq_true rfl) 0
  refine dl_s 7 (by kernel_rfl) rfl hf rfl rfl he fun a hf => ?_
  replace hB2 := hB2.chg hx153 (nmc ne_b2_bt nm0)
  replace hBL := hBL.chg hx153 (nmc (Ne.symm ne_bt_lg) nm0)
  replace hB140 := hB140.chg hx153 (nmc (Ne.symm ne_bt_b139) nm0)
  replace hP := hP.chg hx153 (allc ⟨hH_bt, ne_p_bt⟩ all0)
  replace hT135 := hT135.chg hx153 (fun b hb _ => (nmc (by omega) nm0))
  replace hle137 := nlt hle137 hx153.size
  replace hO147 := own_gchg hO147 hx153 (nmc (Ne.symm ne_bt_g145) nm0)
  replace hE := hE.trans hx153 (allc (.inr ge_bt) all0)
  clear hBT
  refine ⟨.inr (by kernel_rfl), ?_⟩
  refine dl_done (by kernel_rfl) ?_
  clear hS0 hsel
  have hl3 : (aliasT n s').2.toks.length < s'.toks.length := aliasT_lt' hty
  have e2 : ([] : List Tree).length + 1 = (([] : List Tree) ++ [(aliasT n s').1]).length := by simp
  have hBT2 : Blk w151 bt 26 [.int .i64 1, strV (pName 2 2 (pWord wModule s).2).1, .slice (some ⟨lg, 0, none⟩) 3 3, .slice (some ⟨g145, 0, none⟩) (([] : List Tree).length + 1) cap146] := hB152
  have hOK2 : w151.ownsRow w.heap.size 26 4 (.slice (some ⟨g145, 0, none⟩) (([] : List Tree).length + 1) cap146) (([] : List Tree).length + 1) _ := hO147
  rw [e2] at hBT2 hOK2
  exact ⟨_, hl3, ([] : List Tree) ++ [(aliasT n s').1], _, _, F', hf.pick ⟨rfl, rfl, rfl, trivial⟩, hP, hE, hB2, hBL, hBT2, (.inr ⟨g145, _, _, rfl, hOK2, KidsAre.snoc kids_none (hT135.mono (fun b hb => by omega)), by omega, by omega, by omega⟩), rfl, by omega, (defsT_type ht h0 (by decide) hd).symm.trans hR, by omega, by rw [← e2]; decide⟩
  have ge_kg := own_gle hOK
  have ne_p_kg : p ≠ kg := by omega
  have hH_kg : H ≤ kg := by have := hP.le; omega
  by_cases hm : ks.length = 40
  refine wS fun K154 hK154 => wS fun K155 hK155 => wR <| sM hf rfl rfl fun a hf => sV hf rfl (ex_nil hf rfl) fun a hf => sV hf rfl (ex_fa (k := 0) (r := 0) hf rfl (by kernel_rfl) rfl) fun a hf => sV hf rfl (ex_load hf rfl (by kernel_rfl) hc0) fun a hf => sV hf rfl (ex_len hf Try.underlying42 rfl) fun a hf => sV hf rfl (ex_gtI (c := true) hf rfl rfl hpos) fun a hf => sN <| hK155 _ _ <| cT hf rfl <| wp_skip <| hK154 _ _ <| wp_block <| wS fun K156 hK156 => wR <| sM hf rfl rfl fun a hf => st_c hf rfl rfl rfl (by kernel_rfl) (pNextL hP) ?_
  rintro _ w158 ⟨rfl, hP, hx157⟩
  refine ⟨_, rfl, fun a hf => ?_⟩
  replace hB2 := hB2.c0 hx157
  replace hBL := hBL.c0 hx157
  replace hBT := hBT.c0 hx157
  replace hOK := own_gchg hOK hx157 nm0
  replace hKT := hKT.chg hx157 (fun b hb hlt => nm0)
  replace hE := hE.t0 hx157
  refine sV hf rfl (ex_fd (k := 2) hf rfl (by kernel_rfl) rfl) fun a hf => sA hf rfl rfl fun a hf => sN <| hK156 _ _ <| wp_block <| wS fun K159 hK159 => wR <| sM hf rfl rfl fun a hf => sV hf rfl (ex_neS (c := true) hf rfl rfl (bneT hd)) fun a hf => sM hf rfl rfl fun a hf => sM hf rfl rfl fun a hf => sV hf rfl (ex_neS (c := false) hf rfl rfl (bneF hty)) fun a hf => sV hf rfl (ex_pickT hf rfl rfl) fun a hf => sA hf rfl rfl fun a hf => sN <| hK159 _ _ <| cF hf rfl <| wS fun K160 hK160 => wR <| sV hf rfl (ex_fa (k := 3) (r := 3) hf rfl (by kernel_rfl) rfl) fun a hf => sV hf rfl (ex_loadB hf rfl (by kernel_rfl) hBT rfl) fun a hf => sV hf rfl (ex_len hf Try.underlying24 rfl) fun a hf => sV hf rfl (ex_eqI (c := true) hf rfl rfl (iEqT (by omega))) fun a hf => sA hf rfl rfl fun a hf => sN <| hK160 _ _ <| cT hf rfl <| wR <| sM hf rfl rfl fun a hf => st_c hf rfl rfl rfl (by kernel_rfl) (pFailL (e := 3) hP (by decide)) ?_
  rintro _ w162 ⟨rfl, hP, hx161⟩
  refine ⟨_, rfl, fun a hf => ?_⟩
  replace hB2 := hB2.chg hx161 (nmc (Ne.symm ne_p_b2) nm0)
  replace hBL := hBL.chg hx161 (nmc (Ne.symm ne_p_lg) nm0)
  replace hBT := hBT.chg hx161 (nmc (Ne.symm ne_p_bt) nm0)
  replace hOK := own_gchg hOK hx161 (nmc (Ne.symm ne_p_kg) nm0)
  replace hKT := hKT.chg hx161 (fun b hb hlt => (nmc (by omega) nm0))
  replace hE := hE.trans hx161 (allc (.inl (by simp)) all0)
  refine sN ?_
  have hl3 : (pFail 3 s').toks.length < s'.toks.length := by rw [pFail_toks]; exact hpos'
  exact ⟨_, hl3, ks, _, _, F', hf.pick ⟨rfl, rfl, rfl, trivial⟩, hP, hE, hB2, hBL, hBT, (.inr ⟨kg, kcap, cc, rfl, hOK, hKT, ne_b2_kg, ne_bt_kg, ne_lg_kg⟩), rfl, by omega, (defsT_long ht h0 hm).symm.trans hR, by omega, hk40⟩
  refine wS fun K163 hK163 => wS fun K164 hK164 => wR <| sM hf rfl rfl fun a hf => sV hf rfl (ex_nil hf rfl) fun a hf => sV hf rfl (ex_fa (k := 0) (r := 0) hf rfl (by kernel_rfl) rfl) fun a hf => sV hf rfl (ex_load hf rfl (by kernel_rfl) hc0) fun a hf => sV hf rfl (ex_len hf Try.underlying42 rfl) fun a hf => sV hf rfl (ex_gtI (c := true) hf rfl rfl hpos) fun a hf => sN <| hK164 _ _ <| cT hf rfl <| wp_skip <| hK163 _ _ <| wp_block <| wS fun K165 hK165 => wR <| sM hf rfl rfl fun a hf => st_c hf rfl rfl rfl (by kernel_rfl) (pNextL hP) ?_
  rintro _ w167 ⟨rfl, hP, hx166⟩
  refine ⟨_, rfl, fun a hf => ?_⟩
  replace hB2 := hB2.c0 hx166
  replace hBL := hBL.c0 hx166
  replace hBT := hBT.c0 hx166
  replace hOK := own_gchg hOK hx166 nm0
  replace hKT := hKT.chg hx166 (fun b hb hlt => nm0)
  replace hE := hE.t0 hx166
  refine sV hf rfl (ex_fd (k := 2) hf rfl (by kernel_rfl) rfl) fun a hf => sA hf rfl rfl fun a hf => sN <| hK165 _ _ <| wp_block <| wS fun K168 hK168 => wR <| sM hf rfl rfl fun a hf => sV hf rfl (ex_neS (c := true) hf rfl rfl (bneT hd)) fun a hf => sM hf rfl rfl fun a hf => sM hf rfl rfl fun a hf => sV hf rfl (ex_neS (c := false) hf rfl rfl (bneF hty)) fun a hf => sV hf rfl (ex_pickT hf rfl rfl) fun a hf => sA hf rfl rfl fun a hf => sN <| hK168 _ _ <| cF hf rfl <| wS fun K169 hK169 => wR <| sV hf rfl (ex_fa (k := 3) (r := 3) hf rfl (by kernel_rfl) rfl) fun a hf => sV hf rfl (ex_loadB hf rfl (by kernel_rfl) hBT rfl) fun a hf => sV hf rfl (ex_len hf Try.underlying24 rfl) fun a hf => sV hf rfl (ex_eqI (c := false) hf rfl rfl (iEqF (by omega))) fun a hf => sA hf rfl rfl fun a hf => sN <| hK169 _ _ <| cF hf rfl <| wS fun K170 hK170 => wR <| sM hf rfl rfl fun a hf => sV hf rfl (ex_eqS (c := false) hf rfl rfl (beqF hd)) fun a hf => sA hf rfl rfl fun a hf => sN <| hK170 _ _ <| cF hf rfl ?_
  have s_hBT := hBT
  refine dl_start (fun x => x.cell? ⟨bt, 3, none⟩ = w167.cell? ⟨bt, 3, none⟩) 7 8 rfl (by kernel_rfl) (by kernel_rfl) ?_
  intro w171 hx172 hsel
  replace hB2 := hB2.c0 hx172
  replace hBL := hBL.c0 hx172
  replace hBT := hBT.c0 hx172
  replace hP := hP.chg hx172 all0
  replace hOK := own_gchg hOK hx172 nm0
  replace hKT := hKT.chg hx172 (fun b hb hlt => nm0)
  replace hE := hE.t0 hx172
  have hS0 := hBT.same s_hBT 3
  refine dV 0 rfl rfl hsel (by kernel_rfl) hf rfl (.inl hS0) (fun x => ex_fa (k := 3) (r := 3) hf rfl (by kernel_rfl) rfl) fun a hf => dL 1 rfl rfl hsel (by kernel_rfl) hf rfl hS0 (fun x hS => ex_load hf rfl (by kernel_rfl) (hS.trans ((s_hBT.cell 3).trans rfl))) fun a hf => dM 2 rfl rfl hsel (by kernel_rfl) hf rfl hS0 rfl fun a hf => ?_
  have plt173 := hP.lt
  refine dl_c 3 (by kernel_rfl) rfl hf rfl rfl rfl (by kernel_rfl) (pAliasL (n := n) hP hLs) ?_
  rintro _ w174 ⟨c173_0, c173_1, c173_2, c173_3, rfl, hT173, hP, hx173, hl173⟩
  refine ⟨_, rfl, fun a hf => ?_⟩
  obtain ⟨lo175, elo175⟩ : ∃ x, x = w171.heap.size := ⟨_, rfl⟩
  obtain ⟨hi175, ehi175⟩ : ∃ x, x = w174.heap.size := ⟨_, rfl⟩
  replace hT173 := hT173.within elo175 ehi175
  have hle175 : hi175 ≤ w174.heap.size := Nat.le_of_eq ehi175
  have ge_lo175 : w.heap.size ≤ lo175 := elo175 ▸ hE.size
  have tb_lo175_b2 : b2 < lo175 := elo175 ▸ hB2.lt
  have tb_lo175_lg : lg < lo175 := elo175 ▸ hBL.lt
  have tb_lo175_bt : bt < lo175 := elo175 ▸ hBT.lt
  have tb_lo175_p : p < lo175 := elo175 ▸ plt173
  have tb_lo175_kg : kg < lo175 := elo175 ▸ (own_glt hOK)
  clear elo175 ehi175
  clear plt173
  have on_hT173 := hT173.one
  replace hB2 := hB2.chg hx173 (nmc (Ne.symm ne_p_b2) nm0)
  replace hBL := hBL.chg hx173 (nmc (Ne.symm ne_p_lg) nm0)
  replace hBT := hBT.chg hx173 (nmc (Ne.symm ne_p_bt) nm0)
  replace hOK := own_gchg hOK hx173 (nmc (Ne.symm ne_p_kg) nm0)
  replace hKT := hKT.chg hx173 (fun b hb hlt => (nmc (by omega) nm0))
  replace hE := hE.trans hx173 (allc (.inl (by simp)) all0)
  clear hS0
  have hS0 := hBT.same s_hBT 3
  refine ⟨.inl hS0, ?_⟩
  obtain ⟨w176, b177, he, hB178, hx179, eb180, lb181⟩ := ef_bslice (P := Try.prog) (ps := [(0, (.tmp 33))]) (m := 1) (sz := 4) (z := zT) hf rfl Try.underlying24 (by kernel_rfl) (by kernel_rfl) rfl rfl (by kernel_rfl) rfl w174 24
  refine dl_e 4 (by kernel_rfl) rfl hf rfl rfl he fun a hf => ?_
  have ne_b2_b177 : b2 ≠ b177 := ne_new hB2.lt eb180
  have ne_lg_b177 : lg ≠ b177 := ne_new hBL.lt eb180
  have ne_bt_b177 : bt ≠ b177 := ne_new hBT.lt eb180
  have ne_p_b177 : p ≠ b177 := ne_new hP.lt eb180
  have ne_kg_b177 : kg ≠ b177 := ne_new (own_glt hOK) eb180
  have ta_hi175_b177 : hi175 ≤ b177 := eb180 ▸ hle175
  have ge_b177 := ge_new hE eb180
  have hH_b177 : H ≤ b177 := by have := hP.le; have := hP.lt; omega
  replace hB2 := hB2.c0 hx179
  replace hBL := hBL.c0 hx179
  replace hBT := hBT.c0 hx179
  replace hP := hP.chg hx179 all0
  replace hOK := own_gchg hOK hx179 nm0
  replace hKT := hKT.chg hx179 (fun b hb hlt => nm0)
  replace hT173 := hT173.chg hx179 (fun b hb _ => nm0)
  replace hle175 := nlt hle175 hx179.size
  replace hE := hE.t0 hx179
  clear eb180 lb181
  clear hS0
  have hS0 := hBT.same s_hBT 3
  refine ⟨.inl hS0, ?_⟩
  obtain ⟨g183, cap184, w182, he, hO185, hx186, hat187, hlt188⟩ := ef_append1 (P := Try.prog) (x := (.tmp 31)) (y := (.tmp 34)) (z := .agg zA) (sz := 4) (by_ := 72) hf rfl rfl Try.underlying24 (by kernel_rfl) rfl rfl hOK hB178 rfl on_hT173 rfl (by simp only [maxLen]; omega) (by omega) (hE.size) 24
  refine dl_e 5 (by kernel_rfl) rfl hf rfl rfl he fun a hf => ?_
  have ne_b2_g183 : b2 ≠ g183 := by have := hB2.lt; have := ne_b2_kg; omega
  have ne_lg_g183 : lg ≠ g183 := by have := hBL.lt; have := ne_lg_kg; omega
  have ne_bt_g183 : bt ≠ g183 := by have := hBT.lt; have := ne_bt_kg; omega
  have ne_b177_g183 : b177 ≠ g183 := by have := hB178.lt; have := (Ne.symm ne_kg_b177); omega
  have ne_p_g183 : p ≠ g183 := by have := hP.lt; have := ne_p_kg; omega
  have ta_hi175_g183 : hi175 ≤ g183 ∨ g183 < lo175 := by have := hle175; omega
  replace hKT : KidsAre (fun b => w.heap.size ≤ b ∧ b ≠ b2 ∧ b ≠ bt ∧ b ≠ lg ∧ b ≠ kg ∧ b ≠ g183) w176 _ _ := hKT.keepB (fun b hb hlt => by omega) (fun _ _ _ => rfl)
  have ge_g183 : w.heap.size ≤ g183 := own_gle hO185
  have hH_g183 : H ≤ g183 := by have := hP.le; have := hP.lt; omega
  replace hB2 := hB2.chg hx186 (nmc ne_b2_kg nm0)
  replace hBL := hBL.chg hx186 (nmc ne_lg_kg nm0)
  replace hBT := hBT.chg hx186 (nmc ne_bt_kg nm0)
  replace hB178 := hB178.chg hx186 (nmc (Ne.symm ne_kg_b177) nm0)
  replace hP := hP.chg hx186 (allc ⟨hH_kg, ne_p_kg⟩ all0)
  replace hKT := hKT.chg hx186 (fun b hb hlt => (nmc (by omega) nm0))
  replace hT173 := hT173.chg hx186 (fun b hb _ => (nmc (by omega) nm0))
  replace hle175 := nlt hle175 hx186.size
  replace hE := hE.trans hx186 (allc (.inr ge_kg) all0)
  clear hat187 hlt188
  clear hS0
  have hS0 := hBT.same s_hBT 3
  refine ⟨.inl hS0, ?_⟩
  refine dV 6 rfl rfl hsel (by kernel_rfl) hf rfl (.inl hS0) (fun x => ex_fa (k := 3) (r := 3) hf rfl (by kernel_rfl) rfl) fun a hf => ?_
  obtain ⟨w189, he, hB190, hx191⟩ := ef_store (P := Try.prog) (t := 24) (x := (.tmp 36)) (y := (.tmp 35)) hf rfl rfl (by kernel_rfl) rfl hBT (Nat.le_of_ble_eq_true rfl) 0
  refine dl_s 7 (by kernel_rfl) rfl hf rfl rfl he fun a hf => ?_
  replace hB2 := hB2.chg hx191 (nmc ne_b2_bt nm0)
  replace hBL := hBL.chg hx191 (nmc (Ne.symm ne_bt_lg) nm0)
  replace hB178 := hB178.chg hx191 (nmc (Ne.symm ne_bt_b177) nm0)
  replace hP := hP.chg hx191 (allc ⟨hH_bt, ne_p_bt⟩ all0)
  replace hKT := hKT.chg hx191 (fun b hb hlt => (nmc (by omega) nm0))
  replace hT173 := hT173.chg hx191 (fun b hb _ => (nmc (by omega) nm0))
  replace hle175 := nlt hle175 hx191.size
  replace hO185 := own_gchg hO185 hx191 (nmc (Ne.symm ne_bt_g183) nm0)
  replace hE := hE.trans hx191 (allc (.inr ge_bt) all0)
  clear hBT
  refine ⟨.inr (by kernel_rfl), ?_⟩
  refine dl_done (by kernel_rfl) ?_
  clear hS0 hsel
  have hl3 : (aliasT n s').2.toks.length < s'.toks.length := aliasT_lt' hty
  have e2 : ks.length + 1 = (ks ++ [(aliasT n s').1]).length := by simp
  have hBT2 : Blk w189 bt 26 [.int .i64 1, strV (pName 2 2 (pWord wModule s).2).1, .slice (some ⟨lg, 0, none⟩) 3 3, .slice (some ⟨g183, 0, none⟩) (ks.length + 1) cap184] := hB190
  have hOK2 : w189.ownsRow w.heap.size 26 4 (.slice (some ⟨g183, 0, none⟩) (ks.length + 1) cap184) (ks.length + 1) _ := hO185
  rw [e2] at hBT2 hOK2
  exact ⟨_, hl3, ks ++ [(aliasT n s').1], _, _, F', hf.pick ⟨rfl, rfl, rfl, trivial⟩, hP, hE, hB2, hBL, hBT2, (.inr ⟨g183, _, _, rfl, hOK2, KidsAre.snoc (hKT.keepB (fun b hb hlt => by omega) (fun _ _ _ => rfl)) (hT173.mono (fun b hb => by omega)), by omega, by omega, by omega⟩), rfl, by omega, (defsT_type ht h0 hm hd).symm.trans hR, by omega, by rw [← e2]; omega⟩
end Go.Proofs.Ythpjpngfghcmcaa
namespace Go.Proofs.Ythpjpngfghcmcaa
open Go.RowKit Lx Sx
set_option maxRecDepth 100000
set_option maxHeartbeats 4000000
mutual
def tsize : Tree → Nat
  | .node _ _ _ ks => tsizes ks + 1
def tsizes : List Tree → Nat
  | [] => 0
  | t :: r => tsize t + tsizes r
end
theorem tsize_at : ∀ {ks : List Tree} {i : Nat} (h : i < ks.length), tsize ks[i] ≤ tsizes ks
  | t :: r, 0, _ => by simp only [tsizes, List.getElem_cons_zero]; omega
  | t :: r, i + 1, h => by have := tsize_at (ks := r) (i := i) (by simpa using h); simp only [tsizes, List.getElem_cons_succ]; omega
theorem depths_drop {ks : List Tree} {i : Nat} (h : i < ks.length) : depthsT (ks.drop i) = max (depthT ks[i]) (depthsT (ks.drop (i + 1))) := by rw [List.drop_eq_getElem_cons h, depthsT]
theorem depth_at : ∀ {ks : List Tree} {i : Nat} (h : i < ks.length), depthT ks[i] ≤ depthsT ks
  | t :: r, 0, _ => by simp only [depthsT, List.getElem_cons_zero]; omega
  | t :: r, i + 1, h => by have := depth_at (ks := r) (i := i) (by simpa using h); simp only [depthsT, List.getElem_cons_succ]; omega
theorem kid_cells {S : Nat → Prop} {w w' : World} {ks : List Tree} {cs : List Value} {kb ko i : Nat} (hK : KidsAre S w ks cs) (hlt : kb < w.heap.size) (hc : ∀ j, j < ks.length * 4 → w.cell? ⟨kb, ko + j, none⟩ = cs[j]?) (hi : i < ks.length) (he : Chg [] w w') :
    ∃ c0 c1 c2 c3, TreeIs S w' ks[i] [c0, c1, c2, c3] ∧ ∀ j, j < 4 → w'.cell? ⟨kb, ko + i * 4 + j, none⟩ = ([c0, c1, c2, c3] : List Value)[j]? := by
  obtain ⟨c0, c1, c2, c3, hT, h0, h1, h2, h3⟩ := hK.at_ hi
  refine ⟨c0, c1, c2, c3, hT.chg he (fun _ _ _ => nm0), fun j hj => ?_⟩
  rw [he.cell hlt nm0, Nat.add_assoc, hc _ (by omega)]
  rcases (by omega : j = 0 ∨ j = 1 ∨ j = 2 ∨ j = 3) with rfl | rfl | rfl | rfl
  · exact h0
  · exact h1
  · exact h2
  · exact h3
theorem max_cast {m l : Nat} : some (Value.int .i64 (max (m : Int) (l : Int))) = some (Value.int .i64 ((max m l : Nat) : Int)) := by congr 2; omega
def DepthOk (N : Nat) : Prop := ∀ (t : Tree) (S : Nat → Prop) (w : World) (c0 c1 c2 c3 : Value), tsize t ≤ N → depthT t ≤ 1000000000000000 → TreeIs S w t [c0, c1, c2, c3] → Calls Try.prog 28 [.agg #[c0, c1, c2, c3]].toArray w fun e w' => e = .returned (.int .i64 (depthT t : Nat)) ∧ Chg [] w w'
theorem depth_step {N : Nat} (ih : DepthOk N) : DepthOk (N + 1) := by
  intro t S w c0 c1 c2 c3 hN hd hT
  obtain ⟨k, tx, ls, ks⟩ := t
  simp only [TreeIs] at hT
  obtain ⟨A, m0, B, n, hc, _, _, hb1, hb2, _, cs, hkids, hrow⟩ := hT
  simp only [List.cons.injEq, and_true] at hc
  obtain ⟨rfl, rfl, rfl, rfl⟩ := hc
  simp only [tsize] at hN
  simp only [depthT] at hd
  have hcap : ks.length ≤ 9223372036854775807 := by simp only [maxLen] at hb2; omega
  refine enter_fr 20 Try.func28 rfl rfl rfl ?_
  intro a hf
  have hE := Chg.refl [] w
  refine wS fun K1 hK1 => ?_
  refine wR ?_
  obtain ⟨w2, b3, he, hB4, hx5, eb6, lb7⟩ := ef_box (P := Try.prog) (t := 26) (x := (.tmp 0)) hf rfl rfl w 0
  refine sV hf rfl he ?_
  clear he hf a; intro a hf
  have ge_b3 := ge_new hE eb6
  replace hE := hE.t0 hx5
  clear eb6 lb7
  refine sA hf rfl rfl ?_
  clear hf a; intro a hf
  refine sN ?_
  refine hK1 _ _ ?_
  refine wS fun K8 hK8 => ?_
  refine wR ?_
  refine sA hf rfl rfl ?_
  clear hf a; intro a hf
  refine sN ?_
  refine hK8 _ _ ?_
  refine wS fun K9 hK9 => ?_
  refine wS fun K10 hK10 => ?_
  refine wR ?_
  refine sV hf rfl (ex_fa (k := 3) (r := 3) hf rfl (by kernel_rfl) rfl) ?_
  clear hf a; intro a hf
  refine sV hf rfl (ex_loadB hf rfl (by kernel_rfl) hB4 rfl) ?_
  clear hf a; intro a hf
  refine sV hf rfl (ex_len hf Try.underlying24 rfl) ?_
  clear hf a; intro a hf
  refine sM hf rfl rfl ?_
  clear hf a; intro a hf
  refine sN ?_
  refine hK10 _ _ ?_
  refine wp_block ?_
  refine wp_loop_ghost (fun g a w' => ∃ i m, Fr a 20 (fm [(3, .int .i64 (m : Nat)), (7, .slice B ks.length n), (8, .int .i64 (ks.length : Nat)), (9, .int .i64 (i : Nat))]) ∧ Chg [] w w' ∧ i ≤ ks.length ∧ g = ks.length - i ∧ max m (depthsT (ks.drop i)) = depthsT ks) _ ⟨0, 0, hf.pick ⟨rfl, rfl, rfl, rfl, trivial⟩, hE, Nat.zero_le _, rfl, by simp⟩ ?_
  clear hf a; intro g0 a w' hI
  obtain ⟨i, m, hf, hE, hi, rfl, hm⟩ := hI
  by_cases hlt : i < ks.length
  obtain ⟨kb, ko, rfl, _, hkb, hcell⟩ := hrow.2 (by omega)
  obtain ⟨d0, d1, d2, d3, hT, hK⟩ := kid_cells hkids hkb hcell hlt hE
  have on_T := hT.one
  have hdd := depth_at hlt
  have htt := tsize_at hlt
  have hmm := depths_drop hlt
  have lt_kb := hE.lt hkb
  obtain ⟨hi0, ehi0⟩ : ∃ x, x = w'.heap.size := ⟨_, rfl⟩
  replace hT := hT.keepB (S' := fun b => b < hi0) (fun b _ hb => by omega) (fun _ _ _ => rfl)
  refine wS fun K11 hK11 => ?_
  refine wR ?_
  refine sV hf rfl (ex_ltI (c := true) hf rfl rfl (by simp; omega)) ?_
  clear hf a; intro a hf
  refine sN ?_
  refine hK11 _ _ ?_
  refine wS fun K12 hK12 => ?_
  refine cT hf rfl ?_
  refine wp_skip ?_
  refine hK12 _ _ ?_
  refine wS fun K13 hK13 => ?_
  refine wp_block ?_
  refine wS fun K14 hK14 => ?_
  refine wR ?_
  refine sV hf rfl (ex_index (sz := 4) (k := i) (r := ko + i * 4) hf Try.underlying24 (by kernel_rfl) rfl rfl rfl hlt rfl) ?_
  clear hf a; intro a hf
  refine sV hf rfl (ex_loadN (cs := [d0, d1, d2, d3]) (m := 4) hf rfl (by kernel_rfl) rfl hK) ?_
  clear hf a; intro a hf
  obtain ⟨w15, b16, he, hB17, hx18, eb19, lb20⟩ := eT a w' 0
  refine sV hf rfl he ?_
  clear he hf a; intro a hf
  have ge_b16 := ge_new hE eb19
  have tb_b16 : hi0 ≤ b16 := by omega
  replace hT := hT.chg hx18 (fun b hb hlt2 => nm0)
  replace hE := hE.t0 hx18
  clear eb19 lb20
  obtain ⟨w21, he, hB22, hx23⟩ := eN (.tmp 5) (.tmp 12) hf rfl rfl rfl on_T hB17 rfl 0
  refine st_s hf rfl rfl he ?_
  clear he hf a; intro a hf
  replace hT := hT.chg hx23 (fun b hb hlt2 => (nmc (by omega) nm0))
  replace hE := hE.trans hx23 (allc (.inr ge_b16) all0)
  clear hB17
  refine sN ?_
  refine hK14 _ _ ?_
  refine wR ?_
  refine sM hf rfl rfl ?_
  clear hf a; intro a hf
  refine sV hf rfl (ex_loadBN (m := 4) hf rfl (by kernel_rfl) hB22 rfl) ?_
  clear hf a; intro a hf
  refine st_c hf rfl rfl rfl (by kernel_rfl) (ih _ _ _ _ _ _ _ (by omega) (by omega) hT) ?_
  rintro _ w25 ⟨rfl, hx24⟩
  refine ⟨_, rfl, ?_⟩
  clear hf a; intro a hf
  replace hB22 := hB22.c0 hx24
  replace hT := hT.chg hx24 (fun b hb hlt2 => nm0)
  replace hE := hE.t0 hx24
  refine sV hf rfl (ex_maxI hf rfl rfl) ?_
  clear hf a; intro a hf
  refine sA hf rfl rfl ?_
  clear hf a; intro a hf
  refine sN ?_
  refine hK13 _ _ ?_
  refine wR ?_
  refine sV hf rfl (ex_addI hf rfl rfl rfl (by omega)) ?_
  clear hf a; intro a hf
  refine sM hf rfl rfl ?_
  clear hf a; intro a hf
  refine sN ?_
  exact ⟨_, (by omega : ks.length - (i + 1) < ks.length - i), i + 1, max m (depthT ks[i]), hf.pick ⟨max_cast, rfl, rfl, rfl, trivial⟩, hE, by omega, rfl, by rw [← hm, hmm]; omega⟩
  have hz : ks.drop i = [] := List.drop_of_length_le (by omega)
  rw [hz, depthsT] at hm
  refine wS fun K26 hK26 => ?_
  refine wR ?_
  refine sV hf rfl (ex_ltI (c := false) hf rfl rfl (by simp; omega)) ?_
  clear hf a; intro a hf
  refine sN ?_
  refine hK26 _ _ ?_
  refine wS fun K27 hK27 => ?_
  refine cF hf rfl ?_
  refine wp_exit ?_
  simp only [Exit.then, Exit.inBlock, ↓reduceIte, Nat.reduceEqDiff]
  refine hK9 _ _ ?_
  refine wS fun K28 hK28 => ?_
  refine wR ?_
  refine sM hf rfl rfl ?_
  clear hf a; intro a hf
  refine sV hf rfl (ex_addI hf rfl rfl rfl (by omega)) ?_
  clear hf a; intro a hf
  refine sA hf rfl rfl ?_
  clear hf a; intro a hf
  refine sN ?_
  refine hK28 _ _ ?_
  refine wp_ret ?_
  try simp only [Exit.then, Exit.inBlock]
  exact ret_of (rs := [.tmp 2]) hf rfl ⟨_, _, rfl, rfl, rfl⟩ ⟨by rw [show depthT (.node k tx ls ks) = m + 1 from by rw [depthT]; omega]; rfl, hE⟩
theorem depthL : ∀ N, DepthOk N
  | 0 => fun t _ _ _ _ _ _ hN => by cases t; simp only [tsize] at hN; omega
  | N + 1 => depth_step (depthL N)
end Go.Proofs.Ythpjpngfghcmcaa
namespace Go.Proofs.Ythpjpngfghcmcaa.Lx
theorem getD_drop (l : List UInt8) (k : Nat) : (l.drop k).getD 0 0 = l.getD k 0 := by simp [List.getD]
end Go.Proofs.Ythpjpngfghcmcaa.Lx
namespace Go.Proofs.Ythpjpngfghcmcaa
open Go.RowKit Lx
set_option maxRecDepth 100000
theorem leadT_le : ∀ (b : Bool) (l : List UInt8) (n : Nat), (leadT b l n).1 ≤ n + l.length
  | _, [], n => by simp [leadT]
  | false, c :: r, n => by
    have h1 := leadT_le false r (n + 1)
    have h2 := leadT_le true r (n + 1)
    unfold leadT
    simp only [List.length_cons]
    split
    · omega
    · split
      · omega
      · simp
  | true, c :: r, n => by
    have h1 := leadT_le false r (n + 1)
    have h2 := leadT_le true r (n + 1)
    unfold leadT
    simp only [List.length_cons]
    split
    · omega
    · split
      · simp
      · omega
end Go.Proofs.Ythpjpngfghcmcaa
namespace Go.Proofs.Ythpjpngfghcmcaa
open Go.RowKit Lx
set_option maxRecDepth 100000
def commentT : Bool → List UInt8 → Bool
  | c, [] => c
  | c, x :: r => commentT (if x.toNat = 10 then false else if x.toNat = 35 then true else c) r
theorem leadT_mono : ∀ (b : Bool) (l : List UInt8) (n m : Nat), leadT b l (n + m) = ((leadT b l n).1 + m, (leadT b l n).2.map (· + m))
  | b, [], n, m => by cases b <;> simp [leadT]
  | false, c :: r, n, m => by
    have h1 := leadT_mono false r (n + 1) m
    have h2 := leadT_mono true r (n + 1) m
    unfold leadT
    split
    · rw [← h1]; congr 1; omega
    · split
      · rw [← h2]; congr 1; omega
      · simp
  | true, c :: r, n, m => by
    have h1 := leadT_mono false r (n + 1) m
    have h2 := leadT_mono true r (n + 1) m
    unfold leadT
    split
    · rw [← h1]; congr 1; omega
    · split
      · simp
      · rw [← h2]; congr 1; omega
def wholeB (c : Bool) (l : List UInt8) : Bool := (leadT c l 0).2.isNone && (leadT c l 0).1 == l.length
theorem wholeB_step {c d : Bool} {x : UInt8} {r : List UInt8} (h : leadT c (x :: r) 0 = leadT d r 1) : wholeB c (x :: r) = wholeB d r := by
  unfold wholeB
  rw [h, show (1 : Nat) = 0 + 1 from rfl, leadT_mono]
  simp
theorem triviaT_eq : ∀ (l : List UInt8) (c fin : Bool), triviaT c l fin = (wholeB c l && (!commentT c l || fin))
  | [], c, fin => by cases c <;> cases fin <;> rfl
  | x :: r, c, fin => by
    have ih := triviaT_eq r
    unfold triviaT commentT
    cases c with
    | true =>
      by_cases ha : allowedB x = false
      · have h10 : ¬ x.toNat = 10 := fun h => by simp [allowedB, whiteB, h] at ha
        have : wholeB true (x :: r) = false := by simp [wholeB, leadT, h10, ha]
        rw [if_pos ha, this]; rfl
      · have ha' : allowedB x = true := by simpa using ha
        rw [if_neg ha, if_pos rfl, ih]
        by_cases h10 : x.toNat = 10
        · rw [wholeB_step (d := false) (by simp [leadT, h10])]; simp [h10]
        · have hb : (x.toNat == 10) = false := by simpa using h10
          rw [wholeB_step (d := true) (by simp [leadT, h10, ha']), hb]; simp [h10]
    | false =>
      by_cases ha : allowedB x = false
      · have hw : whiteB x = false := by cases h : whiteB x <;> simp_all [allowedB]
        have h35 : ¬ x.toNat = 35 := fun h => by simp [allowedB, printedB, h] at ha
        have : wholeB false (x :: r) = false := by simp [wholeB, leadT, hw, h35]
        rw [if_pos ha, this]; rfl
      · rw [if_neg ha, if_neg (by simp)]
        by_cases h35 : x.toNat = 35
        · have hw : whiteB x = false := by simp [whiteB, h35]
          rw [if_pos h35, ih, wholeB_step (d := true) (by simp [leadT, h35, hw])]; simp [h35]
        · rw [if_neg h35]
          by_cases hw : whiteB x = false
          · have : wholeB false (x :: r) = false := by simp [wholeB, leadT, hw, h35]
            rw [if_pos hw, this]; rfl
          · have hw' : whiteB x = true := by simpa using hw
            rw [if_neg hw, ih, wholeB_step (d := false) (by simp [leadT, hw'])]
            by_cases h10 : x.toNat = 10 <;> simp [h10, h35]
theorem triviaT_step {l : List UInt8} {k : Nat} {x : UInt8} {c fin : Bool} (h : k < l.length) (hc : l[k] = x) : triviaT c (l.drop k) fin =
    if allowedB x = false then false else if c = true then triviaT (!(x.toNat == 10)) (l.drop (k + 1)) fin else if x.toNat = 35 then triviaT true (l.drop (k + 1)) fin else if whiteB x = false then false else triviaT c (l.drop (k + 1)) fin := by
  rw [List.drop_eq_getElem_cons h, hc]; rfl
theorem triviaT_end {l : List UInt8} {k : Nat} {c fin : Bool} (h : l.length ≤ k) : triviaT c (l.drop k) fin = (!c || fin) := by
  rw [List.drop_of_length_le h]; rfl
theorem neq10 (x : UInt8) : ((x.toNat : Int) != 10) = !(x.toNat == 10) := by rw [Bool.eq_iff_iff]; simp; omega
end Go.Proofs.Ythpjpngfghcmcaa
namespace Go.Proofs.Ythpjpngfghcmcaa
open Lx
theorem spanN_take (p : UInt8 → Bool) : ∀ (l : List UInt8) (m : Nat), spanN p l ≤ m → spanN p (l.take m) = spanN p l
  | [], m, _ => by simp [spanN]
  | c :: r, 0, h => by
    have : spanN p (c :: r) = 0 := by omega
    rw [this]; simp [spanN]
  | c :: r, m + 1, h => by
    unfold spanN at *
    simp only [List.take_succ_cons, List.takeWhile_cons] at *
    split at h
    · rename_i hp
      simp only [hp, if_true, List.length_cons] at *
      have := spanN_take p r m (by unfold spanN; omega)
      unfold spanN at this
      omega
    · rename_i hp; simp [hp]
theorem getD_take (l : List UInt8) (m k : Nat) (h : k < m) : (l.take m).getD k 0 = l.getD k 0 := by
  simp only [List.getD]
  rw [List.getElem?_take_of_lt h]
theorem wordB_letter {c : UInt8} (h : letterB c = true) : wordB c = true := by simp [wordB, h]
theorem wordCond_parts {l : List UInt8} (h : wordCond l = true) : upperB (l.getD 0 0) = true ∧ resvB (l.take (spanN wordB l)) = false ∧ spanN wordB l + 1 < l.length ∧ (l.getD (spanN wordB l) 0).toNat = 46 ∧ letterB (l.getD (spanN wordB l + 1) 0) = true := by
  unfold wordCond at h
  simp only [Bool.and_eq_true, decide_eq_true_eq, beq_iff_eq, Bool.not_eq_true'] at h
  obtain ⟨⟨⟨⟨h1, h2⟩, h3⟩, h4⟩, h5⟩ := h
  exact ⟨h1, h2, h3, h4, h5⟩
theorem wordCond_mk {l : List UInt8} {n : Nat} (hn : spanN wordB l = n) (h1 : upperB (l.getD 0 0) = true) (h2 : resvB (l.take n) = false) (h3 : n + 1 < l.length) (h4 : (l.getD n 0).toNat = 46) (h5 : letterB (l.getD (n + 1) 0) = true) : wordCond l = true := by
  subst hn
  unfold wordCond
  rw [h1, h2, h5]
  simp [h3, h4, -List.getD_eq_getElem?_getD]
theorem wordT_take {l : List UInt8} {k m : Nat} (h0 : 0 < l.length) (hc : letterB (l.getD 0 0) = true) (h : wordT l = (k, m, 0)) : wordT (l.take m) = (k, m, 0) := by
  have hpos : 0 < spanN wordB l := spanN_pos h0 (wordB_letter hc)
  have hle := spanN_le wordB l
  unfold wordT at h
  by_cases hcond : wordCond l = true
  · rw [if_pos hcond] at h
    obtain ⟨c1, c2, c3, c4, c5⟩ := wordCond_parts hcond
    generalize hn : spanN wordB l = n at *
    generalize hm' : spanN wordB (l.drop (n + 1)) = m' at *
    have hm0 : 0 < m' := by rw [← hm']; exact spanN_pos (by simp; omega) (by rw [getD_drop]; exact wordB_letter c5)
    have hm : m = n + 1 + m' := by
      unfold wordYesT at h
      split at h
      · simp at h
      · split at h
        · simp at h
        · split at h <;> (simp at h; omega)
    have hml : n + 1 + m' ≤ l.length := by have := spanN_le wordB (l.drop (n + 1)); rw [hm'] at this; simp at this; omega
    have e1 : spanN wordB (l.take m) = n := by rw [spanN_take _ _ _ (by omega), hn]
    have e2 : (l.take m).take n = l.take n := by rw [List.take_take]; congr 1; omega
    have hc' : wordCond (l.take m) = true := wordCond_mk e1 (by rw [getD_take _ _ _ (by omega)]; exact c1) (by rw [e2]; exact c2) (by simp; omega) (by rw [getD_take _ _ _ (by omega)]; exact c4) (by rw [getD_take _ _ _ (by omega)]; exact c5)
    have e3 : spanN wordB ((l.take m).drop (n + 1)) = m' := by rw [List.drop_take, spanN_take _ _ _ (by omega), hm']
    rw [wordT_yes e1 e3 hc', ← h]
    unfold wordYesT
    rw [List.drop_take, List.take_take, getD_take _ _ _ (by omega)]
    have : min m' (m - (n + 1)) = m' := by omega
    rw [this]
  · rw [if_neg hcond] at h
    generalize hn : spanN wordB l = n at *
    have hm : m = n := by
      unfold wordNoT at h
      split at h
      · simp at h
      · split at h
        · simp at h; omega
        · split at h <;> (simp at h; omega)
    subst hm
    have e1 : spanN wordB (l.take m) = m := by rw [spanN_take _ _ _ (by omega), hn]
    have hc' : wordCond (l.take m) = false := cond_l e1 (by simp; omega)
    rw [wordT_no e1 hc', ← h]
    unfold wordNoT
    rw [List.take_take, getD_take _ _ _ (by omega), Nat.min_self]
theorem quotedT_take : ∀ (r : List UInt8) (i m : Nat), quotedT r i = (i + m, 0) → quotedT (r.take m) i = (i + m, 0)
  | [], i, m, h => by simp [quotedT] at h
  | c :: r, i, 0, h => by
    have := (quotedT_len (c :: r) i).2 (by rw [h])
    rw [h] at this
    simp at this
  | c :: r, i, m + 1, h => by
    simp only [List.take_succ_cons]
    unfold quotedT at h ⊢
    split
    · rename_i ha; rw [if_pos ha] at h; simp at h
    · rename_i ha; rw [if_neg ha] at h
      split
      · rename_i hq; rw [if_pos hq] at h; simpa using h
      · rename_i hq; rw [if_neg hq] at h
        split
        · rename_i hb; rw [if_pos hb] at h; simp at h
        · rename_i hb; rw [if_neg hb] at h
          have := quotedT_take r (i + 1) m (by rw [h]; congr 1; omega)
          rw [this]; congr 1; omega
theorem numberT_take {l : List UInt8} {m : Nat} (h0 : 0 < spanN digitB l) (h : numberT l = (m, 0)) : numberT (l.take m) = (m, 0) := by
  have hn : m = spanN digitB l := by
    unfold numberT at h
    simp only at h
    split at h
    · simp at h
    · split at h
      · simp at h
      · simpa using h.symm
  subst hn
  have e1 : spanN digitB (l.take (spanN digitB l)) = spanN digitB l := spanN_take _ _ _ (Nat.le_refl _)
  unfold numberT at h ⊢
  rw [e1, getD_take _ _ _ h0]
  exact h
theorem tokenT_take {l : List UInt8} {k m : Nat} (h0 : 0 < l.length) (h : tokenT l = (k, m, 0)) : tokenT (l.take m) = (k, m, 0) := by
  have hlen := tokenT_len h0
  rw [h] at hlen
  simp only at hlen
  have hm0 : 0 < m := hlen.2 trivial
  have hg : (l.take m).getD 0 0 = l.getD 0 0 := getD_take _ _ _ hm0
  have ht0 : 0 < (l.take m).length := by simp; omega
  have hpos : 0 < l.length := h0
  unfold tokenT at h ⊢
  simp only at h ⊢
  rw [hg]
  by_cases ha : allowedB (l.getD 0 0) = false
  · rw [if_pos ha] at h; simp at h
  rw [if_neg ha] at h ⊢
  by_cases hl : letterB (l.getD 0 0) = true
  · rw [if_pos hl] at h ⊢; exact wordT_take h0 hl h
  rw [if_neg hl] at h ⊢
  by_cases hd : digitB (l.getD 0 0) = true
  · rw [if_pos hd] at h ⊢
    simp only [Prod.mk.injEq] at h
    rw [numberT_take (m := m) (spanN_pos h0 hd) h.2, h.1]
  rw [if_neg hd] at h ⊢
  by_cases hq : (l.getD 0 0).toNat = 34
  · rw [if_pos hq] at h ⊢
    simp only [Prod.mk.injEq] at h
    have hr : quotedT l.tail 1 = (m, 0) := h.2
    have e : (l.take m).tail = l.tail.take (m - 1) := by
      cases l with
      | nil => simp
      | cons c r => obtain ⟨m', rfl⟩ : ∃ m', m = m' + 1 := ⟨m - 1, by omega⟩; simp
    rw [e, quotedT_take l.tail 1 (m - 1) (by rw [hr]; congr 1; omega), h.1]
    congr 2; omega
  rw [if_neg hq] at h ⊢
  by_cases he : (l.getD 0 0).toNat = 61 ∧ 1 < l.length ∧ (l.getD 1 0).toNat = 61
  · rw [if_pos he] at h
    simp only [Prod.mk.injEq] at h
    obtain ⟨rfl, rfl, _⟩ := h
    rw [if_pos ⟨he.1, by simp; omega, by rw [getD_take _ _ _ (by omega)]; exact he.2.2⟩]
  · rw [if_neg he] at h
    by_cases hs : signs.contains (l.getD 0 0) = true
    · rw [if_pos hs] at h
      simp only [Prod.mk.injEq] at h
      obtain ⟨rfl, rfl, _⟩ := h
      rw [if_neg (by intro hh; have := hh.2.1; simp at this; omega), if_pos hs]
    · rw [if_neg hs] at h; simp at h
theorem wordT_kind {l : List UInt8} {k m : Nat} (h : wordT l = (k, m, 0)) : k ≠ 0 := by
  unfold wordT at h
  split at h
  · unfold wordYesT at h
    split at h
    · simp at h
    · split at h
      · simp at h
      · split at h <;> (simp at h; omega)
  · unfold wordNoT at h
    split at h
    · simp at h
    · split at h
      · simp at h; omega
      · split at h <;> (simp at h; omega)
theorem tokenT_kind {l : List UInt8} {k m : Nat} (h : tokenT l = (k, m, 0)) : k ≠ 0 := by
  unfold tokenT at h
  simp only at h
  split at h
  · simp at h
  split at h
  · exact wordT_kind h
  split at h
  · simp at h; omega
  split at h
  · simp at h; omega
  split at h
  · simp at h; omega
  split at h
  · simp at h; omega
  · simp at h
theorem class_of_token {l : List UInt8} {k m : Nat} (h0 : 0 < l.length) (h : tokenT l = (k, m, 0)) : classT (l.take m) = k := by
  have hlen := tokenT_len h0
  rw [h] at hlen
  simp only at hlen
  have hm0 : 0 < m := hlen.2 trivial
  have ht := tokenT_take h0 h
  have hne : l.take m ≠ [] := by intro e; have := congrArg List.length e; simp only [List.length_take, List.length_nil] at this; omega
  unfold classT
  rw [if_neg hne, ht, if_pos ⟨rfl, by simp; omega⟩]
theorem lead_take : ∀ (l : List UInt8) (c : Bool) (n : Nat), leadT c l 0 = (n, none) → n < l.length → triviaT c (l.take n) false = true
  | [], c, n, h, hn => by simp at hn
  | x :: r, c, n, h, hn => by
    have ih := lead_take r
    have step : ∀ d : Bool, leadT c (x :: r) 0 = leadT d r 1 → ∃ n', n = n' + 1 ∧ leadT d r 0 = (n', none) ∧ n' < r.length := fun d hd => by
      rw [hd, show (1 : Nat) = 0 + 1 from rfl, leadT_mono] at h
      simp only [Prod.mk.injEq, Option.map_eq_none_iff] at h
      refine ⟨(leadT d r 0).1, h.1.symm, ?_, ?_⟩
      · rw [← h.2]
      · simp only [List.length_cons] at hn; omega
    cases c with
    | false =>
      by_cases hw : whiteB x = true
      · obtain ⟨n', rfl, h1, h2⟩ := step false (by simp [leadT, hw])
        have ha : allowedB x = true := by simp [allowedB, hw]
        have h35 : ¬ x.toNat = 35 := fun e => by simp [whiteB, e] at hw
        simp only [List.take_succ_cons, triviaT]
        rw [if_neg (by simp [ha]), if_neg (by simp), if_neg h35, if_neg (by simp [hw])]
        exact ih false n' h1 h2
      · by_cases h35 : x.toNat = 35
        · obtain ⟨n', rfl, h1, h2⟩ := step true (by simp [leadT, hw, h35])
          have ha : allowedB x = true := by simp [allowedB, printedB, h35]
          simp only [List.take_succ_cons, triviaT]
          rw [if_neg (by simp [ha]), if_neg (by simp), if_pos h35]
          exact ih true n' h1 h2
        · have : leadT false (x :: r) 0 = (0, none) := by simp [leadT, hw, h35]
          rw [this] at h
          simp only [Prod.mk.injEq] at h
          rw [← h.1]; rfl
    | true =>
      by_cases h10 : x.toNat = 10
      · obtain ⟨n', rfl, h1, h2⟩ := step false (by simp [leadT, h10])
        have ha : allowedB x = true := by simp [allowedB, whiteB, h10]
        simp only [List.take_succ_cons, triviaT]
        rw [if_neg (by simp [ha]), if_pos trivial]
        simp only [h10, beq_self_eq_true, Bool.not_true]
        exact ih false n' h1 h2
      · by_cases ha : allowedB x = true
        · obtain ⟨n', rfl, h1, h2⟩ := step true (by simp [leadT, h10, ha])
          simp only [List.take_succ_cons, triviaT]
          rw [if_neg (by simp [ha]), if_pos trivial]
          have : (!(x.toNat == 10)) = true := by simp [h10]
          rw [this]
          exact ih true n' h1 h2
        · have : leadT true (x :: r) 0 = (0, some 0) := by simp [leadT, h10, ha]
          rw [this] at h
          simp at h
def GoodTok (t : Tok) : Prop := (classT t.text : Int) = t.kind ∧ t.kind ≠ 0 ∧ triviaT false t.lead false = true
theorem scanT_keeps : ∀ (f : Nat) (l : List UInt8) (pos : Nat) (acc : List Tok), l.length < f → (scanT f l pos acc).err = 0 →
    ∃ ts, (scanT f l pos acc).toks = acc ++ ts ∧ joinT ts (scanT f l pos acc).tail = l ∧ (∀ t ∈ ts, GoodTok t) ∧ triviaT false (scanT f l pos acc).tail true = true ∧ ts.length ≤ l.length
  | 0, l, pos, acc, hf, _ => by omega
  | f + 1, l, pos, acc, hf, he => by
    obtain ⟨n, b, hLd⟩ : ∃ n b, leadT false l 0 = (n, b) := ⟨_, _, rfl⟩
    cases b with
    | some q => rw [scanT_bad hLd] at he; simp at he
    | none =>
      by_cases hn : n = l.length
      · rw [scanT_end hLd hn] at he ⊢
        refine ⟨[], by simp, rfl, by simp, ?_, by simp⟩
        rw [triviaT_eq]
        simp [wholeB, hLd, hn]
      · have hnl : n < l.length := by have h := leadT_le false l 0; rw [hLd] at h; simp at h; omega
        have hd0 : 0 < (l.drop n).length := by simp; omega
        obtain ⟨k, m, e, hT⟩ : ∃ k m e, tokenT (l.drop n) = (k, m, e) := ⟨_, _, _, rfl⟩
        by_cases he0 : e = 0
        · subst he0
          have hlen := tokenT_len hd0
          rw [hT] at hlen
          simp only [List.length_drop] at hlen
          have hm0 := hlen.2 trivial
          rw [scanT_tok hLd hn hT] at he ⊢
          obtain ⟨ts, h1, h2, h3, h4, h5⟩ := scanT_keeps f (l.drop (n + m)) (pos + n + m) (acc ++ [⟨k, l.take n, (l.drop n).take m⟩]) (by simp; omega) he
          refine ⟨⟨k, l.take n, (l.drop n).take m⟩ :: ts, by rw [h1]; simp, ?_, ?_, h4, by simp at h5 ⊢; omega⟩
          · simp only [joinT]
            rw [h2, ← List.drop_drop, List.append_assoc, List.take_append_drop, List.take_append_drop]
          · intro t ht
            rcases List.mem_cons.1 ht with rfl | ht
            · refine ⟨?_, ?_, lead_take l false n hLd hnl⟩
              · simp only; rw [class_of_token hd0 hT]
              · simp only; have := tokenT_kind hT; omega
            · exact h3 t ht
        · rw [scanT_err hLd hn hT he0] at he; simp only at he; omega
theorem scan_keeps {l : List UInt8} (h : (scan l).err = 0) : joinT (scan l).toks (scan l).tail = l ∧ (∀ t ∈ (scan l).toks, GoodTok t) ∧ triviaT false (scan l).tail true = true ∧ (scan l).toks.length ≤ l.length ∧ l.length ≤ 4096 := by
  unfold scan at h ⊢
  by_cases h4 : 4096 < l.length
  · rw [if_pos h4] at h; simp at h
  · rw [if_neg h4] at h ⊢
    obtain ⟨ts, h1, h2, h3, h4', h5⟩ := scanT_keeps _ l 0 [] (Nat.lt_succ_self _) h
    rw [List.nil_append] at h1
    rw [h1]
    exact ⟨h2, h3, h4', h5, by omega⟩
end Go.Proofs.Ythpjpngfghcmcaa
namespace Go.Proofs.Ythpjpngfghcmcaa
open Go.RowKit Lx Sx
set_option maxRecDepth 100000
set_option maxHeartbeats 4000000
theorem sumLen_join : ∀ (l : List Tok) (tail : List UInt8), sumLen l ≤ (joinT l tail).length
  | [], _ => Nat.zero_le _
  | t :: r, tail => by have := sumLen_join r tail; simp only [sumLen, joinT, List.length_append]; omega
theorem start_ok {l : List UInt8} (h : (scan l).err = 0) : PsOk (startT (scan l).toks l.length) ∧ (scan l).toks.length ≤ 4096 ∧ l.length ≤ 4096 := by
  obtain ⟨h1, _, _, h4, h5⟩ := scan_keeps h
  have h6 := sumLen_join (scan l).toks (scan l).tail
  rw [h1] at h6
  refine ⟨⟨?_, ?_, ?_, ?_⟩, by omega, h5⟩
  · unfold startT
    cases hz : (scan l).toks with
    | nil => simp only [restLen]; omega
    | cons t r => rw [hz] at h6; simp only [restLen, sumLen] at h6 ⊢; omega
  · simp only [startT]; omega
  · simp only [startT]; omega
  · simp only [startT]; omega
theorem depths_append : ∀ (a b : List Tree), depthsT (a ++ b) = max (depthsT a) (depthsT b)
  | [], b => by simp [depthsT]
  | t :: r, b => by rw [List.cons_append, depthsT, depthsT, depths_append r b]; omega
theorem typT_depth : ∀ (n : Nat) (s : PS), depthT (typT n s).1 ≤ n + 1
  | 0, s => by simp [typT, zeroTree, depthT, depthsT]
  | n + 1, s => by
    have ih := typT_depth n (pTake s)
    rw [typT]
    split
    · simp [depthT, depthsT]
    split
    · simp [depthT, depthsT]
    split
    · simp [depthT, depthsT]
    split
    · simp only [depthT, depthsT]; omega
    · simp [depthT, depthsT]
section
variable {M B : Nat}
theorem commaF_depth {item : PS → Tree × PS} (h : ∀ s, s.toks.length ≤ M → depthT (item s).1 ≤ B) (hl : ∀ s, (item s).2.toks.length ≤ s.toks.length) {most : Nat} {beg : Tok → Bool} : ∀ (m : Nat) (cs : List (List UInt8)) (ks : List Tree) (s : PS), s.toks.length ≤ M → depthsT ks ≤ B → depthsT (commaF item most beg m cs ks s).2.1 ≤ B
  | 0, _, _, _, _, hk => hk
  | m + 1, cs, ks, s, hs, hk => by
    rw [commaF]
    split
    · simp only
      have h1 := pTake_len s
      have h2 := pFail_len 3 (pTake s)
      have h3 : (if ks.length = most ∧ beg (pNext (pTake s)) = true then pFail 3 (pTake s) else pTake s).toks.length ≤ M := by split <;> omega
      refine commaF_depth h hl m _ _ _ (Nat.le_trans (hl _) h3) ?_
      rw [depths_append, depthsT, depthsT]
      have := h _ h3
      omega
    · exact hk
theorem rowF_depth {item : PS → Tree × PS} (h : ∀ s, s.toks.length ≤ M → depthT (item s).1 ≤ B) (hl : ∀ s, (item s).2.toks.length ≤ s.toks.length) {most : Nat} {beg : Tok → Bool} (s : PS) (hs : s.toks.length ≤ M) : depthsT (rowF item most beg s).2.1 ≤ B := by
  unfold rowF
  split
  · exact Nat.zero_le _
  · refine commaF_depth h hl _ _ _ _ (Nat.le_trans (hl s) hs) ?_
    rw [depthsT, depthsT]; have := h s hs; omega
theorem unitF_depth {E : PS → Tree × PS} (h : ∀ s, s.toks.length ≤ M → depthT (E s).1 ≤ B) (hl : ∀ s, (E s).2.toks.length ≤ s.toks.length) (s : PS) (hs : s.toks.length ≤ M) : depthT (unitF E s).1 ≤ B + 2 := by
  have ha : ∀ s, s.toks.length ≤ M → depthT (argF E s).1 ≤ B + 1 := fun s hs => by simp only [argF, depthT, depthsT]; have := h s hs; omega
  have h1 := pTake_len s
  unfold unitF
  simp only
  split
  · unfold useF
    split
    · simp [depthT, depthsT]
    · simp only [depthT]; have h2 := pWord_len [40] (pTake s); have := rowF_depth (most := 8) (beg := beginsB) ha (fun s => hl s) (pWord [40] (pTake s)).2 (by omega); omega
  split
  · simp [depthT, depthsT]
  split
  · simp [depthT, depthsT]
  split
  · simp [depthT, depthsT]
  split
  · simp only [listF, depthT]
    have h2 := pWord_len [91] s
    have h3 := hl (pWord [91] s).2
    have := commaF_depth (most := 16) (beg := beginsB) h hl ((E (pWord [91] s).2).2.toks.length + 1) [] [(E (pWord [91] s).2).1] (E (pWord [91] s).2).2 (by omega) (by rw [depthsT, depthsT]; have := h (pWord [91] s).2 (by omega); omega)
    omega
  split
  · simp only [parenF, depthT, depthsT]; have := h (pTake s) (by omega); omega
  split
  · simp [depthT, depthsT]
  split
  · simp [depthT, depthsT]
  · simp [zeroTree, depthT, depthsT]
theorem binF_depth {U : PS → Tree × PS} (h : ∀ s, s.toks.length ≤ M → depthT (U s).1 ≤ B) (hl : ∀ s, (U s).2.toks.length ≤ s.toks.length) : ∀ (m : Nat) (t : Tree) (s : PS), s.toks.length ≤ M → depthT (binF U m t s).1 ≤ max (depthT t) B + m
  | 0, _, _, _ => by simp only [binF]; omega
  | m + 1, t, s, hs => by
    rw [binF]
    split
    · have h1 := pTake_len s
      have h2 := hl (pTake s)
      refine Nat.le_trans (binF_depth h hl m _ _ (by omega)) ?_
      simp only [depthT, depthsT]; have := h (pTake s) (by omega); omega
    · simp only; omega
theorem exprT_depth : ∀ (n : Nat) (s : PS), s.toks.length ≤ M → depthT (exprT n s).1 ≤ n * (M + 6) + 1
  | 0, s, _ => by simp [exprT, zeroTree, depthT, depthsT]
  | n + 1, s, hs => by
    have h : ∀ s, s.toks.length ≤ M → depthT (exprT n s).1 ≤ n * (M + 6) + 1 := exprT_depth n
    have hl := exprT_len n
    have e : (n + 1) * (M + 6) = n * (M + 6) + (M + 6) := by rw [Nat.add_mul, Nat.one_mul]
    rw [exprT, e]
    generalize n * (M + 6) = B at *
    unfold exprF
    have h1 := pTake_len s
    split
    · simp only [letF, depthT, depthsT]
      have h2 := pName_len 1 1 (pTake s)
      have h3 := pWord_len [61] (pName 1 1 (pTake s)).2.2
      have h4 := hl (pWord [61] (pName 1 1 (pTake s)).2.2).2
      have h5 := pWord_len wIn (exprT n (pWord [61] (pName 1 1 (pTake s)).2.2).2).2
      have h6 := h (pWord [61] (pName 1 1 (pTake s)).2.2).2 (by omega)
      have h7 := h (pWord wIn (exprT n (pWord [61] (pName 1 1 (pTake s)).2.2).2).2).2 (by omega)
      omega
    split
    · simp only [ifF, depthT, depthsT]
      have h2 := hl (pTake s)
      have h3 := pWord_len wThen (exprT n (pTake s)).2
      have h4 := hl (pWord wThen (exprT n (pTake s)).2).2
      have h5 := pWord_len wElse (exprT n (pWord wThen (exprT n (pTake s)).2).2).2
      have h6 := h (pTake s) (by omega)
      have h7 := h (pWord wThen (exprT n (pTake s)).2).2 (by omega)
      have h8 := h (pWord wElse (exprT n (pWord wThen (exprT n (pTake s)).2).2).2).2 (by omega)
      omega
    · have hu := unitF_depth h hl
      have hul := unitF_len hl
      have h2 := hul s
      have h3 := hu s hs
      have h4 := binF_depth (fun s hs => hu s hs) hul ((unitF (exprT n) s).2.toks.length + 1) (unitF (exprT n) s).1 (unitF (exprT n) s).2 (by omega)
      omega
end
theorem functionT_depth {M n : Nat} {s : PS} (hs : s.toks.length ≤ M) : depthT (functionT n s).1 ≤ n * (M + 6) + n + 4 := by
  have h1 := pWord_len wDef s
  have h2 := pName_len 1 1 (pWord wDef s).2
  have h3 := pWord_len [40] (pName 1 1 (pWord wDef s).2).2.2
  simp only [functionT, depthT]
  rw [depths_append]
  generalize hr : (pWord [40] (pName 1 1 (pWord wDef s).2).2.2).2 = s3 at *
  have hp : ∀ s : PS, s.toks.length ≤ M → depthT (paramT n s).1 ≤ n + 2 := fun s _ => by simp only [paramT, depthT, depthsT]; have := typT_depth n (pWord [58] (pName 1 1 s).2.2).2; omega
  have h4 := rowF_depth (most := 8) (beg := fun t => t.kind == 1) hp (paramT_len n) s3 (by omega)
  have h5 := rowF_len (most := 8) (beg := fun t => t.kind == 1) (paramT_len n) s3
  generalize (rowF (paramT n) 8 (fun t => t.kind == 1) s3) = r at *
  have h6 := pWord_len [41] r.2.2
  have h7 := pWord_len [58] (pWord [41] r.2.2).2
  have h8 := typT_depth n (pWord [58] (pWord [41] r.2.2).2).2
  have h9 := typT_len n (pWord [58] (pWord [41] r.2.2).2).2
  have h10 := pWord_len [61] (typT n (pWord [58] (pWord [41] r.2.2).2).2).2
  have h11 := exprT_depth (M := M) n (pWord [61] (typT n (pWord [58] (pWord [41] r.2.2).2).2).2).2 (by omega)
  simp only [depthsT]
  omega
theorem defsT_depth {M n : Nat} : ∀ (m : Nat) (ks : List Tree) (s : PS), s.toks.length ≤ M → depthsT ks ≤ n * (M + 6) + n + 4 → depthsT (defsT n m ks s).1 ≤ n * (M + 6) + n + 4
  | 0, _, _, _, hk => hk
  | m + 1, ks, s, hs, hk => by
    have h2 := pFail_len 2 s
    have h3 := pFail_len 3 s
    rw [defsT]
    split
    · exact hk
    split
    · exact defsT_depth m ks _ (by omega) hk
    split
    · exact defsT_depth m ks _ (by omega) hk
    split
    · have h4 := functionT_lt' (n := n) ‹(pNext s).text = wDef›
      refine defsT_depth m _ _ (by omega) ?_
      rw [depths_append, depthsT, depthsT]
      have := functionT_depth (n := n) hs
      omega
    · rename_i hne hbad _ hd
      have hty : (pNext s).text = wType := Classical.byContradiction fun h => hbad ⟨hd, h⟩
      have h4 := aliasT_lt' (n := n) hty
      refine defsT_depth m _ _ (by omega) ?_
      rw [depths_append, depthsT, depthsT]
      have : depthT (aliasT n s).1 ≤ n + 2 := by simp only [aliasT, depthT, depthsT]; have := typT_depth n (pWord [61] (pName 2 2 (pWord wType s).2).2.2).2; omega
      have : n + 2 ≤ n * (M + 6) + n + 4 := by have := Nat.zero_le (n * (M + 6)); omega
      omega
theorem fileT_depth {M n : Nat} {s : PS} (hs : s.toks.length ≤ M) : depthT (fileT n s).1 ≤ n * (M + 6) + n + 5 := by
  have h1 := pWord_len wModule s
  have h2 := pName_len 2 2 (pWord wModule s).2
  simp only [fileT, depthT]
  have := defsT_depth (M := M) (n := n) ((pName 2 2 (pWord wModule s).2).2.2.toks.length + 2) [] (pName 2 2 (pWord wModule s).2).2.2 (by omega) (Nat.zero_le _)
  omega
theorem file_depth {l : List UInt8} (h : (scan l).err = 0) : depthT (fileT ((scan l).toks.length + 1) (startT (scan l).toks l.length)).1 ≤ 1000000000000000 := by
  obtain ⟨_, h2, _⟩ := start_ok h
  have h3 : (startT (scan l).toks l.length).toks.length ≤ 4096 := h2
  have := fileT_depth (M := 4096) (n := (scan l).toks.length + 1) h3
  omega
end Go.Proofs.Ythpjpngfghcmcaa
namespace Go.Proofs.Ythpjpngfghcmcaa
open Go.RowKit Lx Sx
set_option maxRecDepth 100000
set_option maxHeartbeats 4000000
def ParsePost (l : List UInt8) (w : World) (e : Ending) (w' : World) : Prop :=
  ∃ c0 c1 c2 c3, e = .returned (.tuple #[.agg #[c0, c1, c2, c3], .int .i64 ((parseT l).2.1 : Nat), .int .i64 ((parseT l).2.2 : Nat)]) ∧ TreeIs (fun b => w.heap.size ≤ b) w' (parseT l).1 [c0, c1, c2, c3] ∧ Chg [] w w'
theorem fk_chg {S : Nat → Prop} {w w' : World} {X : List Nat} {ks : List Tree} {cs : List Value} {Bk : Option Addr} {n : Nat} (h : KidsAre S w ks cs ∧ RowIn S w 4 Bk n cs) (hx : Chg X w w') (hX : ∀ b, S b → b < w.heap.size → b ∉ X) : KidsAre S w' ks cs ∧ RowIn S w' 4 Bk n cs :=
  ⟨h.1.chg hx hX, h.2.keepB (fun _ h _ => h) (fun b hb hlt => hx.block b hlt (hX b hb hlt))⟩
theorem fk_mono {S S' : Nat → Prop} {w : World} {ks : List Tree} {cs : List Value} {Bk : Option Addr} {n : Nat} (h : KidsAre S w ks cs ∧ RowIn S w 4 Bk n cs) (hS : ∀ b, S b → S' b) : KidsAre S' w ks cs ∧ RowIn S' w 4 Bk n cs :=
  ⟨h.1.mono hS, h.2.keepB (fun b hb _ => hS b hb) (fun _ _ _ => rfl)⟩
theorem tokSl_of {w : World} {A : Option Addr} {c : Nat} {l : List Tok} {H : Nat} (h1 : l.length ≤ c) (h2 : c ≤ maxLen) (h : Row w 3 A l.length (tokCells l)) (hH : w.heap.size ≤ H) : TokSl (fun b => b < H) w (.slice A l.length c) l :=
  ⟨A, c, rfl, h1, h2, h.1, fun hn => by obtain ⟨b, off, e, hb, hc⟩ := h.2 hn; exact ⟨b, off, e, by omega, hb, hc⟩⟩
theorem zero_tree {S : Nat → Prop} {w : World} : TreeIs S w zeroTree [.int .i64 0, strV [], .slice none 0 0, .slice none 0 0] := tree_mk (Nat.le_refl _) (maxLen_ge rfl) (Nat.le_refl _) (maxLen_ge rfl) RowIn.none_ kids_none RowIn.none_
theorem parse_err {l : List UInt8} {w : World} (hl : l.length ≤ 281474976710656) (he : ¬ (scan l).err = 0) : Calls Try.prog 12 [strV l].toArray w (ParsePost l w) := by
  have hq : parseT l = (zeroTree, (scan l).place, (scan l).err) := by unfold parseT; simp only [if_pos he]
  refine enter_fr 68 Try.func12 rfl rfl rfl ?_
  intro a hf
  have hE := Chg.refl [] w
  refine wS fun K1 hK1 => wR ?_
  obtain ⟨w2, b3, he, hB4, hx5, eb6, lb7⟩ := eT a w 0
  refine sV hf rfl he ?_
  clear he hf a; intro a hf
  have ge_b3 := ge_new hE eb6
  replace hE := hE.t0 hx5
  clear eb6 lb7
  refine sA hf rfl rfl fun a hf => sA hf rfl rfl fun a hf => sN <| hK1 _ _ <| wS fun K8 hK8 => wR <| sM hf rfl rfl fun a hf => st_c hf rfl rfl rfl (by kernel_rfl) (scanL l _ hl) ?_
  rintro _ w10 ⟨_, rfl, ⟨tA, tc, rfl, hc1, hc2, hrow⟩, hEx9⟩
  refine ⟨_, rfl, fun a hf => ?_⟩
  have hx9 := Chg.of_ext hEx9 []
  obtain ⟨H, eH⟩ : ∃ x, x = w10.heap.size := ⟨_, rfl⟩
  have hHle : H ≤ w10.heap.size := Nat.le_of_eq eH
  have hTS := tokSl_of (H := H) hc1 hc2 hrow (Nat.le_of_eq eH.symm)
  replace hB4 := hB4.c0 hx9
  replace hE := hE.t0 hx9
  clear eH hrow
  refine sM hf rfl rfl fun a hf => sV hf rfl (ex_extract hf rfl rfl) fun a hf => sV hf rfl (ex_extract hf rfl rfl) fun a hf => sV hf rfl (ex_extract hf rfl rfl) fun a hf => sV hf rfl (ex_extract hf rfl rfl) fun a hf => sA hf rfl rfl fun a hf => sA hf rfl rfl fun a hf => sA hf rfl rfl fun a hf => sA hf rfl rfl fun a hf => sN <| hK8 _ _ <| wS fun K11 hK11 => wS fun K12 hK12 => wR <| sM hf rfl rfl fun a hf => sV hf rfl (ex_neI (c := true) hf rfl rfl (by simpa using he)) fun a hf => sN <| hK12 _ _ <| cT hf rfl <| wS fun K13 hK13 => wR <| sV hf rfl (ex_bd (ps := []) (z := zT) (os := []) hf rfl (by kernel_rfl) (by kernel_rfl) (by kernel_rfl) rfl rfl) fun a hf => sM hf rfl rfl fun a hf => sM hf rfl rfl fun a hf => ?_
  obtain ⟨w14, he, hB15, hx16⟩ := eN (.tmp 2) (.tmp 17) hf rfl rfl rfl rfl hB4 rfl 0
  refine st_s hf rfl rfl he ?_
  clear he hf a; intro a hf
  replace hE := hE.trans hx16 (allc (.inr ge_b3) all0)
  clear hB4
  refine sA hf rfl rfl fun a hf => sA hf rfl rfl fun a hf => sN <| hK13 _ _ <| wp_ret ?_
  try simp only [Exit.then, Exit.inBlock]
  exact ret_of (rs := [.cell 2 26, .tmp 3, .tmp 4]) hf rfl ⟨_, _, _, _, 4, rfl, rfl, by kernel_rfl, hB15, rfl, ⟨_, _, rfl, rfl, ⟨_, _, rfl, rfl, rfl⟩⟩⟩ (by unfold ParsePost; rw [hq]; exact ⟨_, _, _, _, rfl, zero_tree, hE⟩)
theorem parse_failed {l : List UInt8} {w : World} (hl : l.length ≤ 281474976710656) (he : (scan l).err = 0) (hfl : ¬ (fileT ((scan l).toks.length + 1) (startT (scan l).toks l.length)).2.failed = 0) : Calls Try.prog 12 [strV l].toArray w (ParsePost l w) := by
  have hq : parseT l = (zeroTree, (fileT ((scan l).toks.length + 1) (startT (scan l).toks l.length)).2.place, (fileT ((scan l).toks.length + 1) (startT (scan l).toks l.length)).2.failed) := by unfold parseT; simp only [if_neg (fun h => h he : ¬ ¬ (scan l).err = 0), if_pos hfl]
  have hok := (start_ok he).1
  have h4096 := (start_ok he).2
  refine enter_fr 68 Try.func12 rfl rfl rfl ?_
  intro a hf
  have hE := Chg.refl [] w
  refine wS fun K1 hK1 => ?_
  refine wR ?_
  obtain ⟨w2, b3, he, hB4, hx5, eb6, lb7⟩ := eT a w 0
  refine sV hf rfl he ?_
  clear he hf a; intro a hf
  have ge_b3 := ge_new hE eb6
  replace hE := hE.t0 hx5
  clear eb6 lb7
  refine sA hf rfl rfl ?_
  clear hf a; intro a hf
  refine sA hf rfl rfl ?_
  clear hf a; intro a hf
  refine sN ?_
  refine hK1 _ _ ?_
  refine wS fun K8 hK8 => ?_
  refine wR ?_
  refine sM hf rfl rfl ?_
  clear hf a; intro a hf
  refine st_c hf rfl rfl rfl (by kernel_rfl) (scanL l _ hl) ?_
  rintro _ w10 ⟨_, rfl, ⟨tA, tc, rfl, hc1, hc2, hrow⟩, hEx9⟩
  refine ⟨_, rfl, ?_⟩
  clear hf a; intro a hf
  have hx9 := Chg.of_ext hEx9 []
  obtain ⟨H, eH⟩ : ∃ x, x = w10.heap.size := ⟨_, rfl⟩
  have hHle : H ≤ w10.heap.size := Nat.le_of_eq eH
  have hTS := tokSl_of (H := H) hc1 hc2 hrow (Nat.le_of_eq eH.symm)
  replace hB4 := hB4.c0 hx9
  replace hE := hE.t0 hx9
  clear eH hrow
  refine sM hf rfl rfl ?_
  clear hf a; intro a hf
  refine sV hf rfl (ex_extract hf rfl rfl) ?_
  clear hf a; intro a hf
  refine sV hf rfl (ex_extract hf rfl rfl) ?_
  clear hf a; intro a hf
  refine sV hf rfl (ex_extract hf rfl rfl) ?_
  clear hf a; intro a hf
  refine sV hf rfl (ex_extract hf rfl rfl) ?_
  clear hf a; intro a hf
  refine sA hf rfl rfl ?_
  clear hf a; intro a hf
  refine sA hf rfl rfl ?_
  clear hf a; intro a hf
  refine sA hf rfl rfl ?_
  clear hf a; intro a hf
  refine sA hf rfl rfl ?_
  clear hf a; intro a hf
  refine sN ?_
  refine hK8 _ _ ?_
  refine wS fun K11 hK11 => ?_
  refine wS fun K12 hK12 => ?_
  refine wR ?_
  refine sM hf rfl rfl ?_
  clear hf a; intro a hf
  refine sV hf rfl (ex_neI (c := false) hf rfl rfl (by simp [he])) ?_
  clear hf a; intro a hf
  refine sN ?_
  refine hK12 _ _ ?_
  refine cF hf rfl ?_
  refine wp_skip ?_
  refine hK11 _ _ ?_
  refine wS fun K13 hK13 => ?_
  refine wR ?_
  refine sM hf rfl rfl ?_
  clear hf a; intro a hf
  refine sM hf rfl rfl ?_
  clear hf a; intro a hf
  refine sV hf rfl (ex_lenS hf Try.underlying9 rfl) ?_
  clear hf a; intro a hf
  refine sV hf rfl (ex_bd (ps := [(0, (.tmp 20)), (2, (.tmp 22))]) (z := [.slice none 0 0, .int .i64 0, .int .i64 0, .int .i64 0, .int .i64 0]) (os := [0, 2]) hf rfl (by kernel_rfl) (by kernel_rfl) (by kernel_rfl) rfl rfl) ?_
  clear hf a; intro a hf
  obtain ⟨w14, b15, he, hB16, hx17, eb18, lb19⟩ := ef_box (P := Try.prog) (t := 47) (x := (.tmp 23)) hf rfl rfl w10 45
  refine sV hf rfl he ?_
  clear he hf a; intro a hf
  have ne_b3_b15 : b3 ≠ b15 := ne_new hB4.lt eb18
  have ge_b15 := ge_new hE eb18
  have hH_b15 : H ≤ b15 := by omega
  replace hB4 := hB4.c0 hx17
  replace hHle := nlt hHle hx17.size
  replace hTS := hTS.keep (fun _ h => h) (fun b hb hlt => hx17.block b hlt nm0)
  replace hE := hE.t0 hx17
  clear eb18 lb19
  refine sA hf rfl rfl ?_
  clear hf a; intro a hf
  refine sN ?_
  refine hK13 _ _ ?_
  refine wS fun K20 hK20 => ?_
  refine wR ?_
  refine sM hf rfl rfl ?_
  clear hf a; intro a hf
  refine sM hf rfl rfl ?_
  clear hf a; intro a hf
  refine sV hf rfl (ex_nil hf rfl) ?_
  clear hf a; intro a hf
  refine sV hf rfl (ex_fa (k := 2) (r := 2) hf rfl (by kernel_rfl) rfl) ?_
  clear hf a; intro a hf
  refine sV hf rfl (ex_loadB hf rfl (by kernel_rfl) hB16 rfl) ?_
  clear hf a; intro a hf
  refine sV hf rfl (ex_nil hf rfl) ?_
  clear hf a; intro a hf
  refine sV hf rfl (ex_fa (k := 1) (r := 1) hf rfl (by kernel_rfl) rfl) ?_
  clear hf a; intro a hf
  obtain ⟨w21, he, hB22, hx23⟩ := ef_store (P := Try.prog) (t := 3) (x := (.tmp 31)) (y := (.tmp 29)) hf rfl rfl (by kernel_rfl) rfl hB16 (Nat.le_of_ble_eq_true rfl) 0
  refine st_s hf rfl rfl he ?_
  clear he hf a; intro a hf
  replace hB4 := hB4.chg hx23 (nmc ne_b3_b15 nm0)
  replace hHle := nlt hHle hx23.size
  replace hTS := hTS.keep (fun _ h => h) (fun b hb hlt => hx23.block b hlt (nmc (by omega) nm0))
  replace hE := hE.trans hx23 (allc (.inr ge_b15) all0)
  clear hB16
  refine sN ?_
  refine hK20 _ _ ?_
  refine wp_seq_mid (fun a w' => ∃ H b2 p, Fr a 68 (fm [(2, .pointer (some ⟨b2, 0, none⟩)), (6, strV (scan l).tail), (7, .pointer (some ⟨p, 0, none⟩))]) ∧ PAt H w' p (startT (scan l).toks l.length) ∧ Chg [] w w' ∧ Blk w' b2 26 [.int .i64 0, strV [], .slice none 0 0, .slice none 0 0] ∧ w.heap.size ≤ b2 ∧ w.heap.size ≤ p ∧ b2 ≠ p ∧ b2 < w'.heap.size) ?_ ?_
  refine wS fun K24 hK24 => ?_
  refine wR ?_
  refine sM hf rfl rfl ?_
  clear hf a; intro a hf
  refine sV hf rfl (ex_len hf Try.underlying42 rfl) ?_
  clear hf a; intro a hf
  refine st_b hf rfl rfl (fun c hc => ex_gtI hf rfl rfl hc) ?_ ?_
  clear hf a; intro ht34 a hf
  obtain ⟨t1, r1, hz⟩ : ∃ t1 r1, (scan l).toks = t1 :: r1 := by cases hz : (scan l).toks with | nil => rw [hz] at ht34; simp at ht34 | cons a b => exact ⟨a, b, rfl⟩
  obtain ⟨_, _, e9, _, _, hrw⟩ := id hTS
  injection e9 with e9 _ _
  subst e9
  obtain ⟨tb, to, rfl, hSb, lt_tb, hcl⟩ := hrw.2 (by rw [hz]; simp)
  have hT1 : w21.cell? ⟨tb, to + 1, none⟩ = some (strV t1.lead) := by have := hcl 1 (by rw [hz]; simp; omega); rw [this, hz]; rfl
  have hst : startT (scan l).toks l.length = ⟨t1 :: r1, t1.lead.length, l.length, 0, 0⟩ := by rw [hz]; rfl
  refine sN ?_
  refine hK24 _ _ ?_
  refine cT hf rfl ?_
  refine wR ?_
  refine sM hf rfl rfl ?_
  clear hf a; intro a hf
  refine sM hf rfl rfl ?_
  clear hf a; intro a hf
  refine sV hf rfl (ex_index (sz := 3) (k := 0) (r := to) hf Try.underlying42 (by kernel_rfl) rfl rfl rfl (by rw [hz]; simp) rfl) ?_
  clear hf a; intro a hf
  refine sV hf rfl (ex_fa (k := 1) (r := to + 1) hf rfl (by kernel_rfl) rfl) ?_
  clear hf a; intro a hf
  refine sV hf rfl (ex_load hf rfl (by kernel_rfl) hT1) ?_
  clear hf a; intro a hf
  refine sV hf rfl (ex_lenS hf Try.underlying9 rfl) ?_
  clear hf a; intro a hf
  refine sV hf rfl (ex_nil hf rfl) ?_
  clear hf a; intro a hf
  refine sV hf rfl (ex_fa (k := 1) (r := 1) hf rfl (by kernel_rfl) rfl) ?_
  clear hf a; intro a hf
  obtain ⟨w25, he, hB26, hx27⟩ := ef_store (P := Try.prog) (t := 3) (x := (.tmp 42)) (y := (.tmp 40)) hf rfl rfl (by kernel_rfl) rfl hB22 (Nat.le_of_ble_eq_true rfl) 0
  refine st_s hf rfl rfl he ?_
  clear he hf a; intro a hf
  replace hB4 := hB4.chg hx27 (nmc ne_b3_b15 nm0)
  replace hHle := nlt hHle hx27.size
  replace hTS := hTS.keep (fun _ h => h) (fun b hb hlt => hx27.block b hlt (nmc (by omega) nm0))
  replace hE := hE.trans hx27 (allc (.inr ge_b15) all0)
  clear hB22
  refine sN ?_
  refine ⟨H, b3, b15, hf.pick ⟨rfl, rfl, rfl, trivial⟩, ?_, hE, hB4, ge_b3, ge_b15, ne_b3_b15, hB4.lt⟩
  rw [hst] at hok ⊢
  exact ⟨hH_b15, hok, _, hB26, hz ▸ hTS⟩
  clear hf a; intro ht34 a hf
  have hz : (scan l).toks = [] := by cases hz : (scan l).toks with | nil => rfl | cons a b => rw [hz] at ht34; first | (simp at ht34; done) | (simp at ht34; omega)
  have hst : startT (scan l).toks l.length = ⟨[], l.length, l.length, 0, 0⟩ := by rw [hz]; rfl
  refine sN ?_
  refine hK24 _ _ ?_
  refine cF hf rfl ?_
  refine wp_skip ?_
  refine ⟨H, b3, b15, hf.pick ⟨rfl, rfl, rfl, trivial⟩, ?_, hE, hB4, ge_b3, ge_b15, ne_b3_b15, hB4.lt⟩
  rw [hst] at hok ⊢
  exact ⟨hH_b15, hok, _, hB22, hz ▸ hTS⟩
  clear hf a; intro a w' hM
  obtain ⟨H, b2, p, hf, hP, hE, hB2, ge_b2, ge_p, ne_b2_p, lt_b2⟩ := hM
  refine wS fun K28 hK28 => ?_
  refine wR ?_
  refine sM hf rfl rfl ?_
  clear hf a; intro a hf
  have lt_p := hP.lt
  obtain ⟨lo, elo⟩ : ∃ x, x = w'.heap.size := ⟨_, rfl⟩
  refine st_c hf rfl rfl rfl (by kernel_rfl) (fileL (n := (scan l).toks.length + 1) hP (Nat.lt_succ_self _)) ?_
  rintro _ w30 ⟨tx, l0, l1, ks, lg, Bk, kn, cs, hft, rfl, hBL, hge, hk1, hk2, hKA, hKR, hP, hx29⟩
  refine ⟨_, rfl, ?_⟩
  clear hf a; intro a hf
  have hge2 : lo ≤ lg := elo ▸ hge
  have ge_lo : w.heap.size ≤ lo := elo ▸ hE.size
  have tb_b2 : b2 < lo := elo ▸ lt_b2
  have tb_p : p < lo := elo ▸ lt_p
  have ne_b2_lg : b2 ≠ lg := by omega
  have ne_p_lg : p ≠ lg := by omega
  have ge_lg : w.heap.size ≤ lg := by omega
  have hKK : KidsAre (fun b => lo ≤ b ∧ b ≠ lg) w30 ks cs ∧ RowIn (fun b => lo ≤ b ∧ b ≠ lg) w30 4 Bk ks.length cs := by subst elo; exact ⟨hKA, hKR⟩
  clear hKA hKR elo hge
  obtain ⟨_, _, tv, hBp, _⟩ := id hP
  replace hB2 := hB2.chg hx29 (nmc ne_b2_p nm0)
  replace hE := hE.trans hx29 (allc (.inr ge_p) all0)
  obtain ⟨w31, he, hB32, hx33⟩ := eN (.tmp 2) (.tmp 44) hf rfl rfl rfl rfl hB2 rfl 0
  refine st_s hf rfl rfl he ?_
  clear he hf a; intro a hf
  replace hBL := hBL.chg hx33 (nmc (Ne.symm ne_b2_lg) nm0)
  replace hBp := hBp.chg hx33 (nmc (Ne.symm ne_b2_p) nm0)
  replace hKK := fk_chg hKK hx33 (fun b hb hlt => (nmc (by omega) nm0))
  replace hE := hE.trans hx33 (allc (.inr ge_b2) all0)
  clear hB2
  refine sN ?_
  refine hK28 _ _ ?_
  refine wS fun K34 hK34 => ?_
  refine wS fun K35 hK35 => ?_
  refine wR ?_
  refine sM hf rfl rfl ?_
  clear hf a; intro a hf
  refine sV hf rfl (ex_nil hf rfl) ?_
  clear hf a; intro a hf
  refine sV hf rfl (ex_fa (k := 3) (r := 3) hf rfl (by kernel_rfl) rfl) ?_
  clear hf a; intro a hf
  refine sV hf rfl (ex_loadB hf rfl (by kernel_rfl) hBp rfl) ?_
  clear hf a; intro a hf
  refine sV hf rfl (ex_neI (c := true) hf rfl rfl (iNeT (fun h => hfl (by omega)))) ?_
  clear hf a; intro a hf
  refine sN ?_
  refine hK35 _ _ ?_
  refine cT hf rfl ?_
  refine wS fun K36 hK36 => ?_
  have s_hBp := hBp
  refine dl_start (fun x => x.cell? ⟨p, 4, none⟩ = w31.cell? ⟨p, 4, none⟩ ∧ x.cell? ⟨p, 3, none⟩ = w31.cell? ⟨p, 3, none⟩) 12 12 rfl (by kernel_rfl) (by kernel_rfl) ?_
  intro w37 hx38 hsel
  replace hB32 := hB32.c0 hx38
  replace hBL := hBL.c0 hx38
  replace hBp := hBp.c0 hx38
  replace hKK := fk_chg hKK hx38 (fun b hb hlt => nm0)
  replace hE := hE.t0 hx38
  have hS0 : w37.cell? ⟨p, 4, none⟩ = w31.cell? ⟨p, 4, none⟩ ∧ w37.cell? ⟨p, 3, none⟩ = w31.cell? ⟨p, 3, none⟩ := ⟨(hBp.cell 4).trans (s_hBp.cell 4).symm, (hBp.cell 3).trans (s_hBp.cell 3).symm⟩
  refine dV 0 rfl rfl hsel (by kernel_rfl) hf rfl (.inl hS0) (fun x => ex_bd (ps := []) (z := zT) (os := []) hf rfl (by kernel_rfl) (by kernel_rfl) (by kernel_rfl) rfl rfl) ?_
  clear hf a; intro a hf
  refine dM 1 rfl rfl hsel (by kernel_rfl) hf rfl hS0 rfl ?_
  clear hf a; intro a hf
  refine dV 2 rfl rfl hsel (by kernel_rfl) hf rfl (.inl hS0) (fun x => ex_nil hf rfl) ?_
  clear hf a; intro a hf
  refine dV 3 rfl rfl hsel (by kernel_rfl) hf rfl (.inl hS0) (fun x => ex_fa (k := 4) (r := 4) hf rfl (by kernel_rfl) rfl) ?_
  clear hf a; intro a hf
  refine dL 4 rfl rfl hsel (by kernel_rfl) hf rfl hS0 (fun x hS => ex_load hf rfl (by kernel_rfl) (hS.1.trans ((s_hBp.cell 4).trans rfl))) ?_
  clear hf a; intro a hf
  refine dM 5 rfl rfl hsel (by kernel_rfl) hf rfl hS0 rfl ?_
  clear hf a; intro a hf
  refine dV 6 rfl rfl hsel (by kernel_rfl) hf rfl (.inl hS0) (fun x => ex_nil hf rfl) ?_
  clear hf a; intro a hf
  refine dV 7 rfl rfl hsel (by kernel_rfl) hf rfl (.inl hS0) (fun x => ex_fa (k := 3) (r := 3) hf rfl (by kernel_rfl) rfl) ?_
  clear hf a; intro a hf
  refine dL 8 rfl rfl hsel (by kernel_rfl) hf rfl hS0 (fun x hS => ex_load hf rfl (by kernel_rfl) (hS.2.trans ((s_hBp.cell 3).trans rfl))) ?_
  clear hf a; intro a hf
  obtain ⟨w39, he, hB40, hx41⟩ := eN (.tmp 2) (.tmp 50) hf rfl rfl rfl rfl hB32 rfl 0
  refine dl_s 9 (by kernel_rfl) rfl hf rfl rfl he ?_
  clear he hf a; intro a hf
  replace hBL := hBL.chg hx41 (nmc (Ne.symm ne_b2_lg) nm0)
  replace hBp := hBp.chg hx41 (nmc (Ne.symm ne_b2_p) nm0)
  replace hKK := fk_chg hKK hx41 (fun b hb hlt => (nmc (by omega) nm0))
  replace hE := hE.trans hx41 (allc (.inr ge_b2) all0)
  clear hB32
  clear hS0
  have hS0 : w39.cell? ⟨p, 4, none⟩ = w31.cell? ⟨p, 4, none⟩ ∧ w39.cell? ⟨p, 3, none⟩ = w31.cell? ⟨p, 3, none⟩ := ⟨(hBp.cell 4).trans (s_hBp.cell 4).symm, (hBp.cell 3).trans (s_hBp.cell 3).symm⟩
  refine ⟨.inl hS0, ?_⟩
  refine dV 10 rfl rfl hsel (by kernel_rfl) hf rfl (.inl hS0) (fun x => ex_assign hf rfl) ?_
  clear hf a; intro a hf
  refine dV 11 rfl rfl hsel (by kernel_rfl) hf rfl (.inl hS0) (fun x => ex_assign hf rfl) ?_
  clear hf a; intro a hf
  refine dl_done (by kernel_rfl) ?_
  clear hS0 hsel
  refine hK36 _ _ ?_
  refine wp_ret ?_
  try simp only [Exit.then, Exit.inBlock]
  exact ret_of (rs := [.cell 2 26, .tmp 3, .tmp 4]) hf rfl ⟨_, _, _, _, 4, rfl, rfl, by kernel_rfl, hB40, rfl, ⟨_, _, rfl, rfl, ⟨_, _, rfl, rfl, rfl⟩⟩⟩ (by unfold ParsePost; rw [hq]; exact ⟨_, _, _, _, rfl, zero_tree, hE⟩)
theorem parse_deep {l : List UInt8} {w : World} (hl : l.length ≤ 281474976710656) (he : (scan l).err = 0) (hfl : (fileT ((scan l).toks.length + 1) (startT (scan l).toks l.length)).2.failed = 0) (hdp : 40 < depthT (fileT ((scan l).toks.length + 1) (startT (scan l).toks l.length)).1) : Calls Try.prog 12 [strV l].toArray w (ParsePost l w) := by
  have hq : parseT l = (zeroTree, 0, 4) := by unfold parseT; simp only [if_neg (fun h => h he : ¬ ¬ (scan l).err = 0), if_neg (fun h : ¬ (fileT ((scan l).toks.length + 1) (startT (scan l).toks l.length)).2.failed = 0 => h hfl), if_pos hdp]
  have hok := (start_ok he).1
  have h4096 := (start_ok he).2
  refine enter_fr 68 Try.func12 rfl rfl rfl ?_
  intro a hf
  have hE := Chg.refl [] w
  refine wS fun K1 hK1 => ?_
  refine wR ?_
  obtain ⟨w2, b3, he, hB4, hx5, eb6, lb7⟩ := eT a w 0
  refine sV hf rfl he ?_
  clear he hf a; intro a hf
  have ge_b3 := ge_new hE eb6
  replace hE := hE.t0 hx5
  clear eb6 lb7
  refine sA hf rfl rfl ?_
  clear hf a; intro a hf
  refine sA hf rfl rfl ?_
  clear hf a; intro a hf
  refine sN ?_
  refine hK1 _ _ ?_
  refine wS fun K8 hK8 => ?_
  refine wR ?_
  refine sM hf rfl rfl ?_
  clear hf a; intro a hf
  refine st_c hf rfl rfl rfl (by kernel_rfl) (scanL l _ hl) ?_
  rintro _ w10 ⟨_, rfl, ⟨tA, tc, rfl, hc1, hc2, hrow⟩, hEx9⟩
  refine ⟨_, rfl, ?_⟩
  clear hf a; intro a hf
  have hx9 := Chg.of_ext hEx9 []
  obtain ⟨H, eH⟩ : ∃ x, x = w10.heap.size := ⟨_, rfl⟩
  have hHle : H ≤ w10.heap.size := Nat.le_of_eq eH
  have hTS := tokSl_of (H := H) hc1 hc2 hrow (Nat.le_of_eq eH.symm)
  replace hB4 := hB4.c0 hx9
  replace hE := hE.t0 hx9
  clear eH hrow
  refine sM hf rfl rfl ?_
  clear hf a; intro a hf
  refine sV hf rfl (ex_extract hf rfl rfl) ?_
  clear hf a; intro a hf
  refine sV hf rfl (ex_extract hf rfl rfl) ?_
  clear hf a; intro a hf
  refine sV hf rfl (ex_extract hf rfl rfl) ?_
  clear hf a; intro a hf
  refine sV hf rfl (ex_extract hf rfl rfl) ?_
  clear hf a; intro a hf
  refine sA hf rfl rfl ?_
  clear hf a; intro a hf
  refine sA hf rfl rfl ?_
  clear hf a; intro a hf
  refine sA hf rfl rfl ?_
  clear hf a; intro a hf
  refine sA hf rfl rfl ?_
  clear hf a; intro a hf
  refine sN ?_
  refine hK8 _ _ ?_
  refine wS fun K11 hK11 => ?_
  refine wS fun K12 hK12 => ?_
  refine wR ?_
  refine sM hf rfl rfl ?_
  clear hf a; intro a hf
  refine sV hf rfl (ex_neI (c := false) hf rfl rfl (by simp [he])) ?_
  clear hf a; intro a hf
  refine sN ?_
  refine hK12 _ _ ?_
  refine cF hf rfl ?_
  refine wp_skip ?_
  refine hK11 _ _ ?_
  refine wS fun K13 hK13 => ?_
  refine wR ?_
  refine sM hf rfl rfl ?_
  clear hf a; intro a hf
  refine sM hf rfl rfl ?_
  clear hf a; intro a hf
  refine sV hf rfl (ex_lenS hf Try.underlying9 rfl) ?_
  clear hf a; intro a hf
  refine sV hf rfl (ex_bd (ps := [(0, (.tmp 20)), (2, (.tmp 22))]) (z := [.slice none 0 0, .int .i64 0, .int .i64 0, .int .i64 0, .int .i64 0]) (os := [0, 2]) hf rfl (by kernel_rfl) (by kernel_rfl) (by kernel_rfl) rfl rfl) ?_
  clear hf a; intro a hf
  obtain ⟨w14, b15, he, hB16, hx17, eb18, lb19⟩ := ef_box (P := Try.prog) (t := 47) (x := (.tmp 23)) hf rfl rfl w10 45
  refine sV hf rfl he ?_
  clear he hf a; intro a hf
  have ne_b3_b15 : b3 ≠ b15 := ne_new hB4.lt eb18
  have ge_b15 := ge_new hE eb18
  have hH_b15 : H ≤ b15 := by omega
  replace hB4 := hB4.c0 hx17
  replace hHle := nlt hHle hx17.size
  replace hTS := hTS.keep (fun _ h => h) (fun b hb hlt => hx17.block b hlt nm0)
  replace hE := hE.t0 hx17
  clear eb18 lb19
  refine sA hf rfl rfl ?_
  clear hf a; intro a hf
  refine sN ?_
  refine hK13 _ _ ?_
  refine wS fun K20 hK20 => ?_
  refine wR ?_
  refine sM hf rfl rfl ?_
  clear hf a; intro a hf
  refine sM hf rfl rfl ?_
  clear hf a; intro a hf
  refine sV hf rfl (ex_nil hf rfl) ?_
  clear hf a; intro a hf
  refine sV hf rfl (ex_fa (k := 2) (r := 2) hf rfl (by kernel_rfl) rfl) ?_
  clear hf a; intro a hf
  refine sV hf rfl (ex_loadB hf rfl (by kernel_rfl) hB16 rfl) ?_
  clear hf a; intro a hf
  refine sV hf rfl (ex_nil hf rfl) ?_
  clear hf a; intro a hf
  refine sV hf rfl (ex_fa (k := 1) (r := 1) hf rfl (by kernel_rfl) rfl) ?_
  clear hf a; intro a hf
  obtain ⟨w21, he, hB22, hx23⟩ := ef_store (P := Try.prog) (t := 3) (x := (.tmp 31)) (y := (.tmp 29)) hf rfl rfl (by kernel_rfl) rfl hB16 (Nat.le_of_ble_eq_true rfl) 0
  refine st_s hf rfl rfl he ?_
  clear he hf a; intro a hf
  replace hB4 := hB4.chg hx23 (nmc ne_b3_b15 nm0)
  replace hHle := nlt hHle hx23.size
  replace hTS := hTS.keep (fun _ h => h) (fun b hb hlt => hx23.block b hlt (nmc (by omega) nm0))
  replace hE := hE.trans hx23 (allc (.inr ge_b15) all0)
  clear hB16
  refine sN ?_
  refine hK20 _ _ ?_
  refine wp_seq_mid (fun a w' => ∃ H b2 p, Fr a 68 (fm [(2, .pointer (some ⟨b2, 0, none⟩)), (6, strV (scan l).tail), (7, .pointer (some ⟨p, 0, none⟩))]) ∧ PAt H w' p (startT (scan l).toks l.length) ∧ Chg [] w w' ∧ Blk w' b2 26 [.int .i64 0, strV [], .slice none 0 0, .slice none 0 0] ∧ w.heap.size ≤ b2 ∧ w.heap.size ≤ p ∧ b2 ≠ p ∧ b2 < w'.heap.size) ?_ ?_
  refine wS fun K24 hK24 => ?_
  refine wR ?_
  refine sM hf rfl rfl ?_
  clear hf a; intro a hf
  refine sV hf rfl (ex_len hf Try.underlying42 rfl) ?_
  clear hf a; intro a hf
  refine st_b hf rfl rfl (fun c hc => ex_gtI hf rfl rfl hc) ?_ ?_
  clear hf a; intro ht34 a hf
  obtain ⟨t1, r1, hz⟩ : ∃ t1 r1, (scan l).toks = t1 :: r1 := by cases hz : (scan l).toks with | nil => rw [hz] at ht34; simp at ht34 | cons a b => exact ⟨a, b, rfl⟩
  obtain ⟨_, _, e9, _, _, hrw⟩ := id hTS
  injection e9 with e9 _ _
  subst e9
  obtain ⟨tb, to, rfl, hSb, lt_tb, hcl⟩ := hrw.2 (by rw [hz]; simp)
  have hT1 : w21.cell? ⟨tb, to + 1, none⟩ = some (strV t1.lead) := by have := hcl 1 (by rw [hz]; simp; omega); rw [this, hz]; rfl
  have hst : startT (scan l).toks l.length = ⟨t1 :: r1, t1.lead.length, l.length, 0, 0⟩ := by rw [hz]; rfl
  refine sN ?_
  refine hK24 _ _ ?_
  refine cT hf rfl ?_
  refine wR ?_
  refine sM hf rfl rfl ?_
  clear hf a; intro a hf
  refine sM hf rfl rfl ?_
  clear hf a; intro a hf
  refine sV hf rfl (ex_index (sz := 3) (k := 0) (r := to) hf Try.underlying42 (by kernel_rfl) rfl rfl rfl (by rw [hz]; simp) rfl) ?_
  clear hf a; intro a hf
  refine sV hf rfl (ex_fa (k := 1) (r := to + 1) hf rfl (by kernel_rfl) rfl) ?_
  clear hf a; intro a hf
  refine sV hf rfl (ex_load hf rfl (by kernel_rfl) hT1) ?_
  clear hf a; intro a hf
  refine sV hf rfl (ex_lenS hf Try.underlying9 rfl) ?_
  clear hf a; intro a hf
  refine sV hf rfl (ex_nil hf rfl) ?_
  clear hf a; intro a hf
  refine sV hf rfl (ex_fa (k := 1) (r := 1) hf rfl (by kernel_rfl) rfl) ?_
  clear hf a; intro a hf
  obtain ⟨w25, he, hB26, hx27⟩ := ef_store (P := Try.prog) (t := 3) (x := (.tmp 42)) (y := (.tmp 40)) hf rfl rfl (by kernel_rfl) rfl hB22 (Nat.le_of_ble_eq_true rfl) 0
  refine st_s hf rfl rfl he ?_
  clear he hf a; intro a hf
  replace hB4 := hB4.chg hx27 (nmc ne_b3_b15 nm0)
  replace hHle := nlt hHle hx27.size
  replace hTS := hTS.keep (fun _ h => h) (fun b hb hlt => hx27.block b hlt (nmc (by omega) nm0))
  replace hE := hE.trans hx27 (allc (.inr ge_b15) all0)
  clear hB22
  refine sN ?_
  refine ⟨H, b3, b15, hf.pick ⟨rfl, rfl, rfl, trivial⟩, ?_, hE, hB4, ge_b3, ge_b15, ne_b3_b15, hB4.lt⟩
  rw [hst] at hok ⊢
  exact ⟨hH_b15, hok, _, hB26, hz ▸ hTS⟩
  clear hf a; intro ht34 a hf
  have hz : (scan l).toks = [] := by cases hz : (scan l).toks with | nil => rfl | cons a b => rw [hz] at ht34; first | (simp at ht34; done) | (simp at ht34; omega)
  have hst : startT (scan l).toks l.length = ⟨[], l.length, l.length, 0, 0⟩ := by rw [hz]; rfl
  refine sN ?_
  refine hK24 _ _ ?_
  refine cF hf rfl ?_
  refine wp_skip ?_
  refine ⟨H, b3, b15, hf.pick ⟨rfl, rfl, rfl, trivial⟩, ?_, hE, hB4, ge_b3, ge_b15, ne_b3_b15, hB4.lt⟩
  rw [hst] at hok ⊢
  exact ⟨hH_b15, hok, _, hB22, hz ▸ hTS⟩
  clear hf a; intro a w' hM
  obtain ⟨H, b2, p, hf, hP, hE, hB2, ge_b2, ge_p, ne_b2_p, lt_b2⟩ := hM
  refine wS fun K28 hK28 => ?_
  refine wR ?_
  refine sM hf rfl rfl ?_
  clear hf a; intro a hf
  have lt_p := hP.lt
  obtain ⟨lo, elo⟩ : ∃ x, x = w'.heap.size := ⟨_, rfl⟩
  refine st_c hf rfl rfl rfl (by kernel_rfl) (fileL (n := (scan l).toks.length + 1) hP (Nat.lt_succ_self _)) ?_
  rintro _ w30 ⟨tx, l0, l1, ks, lg, Bk, kn, cs, hft, rfl, hBL, hge, hk1, hk2, hKA, hKR, hP, hx29⟩
  refine ⟨_, rfl, ?_⟩
  clear hf a; intro a hf
  have hge2 : lo ≤ lg := elo ▸ hge
  have ge_lo : w.heap.size ≤ lo := elo ▸ hE.size
  have tb_b2 : b2 < lo := elo ▸ lt_b2
  have tb_p : p < lo := elo ▸ lt_p
  have ne_b2_lg : b2 ≠ lg := by omega
  have ne_p_lg : p ≠ lg := by omega
  have ge_lg : w.heap.size ≤ lg := by omega
  have hKK : KidsAre (fun b => lo ≤ b ∧ b ≠ lg) w30 ks cs ∧ RowIn (fun b => lo ≤ b ∧ b ≠ lg) w30 4 Bk ks.length cs := by subst elo; exact ⟨hKA, hKR⟩
  clear hKA hKR elo hge
  obtain ⟨_, _, tv, hBp, _⟩ := id hP
  replace hB2 := hB2.chg hx29 (nmc ne_b2_p nm0)
  replace hE := hE.trans hx29 (allc (.inr ge_p) all0)
  obtain ⟨w31, he, hB32, hx33⟩ := eN (.tmp 2) (.tmp 44) hf rfl rfl rfl rfl hB2 rfl 0
  refine st_s hf rfl rfl he ?_
  clear he hf a; intro a hf
  replace hBL := hBL.chg hx33 (nmc (Ne.symm ne_b2_lg) nm0)
  replace hBp := hBp.chg hx33 (nmc (Ne.symm ne_b2_p) nm0)
  replace hKK := fk_chg hKK hx33 (fun b hb hlt => (nmc (by omega) nm0))
  replace hE := hE.trans hx33 (allc (.inr ge_b2) all0)
  clear hB2
  refine sN ?_
  refine hK28 _ _ ?_
  refine wS fun K34 hK34 => ?_
  refine wS fun K35 hK35 => ?_
  refine wR ?_
  refine sM hf rfl rfl ?_
  clear hf a; intro a hf
  refine sV hf rfl (ex_nil hf rfl) ?_
  clear hf a; intro a hf
  refine sV hf rfl (ex_fa (k := 3) (r := 3) hf rfl (by kernel_rfl) rfl) ?_
  clear hf a; intro a hf
  refine sV hf rfl (ex_loadB hf rfl (by kernel_rfl) hBp rfl) ?_
  clear hf a; intro a hf
  refine sV hf rfl (ex_neI (c := false) hf rfl rfl (iNeF (by omega))) ?_
  clear hf a; intro a hf
  refine sN ?_
  refine hK35 _ _ ?_
  refine cF hf rfl ?_
  refine wp_skip ?_
  refine hK34 _ _ ?_
  refine wS fun K36 hK36 => ?_
  refine wS fun K37 hK37 => ?_
  refine wR ?_
  refine sV hf rfl (ex_loadBN (m := 4) hf rfl (by kernel_rfl) hB32 rfl) ?_
  clear hf a; intro a hf
  have hTI : TreeIs (fun b => lo ≤ b) w31 (.node 1 tx [l0, l1, []] ks) [.int .i64 1, strV tx, .slice (some ⟨lg, 0, none⟩) 3 3, .slice Bk ks.length kn] := tree_mk (Nat.le_refl _) (maxLen_ge rfl) hk1 hk2 (RowIn.of_blk hBL hge2 rfl) (fk_mono hKK (fun b hb => hb.1)).1 (fk_mono hKK (fun b hb => hb.1)).2
  refine st_c hf rfl rfl rfl (by kernel_rfl) (depthL _ (.node 1 tx [l0, l1, []] ks) (fun b => lo ≤ b) _ _ _ _ _ (Nat.le_refl _) (hft ▸ file_depth he) hTI) ?_
  rintro _ w39 ⟨rfl, hx38⟩
  refine ⟨_, rfl, ?_⟩
  clear hf a; intro a hf
  replace hB32 := hB32.c0 hx38
  replace hBL := hBL.c0 hx38
  replace hBp := hBp.c0 hx38
  replace hKK := fk_chg hKK hx38 (fun b hb hlt => nm0)
  replace hE := hE.t0 hx38
  refine sV hf rfl (ex_gtI (c := true) hf rfl rfl (by rw [← hft]; simp; omega)) ?_
  clear hf a; intro a hf
  refine sN ?_
  refine hK37 _ _ ?_
  refine cT hf rfl ?_
  refine wS fun K40 hK40 => ?_
  refine wR ?_
  refine sV hf rfl (ex_bd (ps := []) (z := zT) (os := []) hf rfl (by kernel_rfl) (by kernel_rfl) (by kernel_rfl) rfl rfl) ?_
  clear hf a; intro a hf
  obtain ⟨w41, he, hB42, hx43⟩ := eN (.tmp 2) (.tmp 62) hf rfl rfl rfl rfl hB32 rfl 0
  refine st_s hf rfl rfl he ?_
  clear he hf a; intro a hf
  replace hBL := hBL.chg hx43 (nmc (Ne.symm ne_b2_lg) nm0)
  replace hBp := hBp.chg hx43 (nmc (Ne.symm ne_b2_p) nm0)
  replace hKK := fk_chg hKK hx43 (fun b hb hlt => (nmc (by omega) nm0))
  replace hE := hE.trans hx43 (allc (.inr ge_b2) all0)
  clear hB32
  refine sA hf rfl rfl ?_
  clear hf a; intro a hf
  refine sA hf rfl rfl ?_
  clear hf a; intro a hf
  refine sN ?_
  refine hK40 _ _ ?_
  refine wp_ret ?_
  try simp only [Exit.then, Exit.inBlock]
  exact ret_of (rs := [.cell 2 26, .tmp 3, .tmp 4]) hf rfl ⟨_, _, _, _, 4, rfl, rfl, by kernel_rfl, hB42, rfl, ⟨_, _, rfl, rfl, ⟨_, _, rfl, rfl, rfl⟩⟩⟩ (by unfold ParsePost; rw [hq]; exact ⟨_, _, _, _, rfl, zero_tree, hE⟩)
theorem parse_ok {l : List UInt8} {w : World} (hl : l.length ≤ 281474976710656) (he : (scan l).err = 0) (hfl : (fileT ((scan l).toks.length + 1) (startT (scan l).toks l.length)).2.failed = 0) (hdp : ¬ 40 < depthT (fileT ((scan l).toks.length + 1) (startT (scan l).toks l.length)).1) : Calls Try.prog 12 [strV l].toArray w (ParsePost l w) := by
  have hq : parseT l = (.node (fileT ((scan l).toks.length + 1) (startT (scan l).toks l.length)).1.kind (fileT ((scan l).toks.length + 1) (startT (scan l).toks l.length)).1.text ((fileT ((scan l).toks.length + 1) (startT (scan l).toks l.length)).1.leads.set 2 (scan l).tail) (fileT ((scan l).toks.length + 1) (startT (scan l).toks l.length)).1.kids, 0, 0) := by unfold parseT; simp only [if_neg (fun h => h he : ¬ ¬ (scan l).err = 0), if_neg (fun h : ¬ (fileT ((scan l).toks.length + 1) (startT (scan l).toks l.length)).2.failed = 0 => h hfl), if_neg hdp]
  have hok := (start_ok he).1
  have h4096 := (start_ok he).2
  refine enter_fr 68 Try.func12 rfl rfl rfl ?_
  intro a hf
  have hE := Chg.refl [] w
  refine wS fun K1 hK1 => ?_
  refine wR ?_
  obtain ⟨w2, b3, he, hB4, hx5, eb6, lb7⟩ := eT a w 0
  refine sV hf rfl he ?_
  clear he hf a; intro a hf
  have ge_b3 := ge_new hE eb6
  replace hE := hE.t0 hx5
  clear eb6 lb7
  refine sA hf rfl rfl ?_
  clear hf a; intro a hf
  refine sA hf rfl rfl ?_
  clear hf a; intro a hf
  refine sN ?_
  refine hK1 _ _ ?_
  refine wS fun K8 hK8 => ?_
  refine wR ?_
  refine sM hf rfl rfl ?_
  clear hf a; intro a hf
  refine st_c hf rfl rfl rfl (by kernel_rfl) (scanL l _ hl) ?_
  rintro _ w10 ⟨_, rfl, ⟨tA, tc, rfl, hc1, hc2, hrow⟩, hEx9⟩
  refine ⟨_, rfl, ?_⟩
  clear hf a; intro a hf
  have hx9 := Chg.of_ext hEx9 []
  obtain ⟨H, eH⟩ : ∃ x, x = w10.heap.size := ⟨_, rfl⟩
  have hHle : H ≤ w10.heap.size := Nat.le_of_eq eH
  have hTS := tokSl_of (H := H) hc1 hc2 hrow (Nat.le_of_eq eH.symm)
  replace hB4 := hB4.c0 hx9
  replace hE := hE.t0 hx9
  clear eH hrow
  refine sM hf rfl rfl ?_
  clear hf a; intro a hf
  refine sV hf rfl (ex_extract hf rfl rfl) ?_
  clear hf a; intro a hf
  refine sV hf rfl (ex_extract hf rfl rfl) ?_
  clear hf a; intro a hf
  refine sV hf rfl (ex_extract hf rfl rfl) ?_
  clear hf a; intro a hf
  refine sV hf rfl (ex_extract hf rfl rfl) ?_
  clear hf a; intro a hf
  refine sA hf rfl rfl ?_
  clear hf a; intro a hf
  refine sA hf rfl rfl ?_
  clear hf a; intro a hf
  refine sA hf rfl rfl ?_
  clear hf a; intro a hf
  refine sA hf rfl rfl ?_
  clear hf a; intro a hf
  refine sN ?_
  refine hK8 _ _ ?_
  refine wS fun K11 hK11 => ?_
  refine wS fun K12 hK12 => ?_
  refine wR ?_
  refine sM hf rfl rfl ?_
  clear hf a; intro a hf
  refine sV hf rfl (ex_neI (c := false) hf rfl rfl (by simp [he])) ?_
  clear hf a; intro a hf
  refine sN ?_
  refine hK12 _ _ ?_
  refine cF hf rfl ?_
  refine wp_skip ?_
  refine hK11 _ _ ?_
  refine wS fun K13 hK13 => ?_
  refine wR ?_
  refine sM hf rfl rfl ?_
  clear hf a; intro a hf
  refine sM hf rfl rfl ?_
  clear hf a; intro a hf
  refine sV hf rfl (ex_lenS hf Try.underlying9 rfl) ?_
  clear hf a; intro a hf
  refine sV hf rfl (ex_bd (ps := [(0, (.tmp 20)), (2, (.tmp 22))]) (z := [.slice none 0 0, .int .i64 0, .int .i64 0, .int .i64 0, .int .i64 0]) (os := [0, 2]) hf rfl (by kernel_rfl) (by kernel_rfl) (by kernel_rfl) rfl rfl) ?_
  clear hf a; intro a hf
  obtain ⟨w14, b15, he, hB16, hx17, eb18, lb19⟩ := ef_box (P := Try.prog) (t := 47) (x := (.tmp 23)) hf rfl rfl w10 45
  refine sV hf rfl he ?_
  clear he hf a; intro a hf
  have ne_b3_b15 : b3 ≠ b15 := ne_new hB4.lt eb18
  have ge_b15 := ge_new hE eb18
  have hH_b15 : H ≤ b15 := by omega
  replace hB4 := hB4.c0 hx17
  replace hHle := nlt hHle hx17.size
  replace hTS := hTS.keep (fun _ h => h) (fun b hb hlt => hx17.block b hlt nm0)
  replace hE := hE.t0 hx17
  clear eb18 lb19
  refine sA hf rfl rfl ?_
  clear hf a; intro a hf
  refine sN ?_
  refine hK13 _ _ ?_
  refine wS fun K20 hK20 => ?_
  refine wR ?_
  refine sM hf rfl rfl ?_
  clear hf a; intro a hf
  refine sM hf rfl rfl ?_
  clear hf a; intro a hf
  refine sV hf rfl (ex_nil hf rfl) ?_
  clear hf a; intro a hf
  refine sV hf rfl (ex_fa (k := 2) (r := 2) hf rfl (by kernel_rfl) rfl) ?_
  clear hf a; intro a hf
  refine sV hf rfl (ex_loadB hf rfl (by kernel_rfl) hB16 rfl) ?_
  clear hf a; intro a hf
  refine sV hf rfl (ex_nil hf rfl) ?_
  clear hf a; intro a hf
  refine sV hf rfl (ex_fa (k := 1) (r := 1) hf rfl (by kernel_rfl) rfl) ?_
  clear hf a; intro a hf
  obtain ⟨w21, he, hB22, hx23⟩ := ef_store (P := Try.prog) (t := 3) (x := (.tmp 31)) (y := (.tmp 29)) hf rfl rfl (by kernel_rfl) rfl hB16 (Nat.le_of_ble_eq_true rfl) 0
  refine st_s hf rfl rfl he ?_
  clear he hf a; intro a hf
  replace hB4 := hB4.chg hx23 (nmc ne_b3_b15 nm0)
  replace hHle := nlt hHle hx23.size
  replace hTS := hTS.keep (fun _ h => h) (fun b hb hlt => hx23.block b hlt (nmc (by omega) nm0))
  replace hE := hE.trans hx23 (allc (.inr ge_b15) all0)
  clear hB16
  refine sN ?_
  refine hK20 _ _ ?_
  refine wp_seq_mid (fun a w' => ∃ H b2 p, Fr a 68 (fm [(2, .pointer (some ⟨b2, 0, none⟩)), (6, strV (scan l).tail), (7, .pointer (some ⟨p, 0, none⟩))]) ∧ PAt H w' p (startT (scan l).toks l.length) ∧ Chg [] w w' ∧ Blk w' b2 26 [.int .i64 0, strV [], .slice none 0 0, .slice none 0 0] ∧ w.heap.size ≤ b2 ∧ w.heap.size ≤ p ∧ b2 ≠ p ∧ b2 < w'.heap.size) ?_ ?_
  refine wS fun K24 hK24 => ?_
  refine wR ?_
  refine sM hf rfl rfl ?_
  clear hf a; intro a hf
  refine sV hf rfl (ex_len hf Try.underlying42 rfl) ?_
  clear hf a; intro a hf
  refine st_b hf rfl rfl (fun c hc => ex_gtI hf rfl rfl hc) ?_ ?_
  clear hf a; intro ht34 a hf
  obtain ⟨t1, r1, hz⟩ : ∃ t1 r1, (scan l).toks = t1 :: r1 := by cases hz : (scan l).toks with | nil => rw [hz] at ht34; simp at ht34 | cons a b => exact ⟨a, b, rfl⟩
  obtain ⟨_, _, e9, _, _, hrw⟩ := id hTS
  injection e9 with e9 _ _
  subst e9
  obtain ⟨tb, to, rfl, hSb, lt_tb, hcl⟩ := hrw.2 (by rw [hz]; simp)
  have hT1 : w21.cell? ⟨tb, to + 1, none⟩ = some (strV t1.lead) := by have := hcl 1 (by rw [hz]; simp; omega); rw [this, hz]; rfl
  have hst : startT (scan l).toks l.length = ⟨t1 :: r1, t1.lead.length, l.length, 0, 0⟩ := by rw [hz]; rfl
  refine sN ?_
  refine hK24 _ _ ?_
  refine cT hf rfl ?_
  refine wR ?_
  refine sM hf rfl rfl ?_
  clear hf a; intro a hf
  refine sM hf rfl rfl ?_
  clear hf a; intro a hf
  refine sV hf rfl (ex_index (sz := 3) (k := 0) (r := to) hf Try.underlying42 (by kernel_rfl) rfl rfl rfl (by rw [hz]; simp) rfl) ?_
  clear hf a; intro a hf
  refine sV hf rfl (ex_fa (k := 1) (r := to + 1) hf rfl (by kernel_rfl) rfl) ?_
  clear hf a; intro a hf
  refine sV hf rfl (ex_load hf rfl (by kernel_rfl) hT1) ?_
  clear hf a; intro a hf
  refine sV hf rfl (ex_lenS hf Try.underlying9 rfl) ?_
  clear hf a; intro a hf
  refine sV hf rfl (ex_nil hf rfl) ?_
  clear hf a; intro a hf
  refine sV hf rfl (ex_fa (k := 1) (r := 1) hf rfl (by kernel_rfl) rfl) ?_
  clear hf a; intro a hf
  obtain ⟨w25, he, hB26, hx27⟩ := ef_store (P := Try.prog) (t := 3) (x := (.tmp 42)) (y := (.tmp 40)) hf rfl rfl (by kernel_rfl) rfl hB22 (Nat.le_of_ble_eq_true rfl) 0
  refine st_s hf rfl rfl he ?_
  clear he hf a; intro a hf
  replace hB4 := hB4.chg hx27 (nmc ne_b3_b15 nm0)
  replace hHle := nlt hHle hx27.size
  replace hTS := hTS.keep (fun _ h => h) (fun b hb hlt => hx27.block b hlt (nmc (by omega) nm0))
  replace hE := hE.trans hx27 (allc (.inr ge_b15) all0)
  clear hB22
  refine sN ?_
  refine ⟨H, b3, b15, hf.pick ⟨rfl, rfl, rfl, trivial⟩, ?_, hE, hB4, ge_b3, ge_b15, ne_b3_b15, hB4.lt⟩
  rw [hst] at hok ⊢
  exact ⟨hH_b15, hok, _, hB26, hz ▸ hTS⟩
  clear hf a; intro ht34 a hf
  have hz : (scan l).toks = [] := by cases hz : (scan l).toks with | nil => rfl | cons a b => rw [hz] at ht34; first | (simp at ht34; done) | (simp at ht34; omega)
  have hst : startT (scan l).toks l.length = ⟨[], l.length, l.length, 0, 0⟩ := by rw [hz]; rfl
  refine sN ?_
  refine hK24 _ _ ?_
  refine cF hf rfl ?_
  refine wp_skip ?_
  refine ⟨H, b3, b15, hf.pick ⟨rfl, rfl, rfl, trivial⟩, ?_, hE, hB4, ge_b3, ge_b15, ne_b3_b15, hB4.lt⟩
  rw [hst] at hok ⊢
  exact ⟨hH_b15, hok, _, hB22, hz ▸ hTS⟩
  clear hf a; intro a w' hM
  obtain ⟨H, b2, p, hf, hP, hE, hB2, ge_b2, ge_p, ne_b2_p, lt_b2⟩ := hM
  refine wS fun K28 hK28 => ?_
  refine wR ?_
  refine sM hf rfl rfl ?_
  clear hf a; intro a hf
  have lt_p := hP.lt
  obtain ⟨lo, elo⟩ : ∃ x, x = w'.heap.size := ⟨_, rfl⟩
  refine st_c hf rfl rfl rfl (by kernel_rfl) (fileL (n := (scan l).toks.length + 1) hP (Nat.lt_succ_self _)) ?_
  rintro _ w30 ⟨tx, l0, l1, ks, lg, Bk, kn, cs, hft, rfl, hBL, hge, hk1, hk2, hKA, hKR, hP, hx29⟩
  refine ⟨_, rfl, ?_⟩
  clear hf a; intro a hf
  have hge2 : lo ≤ lg := elo ▸ hge
  have ge_lo : w.heap.size ≤ lo := elo ▸ hE.size
  have tb_b2 : b2 < lo := elo ▸ lt_b2
  have tb_p : p < lo := elo ▸ lt_p
  have ne_b2_lg : b2 ≠ lg := by omega
  have ne_p_lg : p ≠ lg := by omega
  have ge_lg : w.heap.size ≤ lg := by omega
  have hKK : KidsAre (fun b => lo ≤ b ∧ b ≠ lg) w30 ks cs ∧ RowIn (fun b => lo ≤ b ∧ b ≠ lg) w30 4 Bk ks.length cs := by subst elo; exact ⟨hKA, hKR⟩
  clear hKA hKR elo hge
  obtain ⟨_, _, tv, hBp, _⟩ := id hP
  replace hB2 := hB2.chg hx29 (nmc ne_b2_p nm0)
  replace hE := hE.trans hx29 (allc (.inr ge_p) all0)
  obtain ⟨w31, he, hB32, hx33⟩ := eN (.tmp 2) (.tmp 44) hf rfl rfl rfl rfl hB2 rfl 0
  refine st_s hf rfl rfl he ?_
  clear he hf a; intro a hf
  replace hBL := hBL.chg hx33 (nmc (Ne.symm ne_b2_lg) nm0)
  replace hBp := hBp.chg hx33 (nmc (Ne.symm ne_b2_p) nm0)
  replace hKK := fk_chg hKK hx33 (fun b hb hlt => (nmc (by omega) nm0))
  replace hE := hE.trans hx33 (allc (.inr ge_b2) all0)
  clear hB2
  refine sN ?_
  refine hK28 _ _ ?_
  refine wS fun K34 hK34 => ?_
  refine wS fun K35 hK35 => ?_
  refine wR ?_
  refine sM hf rfl rfl ?_
  clear hf a; intro a hf
  refine sV hf rfl (ex_nil hf rfl) ?_
  clear hf a; intro a hf
  refine sV hf rfl (ex_fa (k := 3) (r := 3) hf rfl (by kernel_rfl) rfl) ?_
  clear hf a; intro a hf
  refine sV hf rfl (ex_loadB hf rfl (by kernel_rfl) hBp rfl) ?_
  clear hf a; intro a hf
  refine sV hf rfl (ex_neI (c := false) hf rfl rfl (iNeF (by omega))) ?_
  clear hf a; intro a hf
  refine sN ?_
  refine hK35 _ _ ?_
  refine cF hf rfl ?_
  refine wp_skip ?_
  refine hK34 _ _ ?_
  refine wS fun K36 hK36 => ?_
  refine wS fun K37 hK37 => ?_
  refine wR ?_
  refine sV hf rfl (ex_loadBN (m := 4) hf rfl (by kernel_rfl) hB32 rfl) ?_
  clear hf a; intro a hf
  have hTI : TreeIs (fun b => lo ≤ b) w31 (.node 1 tx [l0, l1, []] ks) [.int .i64 1, strV tx, .slice (some ⟨lg, 0, none⟩) 3 3, .slice Bk ks.length kn] := tree_mk (Nat.le_refl _) (maxLen_ge rfl) hk1 hk2 (RowIn.of_blk hBL hge2 rfl) (fk_mono hKK (fun b hb => hb.1)).1 (fk_mono hKK (fun b hb => hb.1)).2
  refine st_c hf rfl rfl rfl (by kernel_rfl) (depthL _ (.node 1 tx [l0, l1, []] ks) (fun b => lo ≤ b) _ _ _ _ _ (Nat.le_refl _) (hft ▸ file_depth he) hTI) ?_
  rintro _ w39 ⟨rfl, hx38⟩
  refine ⟨_, rfl, ?_⟩
  clear hf a; intro a hf
  replace hB32 := hB32.c0 hx38
  replace hBL := hBL.c0 hx38
  replace hBp := hBp.c0 hx38
  replace hKK := fk_chg hKK hx38 (fun b hb hlt => nm0)
  replace hE := hE.t0 hx38
  refine sV hf rfl (ex_gtI (c := false) hf rfl rfl (by rw [← hft]; simp; omega)) ?_
  clear hf a; intro a hf
  refine sN ?_
  refine hK37 _ _ ?_
  refine cF hf rfl ?_
  refine wp_skip ?_
  refine hK36 _ _ ?_
  refine wS fun K40 hK40 => ?_
  refine wR ?_
  refine sV hf rfl (ex_fa (k := 2) (r := 2) hf rfl (by kernel_rfl) rfl) ?_
  clear hf a; intro a hf
  refine sV hf rfl (ex_loadB hf rfl (by kernel_rfl) hB32 rfl) ?_
  clear hf a; intro a hf
  refine sM hf rfl rfl ?_
  clear hf a; intro a hf
  refine sV hf rfl (ex_index (sz := 1) (k := 2) (r := 2) hf Try.underlying23 (by kernel_rfl) rfl rfl rfl (by first | decide | simp) rfl) ?_
  clear hf a; intro a hf
  obtain ⟨w41, he, hB42, hx43⟩ := ef_store (P := Try.prog) (t := 9) (x := (.tmp 66)) (y := (.tmp 65)) hf rfl rfl (by kernel_rfl) rfl hBL (Nat.le_of_ble_eq_true rfl) 0
  refine st_s hf rfl rfl he ?_
  clear he hf a; intro a hf
  replace hB32 := hB32.chg hx43 (nmc ne_b2_lg nm0)
  replace hBp := hBp.chg hx43 (nmc ne_p_lg nm0)
  replace hKK := fk_chg hKK hx43 (fun b hb hlt => (nmc (by omega) nm0))
  replace hE := hE.trans hx43 (allc (.inr ge_lg) all0)
  clear hBL
  refine sN ?_
  refine hK40 _ _ ?_
  refine wS fun K44 hK44 => ?_
  refine wR ?_
  refine sV hf rfl (ex_loadBN (m := 4) hf rfl (by kernel_rfl) hB32 rfl) ?_
  clear hf a; intro a hf
  obtain ⟨w45, he, hB46, hx47⟩ := eN (.tmp 2) (.tmp 67) hf rfl rfl rfl rfl hB32 rfl 0
  refine st_s hf rfl rfl he ?_
  clear he hf a; intro a hf
  replace hB42 := hB42.chg hx47 (nmc (Ne.symm ne_b2_lg) nm0)
  replace hBp := hBp.chg hx47 (nmc (Ne.symm ne_b2_p) nm0)
  replace hKK := fk_chg hKK hx47 (fun b hb hlt => (nmc (by omega) nm0))
  replace hE := hE.trans hx47 (allc (.inr ge_b2) all0)
  clear hB32
  refine sA hf rfl rfl ?_
  clear hf a; intro a hf
  refine sA hf rfl rfl ?_
  clear hf a; intro a hf
  refine sN ?_
  refine hK44 _ _ ?_
  refine wp_ret ?_
  try simp only [Exit.then, Exit.inBlock]
  exact ret_of (rs := [.cell 2 26, .tmp 3, .tmp 4]) hf rfl ⟨_, _, _, _, 4, rfl, rfl, by kernel_rfl, hB46, rfl, ⟨_, _, rfl, rfl, ⟨_, _, rfl, rfl, rfl⟩⟩⟩ (by unfold ParsePost; rw [hq, hft]; exact ⟨_, _, _, _, rfl, tree_mk (Nat.le_refl _) (maxLen_ge rfl) hk1 hk2 (RowIn.of_blk hB42 ge_lg rfl) (fk_mono hKK (fun b hb => nlt ge_lo hb.1)).1 (fk_mono hKK (fun b hb => nlt ge_lo hb.1)).2, hE⟩)
theorem parseL {l : List UInt8} {w : World} (hl : l.length ≤ 281474976710656) : Calls Try.prog 12 [strV l].toArray w (ParsePost l w) := by
  by_cases he : (scan l).err = 0
  · by_cases hfl : (fileT ((scan l).toks.length + 1) (startT (scan l).toks l.length)).2.failed = 0
    · by_cases hdp : 40 < depthT (fileT ((scan l).toks.length + 1) (startT (scan l).toks l.length)).1
      · exact parse_deep hl he hfl hdp
      · exact parse_ok hl he hfl hdp
    · exact parse_failed hl he hfl
  · exact parse_err hl he
end Go.Proofs.Ythpjpngfghcmcaa
namespace Go.Proofs.Ythpjpngfghcmcaa
open Go.RowKit Lx
set_option maxRecDepth 100000
theorem tokCells_at : ∀ (l : List Tok) (k : Nat) (h : k < l.length), (tokCells l)[k * 3]? = some (.int .i64 l[k].kind) ∧ (tokCells l)[k * 3 + 1]? = some (.string ⟨l[k].lead.toArray⟩) ∧ (tokCells l)[k * 3 + 2]? = some (.string ⟨l[k].text.toArray⟩)
  | t :: l, 0, _ => ⟨rfl, rfl, rfl⟩
  | t :: l, k + 1, h => by
    have ih := tokCells_at l k (by simpa using h)
    have e : tokCells (t :: l) = [.int .i64 t.kind, .string ⟨t.lead.toArray⟩, .string ⟨t.text.toArray⟩] ++ tokCells l := rfl
    rw [e]
    refine ⟨?_, ?_, ?_⟩
    · rw [List.getElem?_append_right (by simp; omega)]; simpa [Nat.succ_mul] using ih.1
    · rw [List.getElem?_append_right (by simp; omega)]
      have : (k + 1) * 3 + 1 - 3 = k * 3 + 1 := by omega
      simpa [this] using ih.2.1
    · rw [List.getElem?_append_right (by simp; omega)]
      have : (k + 1) * 3 + 2 - 3 = k * 3 + 2 := by omega
      simpa [this] using ih.2.2
theorem tokRow_at {w : World} {A : Option Addr} {l : List Tok} (h : Row w 3 A l.length (tokCells l)) {k : Nat} (hk : k < l.length) :
    ∃ b off, A = some ⟨b, off, none⟩ ∧ b < w.heap.size ∧ w.cell? ⟨b, off + k * 3, none⟩ = some (.int .i64 l[k].kind) ∧ w.cell? ⟨b, off + k * 3 + 1, none⟩ = some (.string ⟨l[k].lead.toArray⟩) ∧ w.cell? ⟨b, off + k * 3 + 2, none⟩ = some (.string ⟨l[k].text.toArray⟩) := by
  obtain ⟨b, off, rfl, hb, hc⟩ := h.2 (by omega)
  obtain ⟨h0, h1, h2⟩ := tokCells_at l k hk
  refine ⟨b, off, rfl, hb, ?_, ?_, ?_⟩
  · rw [hc _ (by omega), h0]
  · rw [Nat.add_assoc, hc _ (by omega), h1]
  · rw [Nat.add_assoc, hc _ (by omega), h2]
end Go.Proofs.Ythpjpngfghcmcaa
namespace Go.Proofs.Ythpjpngfghcmcaa
open Go.RowKit Lx
set_option maxRecDepth 100000
set_option maxHeartbeats 1000000 in
theorem classL (l : List UInt8) (w : World) (hl : l.length ≤ 281474976710656) : Calls Try.prog 66 #[.string ⟨l.toArray⟩] w fun e w' => e = .returned (.int .i64 (classT l : Nat)) ∧ w = w' := by
  by_cases h0 : l = []
  · subst h0
    go_enter Try.func66, Try.ntmps66
    go_wp2
    go_ret
    exact ⟨rfl, rfl⟩
  · have hb1 : (l == []) = false := by simpa using h0
    have hb2 : l.isEmpty = false := by simpa using h0
    have hpos : 0 < l.length := List.length_pos_iff.2 h0
    obtain ⟨k, n, e, hT⟩ : ∃ k n e, tokenT l = (k, n, e) := ⟨_, _, _, rfl⟩
    have HT := Lib.hid hT
    have HC := Lib.hid (show classT l = if e = 0 ∧ n = l.length then k else 0 from by simp only [classT, if_neg h0, hT])
    clear hT h0
    go_enter Try.func66, Try.ntmps66
    go_wp2_with fail
    refine (tokenL _ _ hpos hl).mono ?_
    rintro e0 w' ⟨rfl, rfl⟩
    rw [HT.out]
    by_cases he : e = 0
    · subst he
      by_cases hn : n = l.length
      · have hnb : ((n : Int) != (l.length : Int)) = false := by simp; omega
        have HR := Lib.hid (HC.out.trans (if_pos ⟨rfl, hn⟩))
        clear hn
        go_wp2
        go_ret
        exact ⟨ret_int (by rw [HR.out]), rfl⟩
      · have hnb : ((n : Int) != (l.length : Int)) = true := by simp; omega
        have HR := Lib.hid (HC.out.trans (if_neg (fun h => hn h.2)))
        clear hn
        go_wp2
        go_ret
        exact ⟨ret_int (by rw [HR.out]; rfl), rfl⟩
    · have heb : ((e : Int) != 0) = true := by simp; omega
      have HR := Lib.hid (HC.out.trans (if_neg (fun h => he h.1)))
      go_wp2
      go_ret
      exact ⟨ret_int (by rw [HR.out]; rfl), rfl⟩
theorem tokenT_white {l : List UInt8} {c : UInt8} (h0 : 0 < l.length) (hc : l[0] = c) (h : whiteB c = true ∨ c.toNat = 35) : tokenT l = (0, 0, 2) := by
  have hv : c.toNat = 9 ∨ c.toNat = 10 ∨ c.toNat = 13 ∨ c.toNat = 32 ∨ c.toNat = 35 := by
    rcases h with h | h
    · simp [whiteB] at h; omega
    · omega
  have ha : allowedB c = true := by
    rcases hv with h | h | h | h | h <;> simp [allowedB, whiteB, printedB, h]
  have hs : signs.contains c = false := by
    have h : ∀ n : UInt8, (c == n) = (c.toNat == n.toNat) := fun n => by rw [Bool.eq_iff_iff]; simp [UInt8.toNat_inj]
    simp only [signs, List.contains_cons, List.contains_nil, Bool.or_false, h]
    rcases hv with h | h | h | h | h <;> rw [h] <;> rfl
  rw [tokenT_eq h0 hc, if_neg (by simp [ha]), if_neg (by simp [letterB, lowerB, upperB]; omega), if_neg (by simp [digitB]; omega), if_neg (by omega), if_neg (by omega), if_neg (by rw [hs]; simp)]
end Go.Proofs.Ythpjpngfghcmcaa
